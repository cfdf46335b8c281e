
/-
  Layer 16: Does; Do of each name.
-/
import Derived.Test.YtkhchmgdaolojaaDoorTxl
namespace Go.Proofs.YtkhchmgdaolojaaDoor.Tms
open Go Go.RowKit Go.Proofs.YtkhchmgdaolojaaDoor.Reg Go.Proofs.YtkhchmgdaolojaaDoor.Rws Go.Proofs.YtkhchmgdaolojaaDoor.Maps Go.Instr
set_option linter.unusedVariables false
set_option linter.unusedSimpArgs false

set_option maxRecDepth 100000 in
set_option maxHeartbeats 4000000 in
theorem tx_Do_none (s : ByteArray) (a : Option Addr) (n c : Nat) (w : World) (hd : doesT s n = false) :
    Calls Tryd.prog 11 #[.string s, .slice a n c] w (DoX 8 w) := by
  have hb0 : Below w.heap.size w (w.alloc (.cells #[.bool false, .slice none 0 0, .slice none 0 0, .int .i64 0, .int .i64 0, .string ⟨#[]⟩, .slice none 0 0] 35 (0, 0))) := (Below.refl _ _).alloc (Nat.le_refl _) _
  have HB0 := Lib.hid hb0
  have HR0 := Lib.hid (heap_alloc_new w (.cells #[.bool false, .slice none 0 0, .slice none 0 0, .int .i64 0, .int .i64 0, .string ⟨#[]⟩, .slice none 0 0] 35 (0, 0)))
  have HDO := Lib.hid hd
  clear hb0 hd
  go_enter Tryd.func11, Tryd.ntmps11
  go_wp2_with fail
  refine (tx_Does _ _ _).mono ?_
  rintro e1 w1 ⟨rfl, rfl⟩
  rw [HDO.out]
  generalize w.alloc (.cells #[.bool false, .slice none 0 0, .slice none 0 0, .int .i64 0, .int .i64 0, .string ⟨#[]⟩, .slice none 0 0] 35 (0, 0)) = W0 at *
  go_wp2_with (with_reducible show wpList _ _ _ (⟨none, .store _ (.tmp 4) _, _, _, _, _⟩ :: _) _ _
               go_must (refine wpList_store_row rfl 35 (.tmp 4) (.tmp 16) rfl w.heap.size #[.bool false, .slice none 0 0, .slice none 0 0, .int .i64 0, .int .i64 0, .string ⟨#[]⟩, .slice none 0 0] rfl (by kernel_rfl) _ _ HR0.out size_did rfl (by simp [Value.oneCell']) ?_))
  have hz := setRow_heap W0 w.heap.size _ (#[.bool false, .slice none 0 0, .slice none 0 0, .int .i64 0, .int .i64 0, .string ⟨#[]⟩, .slice none 0 0] : Array Value) _ _ HR0.out
  exact bodyPost_ret (v := .tuple #[.agg #[.bool false, .slice none 0 0, .slice none 0 0, .int .i64 0, .int .i64 0, .string ⟨#[]⟩, .slice none 0 0], .int .i64 8]) (Push.results_cell_tmp Tryd.results11 _ _ w.heap.size _ #[.bool false, .slice none 0 0, .slice none 0 0, .int .i64 0, .int .i64 0, .string ⟨#[]⟩, .slice none 0 0] _ _ _ rfl (by simp) hz Tryd.underlying35 rfl (by kernel_rfl)) rfl ⟨rfl, below_row HB0.out (by omega)⟩
/-- the first error of terms -/
def firstBad : List Tm → Int
  | [] => 0
  | t :: l => if checkT t = 0 then firstBad l else checkT t
theorem firstBad_cons (t : Tm) (l : List Tm) : firstBad (t :: l) = if checkT t = 0 then firstBad l else checkT t := rfl
theorem firstBad_no {l : List Tm} (h : ∀ t ∈ l, checkT t = 0) : firstBad l = 0 := by
  induction l with
  | nil => rfl
  | cons t l ih => rw [firstBad_cons, if_pos (h t (by simp))]; exact ih fun u hu => h u (by simp [hu])
theorem firstBad_yes {l : List Tm} (h : firstBad l = 0) : ∀ t ∈ l, checkT t = 0 := by
  induction l with
  | nil => simp
  | cons t l ih =>
    rw [firstBad_cons] at h
    by_cases h0 : checkT t = 0
    · rw [if_pos h0] at h
      intro u hu
      rcases List.mem_cons.1 hu with rfl | hu
      · exact h0
      · exact ih h u hu
    · rw [if_neg h0] at h; exact absurd h h0
theorem firstBad_at {l : List Tm} {i : Nat} (h : ∀ t ∈ l.take i, checkT t = 0) (hi : i < l.length) : firstBad l = firstBad (l[i] :: l.drop (i + 1)) := by
  induction l generalizing i with
  | nil => simp at hi
  | cons t l ih =>
    cases i with
    | zero => rfl
    | succ i =>
      rw [firstBad_cons, if_pos (h t (by simp))]
      exact ih (i := i) (fun u hu => h u (by simp [hu])) (by simpa using hi)
def BadRel (n : Nat) (ts : List Tm) (w : World) (vi : Value) (wr : World) : Prop := ∃ i : Nat, i ≤ n ∧ vi = .int .i64 i ∧ Below w.heap.size w wr ∧ ∀ t ∈ ts.take i, checkT t = 0
set_option maxRecDepth 100000 in
set_option maxHeartbeats 4000000 in
theorem tx_Do_bad (s : ByteArray) (ts : List Tm) (P : Nat → Prop) (w : World) (a : Option Addr) (n c : Nat) (h : IsSl w P (.slice a n c) ts) (hl : ts.length = n) (hM : ∀ t ∈ ts, t.size ≤ 1000000) (hn : n ≤ 1000000) (hfb : firstBad ts ≠ 0) (hdo : doesT s n = true) :
    Calls Tryd.prog 11 #[.string s, .slice a n c] w (DoX (firstBad ts) w) := by
  have HFB := Lib.hid hfb
  clear hfb
  have HL := Lib.hid hl
  have H := Lib.hid h.lt2
  have HM := Lib.hid hM
  have HDO := Lib.hid hdo
  clear h hl hM hdo
  have hb0 : Below w.heap.size w (w.alloc (.cells #[.bool false, .slice none 0 0, .slice none 0 0, .int .i64 0, .int .i64 0, .string ⟨#[]⟩, .slice none 0 0] 35 (0, 0))) := (Below.refl _ _).alloc (Nat.le_refl _) _
  have HB0 := Lib.hid hb0
  have HR0 := Lib.hid (heap_alloc_new w (.cells #[.bool false, .slice none 0 0, .slice none 0 0, .int .i64 0, .int .i64 0, .string ⟨#[]⟩, .slice none 0 0] 35 (0, 0)))
  have hs0 : w.heap.size < (w.alloc (.cells #[.bool false, .slice none 0 0, .slice none 0 0, .int .i64 0, .int .i64 0, .string ⟨#[]⟩, .slice none 0 0] 35 (0, 0))).heap.size := by simp
  clear hb0
  go_enter Tryd.func11, Tryd.ntmps11
  go_wp2_with fail
  refine (tx_Does _ _ _).mono ?_
  rintro e1 w1 ⟨rfl, rfl⟩
  rw [HDO.out]
  generalize w.alloc (.cells #[.bool false, .slice none 0 0, .slice none 0 0, .int .i64 0, .int .i64 0, .string ⟨#[]⟩, .slice none 0 0] 35 (0, 0)) = W0 at *
  have HST := Lib.hid (show BadRel n ts W0 (.int .i64 ((0 : Nat) : Int)) W0 from ⟨0, by omega, rfl, Below.refl _ _, by simp⟩)
  go_wp2
  go_loopw [19] (fun v19 wr => BadRel n ts W0 v19 wr) (fun v19 _ => n - (intOf v19).toNat)
  case atStart => exact HST.out
  case round =>
    clear HST
    obtain ⟨i, hi, rfl, hbl, hgood⟩ := hrel
    have HBL := Lib.hid hbl
    clear hbl
    by_cases hin : i < n
    · have hin' : i < ts.length := by rw [HL.out]; exact hin
      obtain ⟨T, hT⟩ : ∃ T, T = ts[i] := ⟨_, rfl⟩
      have hTs : T.size ≤ 1000000 := by rw [hT]; exact HM.out _ (List.getElem_mem _)
      have hT9 : T.size ≤ 1000000000 := by omega
      obtain ⟨b, off, e1, -, hat⟩ := (H.out.below ((HB0.out.trans (HBL.out.mono HB0.out.size)))).at i hin'
      rw [← hT] at hat
      subst e1
      have b1 : decide ((i : Int) < n) = true := by simp; omega
      obtain ⟨qa, qc, y0, y1, y2, y3, hit, hbw⟩ := hat.read
      have hba : Below wr.heap.size wr (wr.alloc (.cells #[.int .i64 T.k, .int .i64 T.n, .string T.s, .slice qa T.args.length qc] 28 (0, 0))) := (Below.refl _ _).alloc (Nat.le_refl _) _
      have HIT := Lib.hid (hit.below hba)
      have HBA := Lib.hid (HBL.out.trans (hba.mono HBL.out.size))
      have HG := Lib.hid (show firstBad ts = firstBad (T :: ts.drop (i + 1)) by rw [hT]; exact firstBad_at hgood hin')
      have HGT := Lib.hid (show checkT T = 0 → ∀ t ∈ ts.take (i + 1), checkT t = 0 from fun h0 t ht => by
        rw [List.take_succ_eq_append_getElem hin'] at ht
        rcases List.mem_append.1 ht with ht | ht
        · exact hgood _ ht
        · simp only [List.mem_singleton] at ht; rw [ht, ← hT]; exact h0)
      have HRX := Lib.hid (row_on (row_on HR0.out HBL.out) hba)
      clear hat hit hba hT hTs hgood
      go_wp2_with fail
      refine (tm_Check T _ _ _ hT9 HIT.out).mono ?_
      rintro e9 w9 ⟨rfl, hb9⟩
      by_cases hz : checkT T = 0
      · rw [hz]
        have HRL := Lib.hid (show BadRel n ts W0 (.int .i64 ((i + 1 : Nat) : Int)) w9 from ⟨i + 1, by omega, rfl, HBA.out.trans (hb9.mono HBA.out.size), HGT.out hz⟩)
        clear hb9 HBA HIT hz
        go_wp2
        go_roundw
        case measure => simp [intOf]; omega
        case rel => exact HRL.out
      · obtain ⟨ce, hce⟩ : ∃ ce, ce = checkT T := ⟨_, rfl⟩
        rw [← hce]
        have HFE := Lib.hid (show firstBad ts = ce by rw [HG.out, firstBad_cons, if_neg hz, hce])
        have hc0 : (ce != 0) = true := by rw [hce]; simpa using hz
        have HR9 := Lib.hid (row_on HRX.out hb9)
        have HB9 := Lib.hid (HB0.out.trans ((HBA.out.trans (hb9.mono HBA.out.size)).mono HB0.out.size))
        clear hb9 HBA HIT hz hce HBL HB0 HR0 HRX HG HGT
        go_wp2_with (with_reducible show wpList _ _ _ (⟨none, .store _ (.tmp 4) _, _, _, _, _⟩ :: _) _ _
                     go_must (refine wpList_store_row rfl 35 (.tmp 4) (.tmp 27) rfl w.heap.size #[.bool false, .slice none 0 0, .slice none 0 0, .int .i64 0, .int .i64 0, .string ⟨#[]⟩, .slice none 0 0] rfl (by kernel_rfl) _ _ HR9.out size_did rfl (by simp [Value.oneCell']) ?_))
        have hz := setRow_heap w9 w.heap.size _ (#[.bool false, .slice none 0 0, .slice none 0 0, .int .i64 0, .int .i64 0, .string ⟨#[]⟩, .slice none 0 0] : Array Value) _ _ HR9.out
        rw [HFE.out]
        exact bodyPost_ret (v := .tuple #[.agg #[.bool false, .slice none 0 0, .slice none 0 0, .int .i64 0, .int .i64 0, .string ⟨#[]⟩, .slice none 0 0], .int .i64 ce]) (Push.results_cell_tmp Tryd.results11 _ _ w.heap.size _ #[.bool false, .slice none 0 0, .slice none 0 0, .int .i64 0, .int .i64 0, .string ⟨#[]⟩, .slice none 0 0] _ _ _ rfl (by simp) hz Tryd.underlying35 rfl (by kernel_rfl)) rfl ⟨rfl, below_row HB9.out (by omega)⟩
    · exfalso
      refine HFB.out (firstBad_no fun t ht => hgood t ?_)
      rw [List.take_of_length_le (by rw [HL.out]; omega)]; exact ht
end Go.Proofs.YtkhchmgdaolojaaDoor.Tms
