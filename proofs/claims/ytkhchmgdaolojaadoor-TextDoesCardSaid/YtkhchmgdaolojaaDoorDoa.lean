
/-
  Layer 16: the reference's Do and Same, walked.
  Layer 16: both sides' Do answer alike, of whatever terms; Same says so.
  Layer 16: TextDoes: its argument; plain facts of the terms that it asks of.
-/
import Derived.Test.YtkhchmgdaolojaaDoorTyf
import Derived.Test.YtkhchmgdaolojaaDoorRmay
import Derived.Test.YtkhchmgdaolojaaDoorRall
import Derived.Handy
import Derived.LoopN
import Derived.Test.YtkhchmgdaolojaaDoorL16M
import Derived.Test.YtkhchmgdaolojaaDoorPss
import Derived.OpenShut
import Derived.ProofKit
namespace Go.Proofs.YtkhchmgdaolojaaDoor.Tms
open Go Go.RowKit Go.Proofs.YtkhchmgdaolojaaDoor.Reg Go.Proofs.YtkhchmgdaolojaaDoor.Rws Go.Proofs.YtkhchmgdaolojaaDoor.Maps Go.Instr
set_option linter.unusedVariables false
set_option linter.unusedSimpArgs false

mutual
theorem sameT_refl16 : ∀ t : Tm, sameT t t = true
  | .mk k n s a => by simp [sameT, sameL_refl16 a]
theorem sameL_refl16 : ∀ l : List Tm, sameL l l = true
  | [] => by simp [sameL]
  | t :: l => by simp [sameL, sameT_refl16 t, sameL_refl16 l]
end
def dOk : Dd → Bool
  | .is _ t => t.ok
  | .wr t => t.ok
theorem IsDe.avoid {w : World} {Pi Pt : Nat → Prop} {g : Nat} {v : Value} {d : Dd} (hz : Zrow w g) (hok : dOk d = true) (h : IsDe w Pi Pt v d) : IsDe w Pi (fun b => Pt b ∧ b ≠ g) v d := by
  cases d with
  | is a t =>
    obtain ⟨q, k, q', k', e, h1, x, c, e2, h2⟩ := h
    have hl : okL [t] = true := by simp only [okL, Bool.and_true]; exact hok
    exact ⟨q, k, q', k', e, h1, x, c, e2, ArgsFrom.avoidC hz _ x 0 hl h2⟩
  | wr t => obtain ⟨q, k, e, h1⟩ := h; exact ⟨q, k, e, h1.avoidC hz hok⟩
/-- Do's answer where there is such a builtin, and its terms are whole -/
def RdPost2 (d : Dd) (w : World) (e : Ending) (w' : World) : Prop := ∃ v, e = .returned (.tuple #[v, .int .i64 0]) ∧ IsDd w' AnyB v d ∧ Below w.heap.size w w'
set_option maxRecDepth 100000 in
set_option maxHeartbeats 4000000 in
theorem r16_Do_none (s : ByteArray) (a : Option Addr) (n c : Nat) (w : World) (hd : doesT s n = false) :
    Calls Tryd.prog 12 #[.string s, .slice a n c] w (DoX 8 w) := by
  have hb0 : Below w.heap.size w (w.alloc (.cells #[.bool false, .slice none 0 0, .slice none 0 0, .int .i64 0, .int .i64 0, .string ⟨#[]⟩, .slice none 0 0] 35 (0, 0))) := (Below.refl _ _).alloc (Nat.le_refl _) _
  have HB0 := Lib.hid hb0
  have HR0 := Lib.hid (heap_alloc_new w (.cells #[.bool false, .slice none 0 0, .slice none 0 0, .int .i64 0, .int .i64 0, .string ⟨#[]⟩, .slice none 0 0] 35 (0, 0)))
  have HDO := Lib.hid hd
  clear hb0 hd
  go_enter Tryd.func12, Tryd.ntmps12
  go_wp2_with fail
  refine (r16_Does _ _ _).mono ?_
  rintro e1 w1 ⟨rfl, rfl⟩
  rw [HDO.out]
  generalize w.alloc (.cells #[.bool false, .slice none 0 0, .slice none 0 0, .int .i64 0, .int .i64 0, .string ⟨#[]⟩, .slice none 0 0] 35 (0, 0)) = W0 at *
  go_wp2_with (with_reducible show wpList _ _ _ (⟨none, .store _ (.tmp 4) _, _, _, _, _⟩ :: _) _ _
               go_must (refine wpList_store_row rfl 35 (.tmp 4) (.tmp 14) rfl w.heap.size #[.bool false, .slice none 0 0, .slice none 0 0, .int .i64 0, .int .i64 0, .string ⟨#[]⟩, .slice none 0 0] rfl (by kernel_rfl) _ _ HR0.out size_did rfl (by simp [Value.oneCell']) ?_))
  have hz := setRow_heap W0 w.heap.size _ (#[.bool false, .slice none 0 0, .slice none 0 0, .int .i64 0, .int .i64 0, .string ⟨#[]⟩, .slice none 0 0] : Array Value) _ _ HR0.out
  exact bodyPost_ret (v := .tuple #[.agg #[.bool false, .slice none 0 0, .slice none 0 0, .int .i64 0, .int .i64 0, .string ⟨#[]⟩, .slice none 0 0], .int .i64 8]) (Push.results_cell_tmp Tryd.results12 _ _ w.heap.size _ #[.bool false, .slice none 0 0, .slice none 0 0, .int .i64 0, .int .i64 0, .string ⟨#[]⟩, .slice none 0 0] _ _ _ rfl (by simp) hz Tryd.underlying35 rfl (by kernel_rfl)) rfl ⟨rfl, below_row HB0.out (by omega)⟩
set_option maxRecDepth 100000 in
set_option maxHeartbeats 4000000 in
theorem r16_Do_bad (s : ByteArray) (ts : List Tm) (P : Nat → Prop) (w : World) (a : Option Addr) (n c : Nat) (h : IsSl w P (.slice a n c) ts) (hl : ts.length = n) (hM : ∀ t ∈ ts, t.size ≤ 1000000) (hn : n ≤ 1000000) (hfb : firstBad ts ≠ 0) (hdo : doesT s n = true) :
    Calls Tryd.prog 12 #[.string s, .slice a n c] w (DoX (firstBad ts) w) := by
  have HFB := Lib.hid hfb
  clear hfb
  have HL := Lib.hid hl
  have H := Lib.hid h.lt2
  have HM := Lib.hid hM
  have HDO := Lib.hid hdo
  clear h hl hM hdo
  have hb0 : Below w.heap.size w (w.alloc (.cells #[.bool false, .slice none 0 0, .slice none 0 0, .int .i64 0, .int .i64 0, .string ⟨#[]⟩, .slice none 0 0] 35 (0, 0))) := (Below.refl _ _).alloc (Nat.le_refl _) _
  have HB0 := Lib.hid hb0
  have HR0 := Lib.hid (heap_alloc_new w (.cells #[.bool false, .slice none 0 0, .slice none 0 0, .int .i64 0, .int .i64 0, .string ⟨#[]⟩, .slice none 0 0] 35 (0, 0)))
  have hs0 : w.heap.size < (w.alloc (.cells #[.bool false, .slice none 0 0, .slice none 0 0, .int .i64 0, .int .i64 0, .string ⟨#[]⟩, .slice none 0 0] 35 (0, 0))).heap.size := by simp
  clear hb0
  go_enter Tryd.func12, Tryd.ntmps12
  go_wp2_with fail
  refine (r16_Does _ _ _).mono ?_
  rintro e1 w1 ⟨rfl, rfl⟩
  rw [HDO.out]
  generalize w.alloc (.cells #[.bool false, .slice none 0 0, .slice none 0 0, .int .i64 0, .int .i64 0, .string ⟨#[]⟩, .slice none 0 0] 35 (0, 0)) = W0 at *
  have HST := Lib.hid (show BadRel n ts W0 (.int .i64 ((0 : Nat) : Int)) W0 from ⟨0, by omega, rfl, Below.refl _ _, by simp⟩)
  go_wp2
  go_loopw [17] (fun v17 wr => BadRel n ts W0 v17 wr) (fun v17 _ => n - (intOf v17).toNat)
  case atStart => exact HST.out
  case round =>
    clear HST
    obtain ⟨i, hi, rfl, hbl, hgood⟩ := hrel
    have HBL := Lib.hid hbl
    clear hbl
    by_cases hin : i < n
    · have hin' : i < ts.length := by rw [HL.out]; exact hin
      obtain ⟨T, hT⟩ : ∃ T, T = ts[i] := ⟨_, rfl⟩
      have hTs : T.size ≤ 1000000 := by rw [hT]; exact HM.out _ (List.getElem_mem _)
      have hT9 : T.size ≤ 1000000000 := by omega
      obtain ⟨b, off, e1, -, hat⟩ := (H.out.below ((HB0.out.trans (HBL.out.mono HB0.out.size)))).at i hin'
      rw [← hT] at hat
      subst e1
      have b1 : decide ((i : Int) < n) = true := by simp; omega
      obtain ⟨qa, qc, y0, y1, y2, y3, hit, hbw⟩ := hat.read
      have hba : Below wr.heap.size wr (wr.alloc (.cells #[.int .i64 T.k, .int .i64 T.n, .string T.s, .slice qa T.args.length qc] 28 (0, 0))) := (Below.refl _ _).alloc (Nat.le_refl _) _
      have HIT := Lib.hid (hit.below hba)
      have HBA := Lib.hid (HBL.out.trans (hba.mono HBL.out.size))
      have HG := Lib.hid (show firstBad ts = firstBad (T :: ts.drop (i + 1)) by rw [hT]; exact firstBad_at hgood hin')
      have HGT := Lib.hid (show checkT T = 0 → ∀ t ∈ ts.take (i + 1), checkT t = 0 from fun h0 t ht => by
        rw [List.take_succ_eq_append_getElem hin'] at ht
        rcases List.mem_append.1 ht with ht | ht
        · exact hgood _ ht
        · simp only [List.mem_singleton] at ht; rw [ht, ← hT]; exact h0)
      have HRX := Lib.hid (row_on (row_on HR0.out HBL.out) hba)
      clear hat hit hba hT hTs hgood
      go_wp2_with fail
      refine (ref_check T _ _ _ hT9 HIT.out).mono ?_
      rintro e9 w9 ⟨rfl, hb9⟩
      by_cases hz : checkT T = 0
      · rw [hz]
        have HRL := Lib.hid (show BadRel n ts W0 (.int .i64 ((i + 1 : Nat) : Int)) w9 from ⟨i + 1, by omega, rfl, HBA.out.trans (hb9.mono HBA.out.size), HGT.out hz⟩)
        clear hb9 HBA HIT hz
        go_wp2
        go_roundw
        case measure => simp [intOf]; omega
        case rel => exact HRL.out
      · obtain ⟨ce, hce⟩ : ∃ ce, ce = checkT T := ⟨_, rfl⟩
        rw [← hce]
        have HFE := Lib.hid (show firstBad ts = ce by rw [HG.out, firstBad_cons, if_neg hz, hce])
        have hc0 : (ce != 0) = true := by rw [hce]; simpa using hz
        have HR9 := Lib.hid (row_on HRX.out hb9)
        have HB9 := Lib.hid (HB0.out.trans ((HBA.out.trans (hb9.mono HBA.out.size)).mono HB0.out.size))
        clear hb9 HBA HIT hz hce HBL HB0 HR0 HRX HG HGT
        go_wp2_with (with_reducible show wpList _ _ _ (⟨none, .store _ (.tmp 4) _, _, _, _, _⟩ :: _) _ _
                     go_must (refine wpList_store_row rfl 35 (.tmp 4) (.tmp 25) rfl w.heap.size #[.bool false, .slice none 0 0, .slice none 0 0, .int .i64 0, .int .i64 0, .string ⟨#[]⟩, .slice none 0 0] rfl (by kernel_rfl) _ _ HR9.out size_did rfl (by simp [Value.oneCell']) ?_))
        have hz := setRow_heap w9 w.heap.size _ (#[.bool false, .slice none 0 0, .slice none 0 0, .int .i64 0, .int .i64 0, .string ⟨#[]⟩, .slice none 0 0] : Array Value) _ _ HR9.out
        rw [HFE.out]
        exact bodyPost_ret (v := .tuple #[.agg #[.bool false, .slice none 0 0, .slice none 0 0, .int .i64 0, .int .i64 0, .string ⟨#[]⟩, .slice none 0 0], .int .i64 ce]) (Push.results_cell_tmp Tryd.results12 _ _ w.heap.size _ #[.bool false, .slice none 0 0, .slice none 0 0, .int .i64 0, .int .i64 0, .string ⟨#[]⟩, .slice none 0 0] _ _ _ rfl (by simp) hz Tryd.underlying35 rfl (by kernel_rfl)) rfl ⟨rfl, below_row HB9.out (by omega)⟩
    · exfalso
      refine HFB.out (firstBad_no fun t ht => hgood t ?_)
      rw [List.take_of_length_le (by rw [HL.out]; omega)]; exact ht
set_option maxRecDepth 100000 in
set_option maxHeartbeats 4000000 in
theorem r16_Do_good (s : ByteArray) (ts : List Tm) (P : Nat → Prop) (w : World) (a : Option Addr) (n c : Nat) (h : IsSl w P (.slice a n c) ts) (hl : ts.length = n) (hM : ∀ t ∈ ts, t.size ≤ 1000000) (hn : n ≤ 1000000) (hfb : ∀ t ∈ ts, checkT t = 0) (hdo : doesT s n = true) (d : Dd) (hok : dOk d = true) (hD : ∀ (W : World) (P : Nat → Prop), IsSl W P (.slice a n c) ts → Calls Tryd.prog 31 #[.string s, .slice a n c] W (RdPost d W)) :
    Calls Tryd.prog 12 #[.string s, .slice a n c] w (RdPost2 d w) := by
  have HFB := Lib.hid hfb
  have HDD := Lib.hid hD
  have HOK := Lib.hid hok
  clear hfb hD hok
  have HL := Lib.hid hl
  have H := Lib.hid h.lt2
  have HM := Lib.hid hM
  have HDO := Lib.hid hdo
  clear h hl hM hdo
  have hb0 : Below w.heap.size w (w.alloc (.cells #[.bool false, .slice none 0 0, .slice none 0 0, .int .i64 0, .int .i64 0, .string ⟨#[]⟩, .slice none 0 0] 35 (0, 0))) := (Below.refl _ _).alloc (Nat.le_refl _) _
  have HB0 := Lib.hid hb0
  have HR0 := Lib.hid (heap_alloc_new w (.cells #[.bool false, .slice none 0 0, .slice none 0 0, .int .i64 0, .int .i64 0, .string ⟨#[]⟩, .slice none 0 0] 35 (0, 0)))
  have hs0 : w.heap.size < (w.alloc (.cells #[.bool false, .slice none 0 0, .slice none 0 0, .int .i64 0, .int .i64 0, .string ⟨#[]⟩, .slice none 0 0] 35 (0, 0))).heap.size := by simp
  clear hb0
  go_enter Tryd.func12, Tryd.ntmps12
  go_wp2_with fail
  refine (r16_Does _ _ _).mono ?_
  rintro e1 w1 ⟨rfl, rfl⟩
  rw [HDO.out]
  generalize w.alloc (.cells #[.bool false, .slice none 0 0, .slice none 0 0, .int .i64 0, .int .i64 0, .string ⟨#[]⟩, .slice none 0 0] 35 (0, 0)) = W0 at *
  have HST := Lib.hid (show BadRel n ts W0 (.int .i64 ((0 : Nat) : Int)) W0 from ⟨0, by omega, rfl, Below.refl _ _, by simp⟩)
  go_wp2
  go_loopw [17] (fun v17 wr => BadRel n ts W0 v17 wr) (fun v17 _ => n - (intOf v17).toNat)
  case atStart => exact HST.out
  case round =>
    clear HST
    obtain ⟨i, hi, rfl, hbl, hgood⟩ := hrel
    have HBL := Lib.hid hbl
    clear hbl
    by_cases hin : i < n
    · have hin' : i < ts.length := by rw [HL.out]; exact hin
      obtain ⟨T, hT⟩ : ∃ T, T = ts[i] := ⟨_, rfl⟩
      have hTs : T.size ≤ 1000000 := by rw [hT]; exact HM.out _ (List.getElem_mem _)
      have hT9 : T.size ≤ 1000000000 := by omega
      obtain ⟨b, off, e1, -, hat⟩ := (H.out.below ((HB0.out.trans (HBL.out.mono HB0.out.size)))).at i hin'
      rw [← hT] at hat
      subst e1
      have b1 : decide ((i : Int) < n) = true := by simp; omega
      obtain ⟨qa, qc, y0, y1, y2, y3, hit, hbw⟩ := hat.read
      have hba : Below wr.heap.size wr (wr.alloc (.cells #[.int .i64 T.k, .int .i64 T.n, .string T.s, .slice qa T.args.length qc] 28 (0, 0))) := (Below.refl _ _).alloc (Nat.le_refl _) _
      have HIT := Lib.hid (hit.below hba)
      have HBA := Lib.hid (HBL.out.trans (hba.mono HBL.out.size))
      have HG := Lib.hid (show firstBad ts = firstBad (T :: ts.drop (i + 1)) by rw [hT]; exact firstBad_at hgood hin')
      have HGT := Lib.hid (show checkT T = 0 → ∀ t ∈ ts.take (i + 1), checkT t = 0 from fun h0 t ht => by
        rw [List.take_succ_eq_append_getElem hin'] at ht
        rcases List.mem_append.1 ht with ht | ht
        · exact hgood _ ht
        · simp only [List.mem_singleton] at ht; rw [ht, ← hT]; exact h0)
      have HRX := Lib.hid (row_on (row_on HR0.out HBL.out) hba)
      have hTc := Lib.hid hT
      clear hat hit hba hT hTs hgood
      go_wp2_with fail
      refine (ref_check T _ _ _ hT9 HIT.out).mono ?_
      rintro e9 w9 ⟨rfl, hb9⟩
      by_cases hz : checkT T = 0
      · rw [hz]
        have HRL := Lib.hid (show BadRel n ts W0 (.int .i64 ((i + 1 : Nat) : Int)) w9 from ⟨i + 1, by omega, rfl, HBA.out.trans (hb9.mono HBA.out.size), HGT.out hz⟩)
        clear hb9 HBA HIT hz hTc
        go_wp2
        go_roundw
        case measure => simp [intOf]; omega
        case rel => exact HRL.out
      · exact absurd (show checkT T = 0 by rw [hTc.out]; exact HFB.out _ (List.getElem_mem hin')) hz
    · have b1 : decide ((i : Int) < n) = false := by simp; omega
      have HR1 := Lib.hid (row_on HR0.out HBL.out)
      have HB1 := Lib.hid (HB0.out.trans (HBL.out.mono HB0.out.size))
      have hs1 : w.heap.size < wr.heap.size := (Array.getElem?_eq_some_iff.1 HR1.out).1
      clear hgood HBL HB0 HR0
      go_wp2_with fail
      refine (HDD.out wr _ (H.out.below HB1.out)).mono ?_
      rintro e9 w9 ⟨v9, rfl, hd9, hb9⟩
      obtain ⟨cb, u1, u2, u3, n1, k1, n2, k2, n3, k3, cx, cy, cs, rfl⟩ := hd9.cells
      have HR9 := Lib.hid (row_on HR1.out hb9)
      have HD9 := Lib.hid (hd9.avoid (zrow_did HR9.out) HOK.out)
      have HB9 := Lib.hid (HB1.out.trans (hb9.mono HB1.out.size))
      clear hd9 hb9
      go_wp2_with (with_reducible show wpList _ _ _ (⟨none, .store _ (.tmp 4) _, _, _, _, _⟩ :: _) _ _
                   go_must (refine wpList_store_row rfl 35 (.tmp 4) (.tmp 30) rfl w.heap.size #[.bool cb, .slice u1 n1 k1, .slice u2 n2 k2, .int .i64 cx, .int .i64 cy, .string cs, .slice u3 n3 k3] rfl rfl _ _ HR9.out size_did rfl (by simp [Value.oneCell']) ?_))
      have hz := setRow_heap w9 w.heap.size _ (#[.bool cb, .slice u1 n1 k1, .slice u2 n2 k2, .int .i64 cx, .int .i64 cy, .string cs, .slice u3 n3 k3] : Array Value) _ _ HR9.out
      exact bodyPost_ret (v := .tuple #[.agg #[.bool cb, .slice u1 n1 k1, .slice u2 n2 k2, .int .i64 cx, .int .i64 cy, .string cs, .slice u3 n3 k3], .int .i64 0]) (Push.results_cell_tmp Tryd.results12 _ _ w.heap.size _ #[.bool cb, .slice u1 n1 k1, .slice u2 n2 k2, .int .i64 cx, .int .i64 cy, .string cs, .slice u3 n3 k3] _ _ _ rfl (by simp) hz Tryd.underlying35 rfl (by kernel_rfl)) rfl ⟨_, rfl, (HD9.out.imp (fun _ hb => hb) (fun _ hb => hb.1) (by simp) (fun b hb _ => setRow_other w9 w.heap.size b _ (by rcases hb with hb | hb; (· have h : wr.heap.size < b := hb; omega); (· exact hb.2)))).any, below_row HB9.out (Nat.le_refl _)⟩
set_option maxRecDepth 100000 in
set_option maxHeartbeats 8000000 in
theorem r16_Same_wr (t : Tm) (q q' : Option Addr) (k k' : Nat) (P P' : Nat → Prop) (w : World) (hM : t.size ≤ 1000000000) (h1 : IsTm w P (.agg #[.int .i64 t.k, .int .i64 t.n, .string t.s, .slice q t.args.length k]) t) (h2 : IsTm w P' (.agg #[.int .i64 t.k, .int .i64 t.n, .string t.s, .slice q' t.args.length k']) t) : Calls Tryd.prog 13 #[.agg #[.bool false, .slice none 0 0, .slice none 0 0, .int .i64 t.k, .int .i64 t.n, .string t.s, .slice q t.args.length k], .agg #[.bool false, .slice none 0 0, .slice none 0 0, .int .i64 t.k, .int .i64 t.n, .string t.s, .slice q' t.args.length k']] w (Says true w) := by
  have H1 := Lib.hid h1
  have H2 := Lib.hid h2
  have HM := Lib.hid hM
  clear h1 h2 hM
  obtain ⟨w1, w2, w3, w4⟩ := two w (.cells #[.bool false, .slice none 0 0, .slice none 0 0, .int .i64 t.k, .int .i64 t.n, .string t.s, .slice q t.args.length k] 35 (0, 0)) (.cells #[.bool false, .slice none 0 0, .slice none 0 0, .int .i64 t.k, .int .i64 t.n, .string t.s, .slice q' t.args.length k'] 35 (0, 0))
  have HR1 := Lib.hid w1
  have HR2 := Lib.hid w2
  have HB := Lib.hid w4
  obtain ⟨x0, x1, x2, x3, x4, x5, x6⟩ := row7 w1
  obtain ⟨y0, y1, y2, y3, y4, y5, y6⟩ := row7 w2
  clear w1 w2 w3 w4
  go_enter Tryd.func13, Tryd.ntmps13
  go_wp2_with fail
  refine (ref_all [] [] _ _ AnyB AnyB _ (by decide) (IsSl.nil _ _ none 0) (IsSl.nil _ _ none 0)).mono ?_
  rintro e1 u1 ⟨rfl, hb1⟩
  rw [show sameL [] [] = true from rfl]
  have hx := HB.out.trans (hb1.mono HB.out.size)
  have HI1 := Lib.hid (H1.out.below hx)
  have HI2 := Lib.hid (H2.out.below hx)
  clear x0 x1 x2 x3 x4 x5 x6 y0 y1 y2 y3 y4 y5 y6
  obtain ⟨x0, x1, x2, x3, x4, x5, x6⟩ := row7 (row_on HR1.out hb1)
  obtain ⟨y0, y1, y2, y3, y4, y5, y6⟩ := row7 (row_on HR2.out hb1)
  have HBX := Lib.hid hx
  have hr1 := row_on HR1.out hb1
  have hr2 := row_on HR2.out hb1
  have HS1 := Lib.hid hr1
  have HS2 := Lib.hid hr2
  clear hb1 hx hr1 hr2 HR1 HR2 HB H1 H2
  go_wp2_with fail
  refine (ref_same _ t t _ _ _ _ _ (Nat.le_refl _) HM.out HI1.out HI2.out).mono ?_
  rintro e2 u2 ⟨rfl, hb2⟩
  rw [sameT_refl16]
  have HBY := Lib.hid (HBX.out.trans (hb2.mono HBX.out.size))
  clear x0 x1 x2 x3 x4 x5 x6 y0 y1 y2 y3 y4 y5 y6
  obtain ⟨x0, x1, x2, x3, x4, x5, x6⟩ := row7 (row_on HS1.out hb2)
  clear hb2
  go_wp2
  go_rounds 1
  go_wp2
  go_ret
  exact ⟨rfl, HBY.out⟩
set_option maxRecDepth 100000 in
set_option maxHeartbeats 8000000 in
theorem r16_Same_is (n : Int) (t : Tm) (q q' p p' : Option Addr) (k k' l l' : Nat) (P1 P2 P3 P4 : Nat → Prop) (w : World) (hM : t.size ≤ 100000000) (h1 : IntSl w P1 (.slice q 1 k) [n]) (h2 : IsSl w P2 (.slice q' 1 k') [t]) (h3 : IntSl w P3 (.slice p 1 l) [n]) (h4 : IsSl w P4 (.slice p' 1 l') [t]) : Calls Tryd.prog 13 #[.agg #[.bool true, .slice q 1 k, .slice q' 1 k', .int .i64 0, .int .i64 0, .string ⟨#[]⟩, .slice none 0 0], .agg #[.bool true, .slice p 1 l, .slice p' 1 l', .int .i64 0, .int .i64 0, .string ⟨#[]⟩, .slice none 0 0]] w (Says true w) := by
  have H2 := Lib.hid h2
  have H4 := Lib.hid h4
  have HM := Lib.hid hM
  obtain ⟨a1, c1, e1, -, -, h1'⟩ := h1
  obtain ⟨ib, io, ea, -, il, ic⟩ := h1' 0 (by simp)
  simp only [Value.slice.injEq] at e1
  obtain ⟨rfl, -, -⟩ := e1
  subst ea
  obtain ⟨a3, c3, e3, -, -, h3'⟩ := h3
  obtain ⟨jb, jo, eb, -, jl, jc⟩ := h3' 0 (by simp)
  simp only [Value.slice.injEq] at e3
  obtain ⟨rfl, -, -⟩ := e3
  subst eb
  simp only [List.getElem_cons_zero, Nat.add_zero] at ic jc
  have HC := Lib.hid (And.intro il (And.intro ic (And.intro jl jc)))
  clear h1' h3' h2 h4 hM il ic jl jc
  obtain ⟨w1, w2, w3, w4⟩ := two w (.cells #[.bool true, .slice (some ⟨ib, io, none⟩) 1 k, .slice q' 1 k', .int .i64 0, .int .i64 0, .string ⟨#[]⟩, .slice none 0 0] 35 (0, 0)) (.cells #[.bool true, .slice (some ⟨jb, jo, none⟩) 1 l, .slice p' 1 l', .int .i64 0, .int .i64 0, .string ⟨#[]⟩, .slice none 0 0] 35 (0, 0))
  have HR1 := Lib.hid w1
  have HR2 := Lib.hid w2
  have HB := Lib.hid w4
  obtain ⟨x0, x1, x2, x3, x4, x5, x6⟩ := row7 w1
  obtain ⟨y0, y1, y2, y3, y4, y5, y6⟩ := row7 w2
  clear w1 w2 w3 w4
  go_enter Tryd.func13, Tryd.ntmps13
  go_wp2_with fail
  refine (ref_all [t] [t] _ _ _ _ _ (by simp only [sizeL]; have := HM.out; omega) (H2.out.below HB.out) (H4.out.below HB.out)).mono ?_
  rintro e1 u1 ⟨rfl, hb1⟩
  rw [sameL_refl16]
  have HBX := Lib.hid (HB.out.trans (hb1.mono HB.out.size))
  clear x0 x1 x2 x3 x4 x5 x6 y0 y1 y2 y3 y4 y5 y6
  obtain ⟨x0, x1, x2, x3, x4, x5, x6⟩ := row7 (row_on HR1.out hb1)
  obtain ⟨y0, y1, y2, y3, y4, y5, y6⟩ := row7 (row_on HR2.out hb1)
  have HS1 := Lib.hid (row_on HR1.out hb1)
  have HS2 := Lib.hid (row_on HR2.out hb1)
  clear hb1 HR1 HR2 HB H2 H4
  go_wp2_with fail
  refine (ref_same _ zeroT0 zeroT0 _ _ AnyB AnyB _ (Nat.le_refl _) (by decide) (IsTm.mk' (t := zeroT0) (IsSl.nil _ _ none 0)) (IsTm.mk' (t := zeroT0) (IsSl.nil _ _ none 0))).mono ?_
  rintro e2 u2 ⟨rfl, hb2⟩
  rw [sameT_refl16]
  have HBY := Lib.hid (HBX.out.trans (hb2.mono HBX.out.size))
  clear x0 x1 x2 x3 x4 x5 x6 y0 y1 y2 y3 y4 y5 y6
  have HT1 := Lib.hid (row_on HS1.out hb2)
  have HT2 := Lib.hid (row_on HS2.out hb2)
  obtain ⟨x0, x1, x2, x3, x4, x5, x6⟩ := row7 HT1.out
  clear hb2 HS1 HS2 HBX
  go_wp2
  refine wp_loop_rounds 2 ?_
  rw [rounds_succ]
  go_upto_region 6 with fail
  refine wp_region_rest (by kernel_rfl) ?_
  have hd := (Below.refl u2.heap.size u2).drew
  have HB6 := Lib.hid (HBY.out.trans (hd.mono HBY.out.size))
  clear x0 x1 x2 x3 x4 x5 x6
  obtain ⟨x0, x1, x2, x3, x4, x5, x6⟩ := row7 (row_on HT1.out hd)
  obtain ⟨y0, y1, y2, y3, y4, y5, y6⟩ := row7 (row_on HT2.out hd)
  clear hd HT1 HT2 HBY
  generalize u2.drew = W0 at *
  have ci := (HB6.out.cell (p := ⟨ib, io, none⟩) HC.out.1).trans HC.out.2.1
  have cj := (HB6.out.cell (p := ⟨jb, jo, none⟩) HC.out.2.2.1).trans HC.out.2.2.2
  refine rest_chainP (fun u => u = W0) 0 10 (.soft 0 (.soft 1 (.soft 2 (.soft 3 (.soft 4 (.soft 5 (.soft 6 (.soft 7 (.soft 8 (.soft 9 .nil)))))))))) (.soft _ (.soft _ (.soft _ (.soft _ (.soft _ (.soft _ (.soft _ (.soft _ (.soft _ (.soft _ .nil)))))))))) ⟨rfl, ⟨rfl, ⟨rfl, ⟨rfl, ⟨rfl, ⟨rfl, ⟨rfl, ⟨rfl, ⟨rfl, ⟨rfl, trivial⟩⟩⟩⟩⟩⟩⟩⟩⟩⟩ (by kernel_rfl) (by kernel_rfl) (by kernel_rfl) (by kernel_rfl) (.inr (by kernel_rfl)) rfl ?_
  refine chainP_soft (a1 := ?ma1) (by kernel_rfl) (by kernel_rfl) ?mh1 ?mr1
  case mh1 =>
    intro u hu E hE
    subst hu
    go_wp2
    rfl
  refine chainP_soft (a1 := ?ma2) (by kernel_rfl) (by kernel_rfl) ?mh2 ?mr2
  case mh2 =>
    intro u hu E hE
    subst hu
    go_wp2
    rfl
  refine chainP_soft (a1 := ?ma3) (by kernel_rfl) (by kernel_rfl) ?mh3 ?mr3
  case mh3 =>
    intro u hu E hE
    subst hu
    go_wp2
    rfl
  refine chainP_soft (a1 := ?ma4) (by kernel_rfl) (by kernel_rfl) ?mh4 ?mr4
  case mh4 =>
    intro u hu E hE
    subst hu
    go_wp2
    rfl
  refine chainP_soft (a1 := ?ma5) (by kernel_rfl) (by kernel_rfl) ?mh5 ?mr5
  case mh5 =>
    intro u hu E hE
    subst hu
    go_wp2
    rfl
  refine chainP_soft (a1 := ?ma6) (by kernel_rfl) (by kernel_rfl) ?mh6 ?mr6
  case mh6 =>
    intro u hu E hE
    subst hu
    go_wp2
    rfl
  refine chainP_soft (a1 := ?ma7) (by kernel_rfl) (by kernel_rfl) ?mh7 ?mr7
  case mh7 =>
    intro u hu E hE
    subst hu
    go_wp2
    rfl
  refine chainP_soft (a1 := ?ma8) (by kernel_rfl) (by kernel_rfl) ?mh8 ?mr8
  case mh8 =>
    intro u hu E hE
    subst hu
    go_wp2
    rfl
  refine chainP_soft (a1 := ?ma9) (by kernel_rfl) (by kernel_rfl) ?mh9 ?mr9
  case mh9 =>
    intro u hu E hE
    subst hu
    go_wp2
    rfl
  refine chainP_soft (a1 := ?ma10) (by kernel_rfl) (by kernel_rfl) ?mh10 ?mr10
  case mh10 =>
    intro u hu E hE
    subst hu
    go_wp2
    rfl
  refine chainP_nil ?_
  refine rest_lineL 10 11 [_] rfl (by kernel_rfl) (by decide) (by decide) (by kernel_rfl) ?_
  go_wp2
  refine then_rest (rest_end (by decide) ?_)
  go_wp2
  rw [rounds_succ]
  go_wp2
  go_ret
  exact ⟨rfl, HB6.out⟩
end Go.Proofs.YtkhchmgdaolojaaDoor.Tms
namespace Go.Proofs.YtkhchmgdaolojaaDoor.Tms
open Go Go.RowKit Go.Proofs.YtkhchmgdaolojaaDoor.Reg Go.Proofs.YtkhchmgdaolojaaDoor.Rws Go.Proofs.YtkhchmgdaolojaaDoor.Maps Go.Instr
set_option linter.unusedVariables false
set_option linter.unusedSimpArgs false

def dT : Dd → Tm
  | .is _ t => t
  | .wr t => t
def Dgood (d : Dd) : Prop := (dT d).ok = true ∧ (dT d).size ≤ 10000000
theorem form_size16 (e : Int) (s : ByteArray) (t : Tm) : (formalE e s t).size ≤ t.size + 10 := by
  unfold formalE
  repeat' split
  all_goals simp only [Tm.size, sizeL, compT, atomT]
  all_goals omega
theorem form_good (e : Int) (s : ByteArray) {t : Tm} (h : t.ok = true) (hs : t.size ≤ 2000000) : Dgood (.wr (formalE e s t)) := ⟨form_ok16 e s t h, by show (formalE e s t).size ≤ _; have := form_size16 e s t; omega⟩
theorem is_good (n : Int) {t : Tm} (h : t.ok = true) (hs : t.size ≤ 10000000) : Dgood (.is n t) := ⟨h, hs⟩
theorem zeroF_good (e : Int) (s : ByteArray) (he : e = 12 ∨ e = 3) : Dgood (.wr (formalE e s zeroT0)) := by
  refine ⟨?_, by show (formalE e s zeroT0).size ≤ _; have := form_size16 e s zeroT0; have h : zeroT0.size = 1 := rfl; omega⟩
  show (formalE e s zeroT0).ok = true
  rcases he with rfl | rfl
  · rw [formal12 zeroT0 (intT 0)]; exact form_ok16 _ _ _ (by decide)
  · rw [formal3 zeroT0 (intT 0)]; exact form_ok16 _ _ _ (by decide)
theorem bad_good {codes : Bool} {T b : Tm} (h : badItem codes T = some b) (ho : T.ok = true) (hs : T.size ≤ 1000000) : Dgood (.wr b) := by
  unfold badItem at h
  split at h
  · cases h; exact zeroF_good _ _ (.inl rfl)
  · split at h
    · split at h
      · split at h
        · cases h; exact zeroF_good _ _ (.inr rfl)
        · cases h
      · cases h; exact form_good _ _ ho (by omega)
    · split at h
      · cases h
      · cases h; exact form_good _ _ ho (by omega)
theorem text_good {codes : Bool} {l b : Tm} {m : List UInt8} (h : textT codes l = (some b, m)) (ho : l.ok = true) (hs : l.size ≤ 1000000) : Dgood (.wr b) := by
  have hio := itemsN_ok l.size l ho
  have his := items_size l
  unfold textT at h
  split at h
  · rename_i b' hf
    simp only [Prod.mk.injEq, Option.some.injEq] at h
    obtain ⟨rfl, -⟩ := h
    obtain ⟨T, hT, hb⟩ := List.exists_of_findSome?_eq_some hf
    obtain ⟨j, hj, rfl⟩ := List.getElem_of_mem hT
    exact bad_good hb (okL_at hj hio.1) (by have := size_mem hj; omega)
  · split at h
    · simp only [Prod.mk.injEq, Option.some.injEq] at h
      obtain ⟨rfl, -⟩ := h
      exact zeroF_good _ _ (.inl rfl)
    · split at h
      · simp at h
      · simp only [Prod.mk.injEq, Option.some.injEq] at h
        obtain ⟨rfl, -⟩ := h
        exact form_good _ _ ho (by omega)
theorem list_size16 (codes : Bool) (l : List UInt8) : (listT (charsT codes l) nilT).size = 2 * l.length + 1 := text_size16 codes l
theorem list_ok17 (codes : Bool) (l : List UInt8) : (listT (charsT codes l) nilT).ok = true := may_ok _ (text_may16 codes l)
theorem length_good {x y : Tm} (hx : x.ok = true) (hy : y.ok = true) (sx : x.size ≤ 1000000) (sy : y.size ≤ 1000000) : Dgood (lengthD x y) := by
  unfold lengthD
  split
  · exact form_good _ _ hx (by omega)
  · split
    · exact form_good _ _ hx (by omega)
    · split
      · exact form_good _ _ hy (by omega)
      · split
        · exact form_good _ _ hy (by omega)
        · exact is_good _ (by simp [intT, Tm.ok, okL]) (by simp [intT, Tm.size, sizeL])
theorem spell_good (codes : Bool) {x y : Tm} (hx : x.ok = true) (hy : y.ok = true) (sx : x.size ≤ 1000000) (sy : y.size ≤ 1000000) (hf : Num.Fit x.n) (hs : x.s.size ≤ 100000) : Dgood (spellD codes x y) := by
  unfold spellD
  split
  · rename_i s hn
    have h1 : s.size ≤ 100000 := name_size hn hf hs
    exact is_good _ (list_ok17 _ _) (by rw [list_size16]; have : s.data.toList.length = s.size := rfl; omega)
  · split
    · exact form_good _ _ hx (by omega)
    · split
      · rename_i b _ ht
        exact text_good ht hy sy
      · split
        · exact zeroF_good _ _ (.inr rfl)
        · exact is_good _ (by simp [atomT, Tm.ok, okL]) (by simp [atomT, Tm.size, sizeL])
theorem code_good {x y : Tm} (hx : x.ok = true) (hy : y.ok = true) (sx : x.size ≤ 1000000) (sy : y.size ≤ 1000000) : Dgood (codeD x y) := by
  unfold codeD
  split
  · exact is_good _ (by simp [intT, Tm.ok, okL]) (by simp [intT, Tm.size, sizeL])
  · split
    · exact form_good _ _ hx (by omega)
    · split
      · exact form_good _ _ hy (by omega)
      · split
        · exact form_good _ _ hy (by omega)
        · split
          · exact form_good _ _ hy (by omega)
          · exact is_good _ (by simp [atomT, Tm.ok, okL]) (by simp [atomT, Tm.size, sizeL])
theorem number_good {x y : Tm} (hx : x.ok = true) (hy : y.ok = true) (sx : x.size ≤ 1000000) (sy : y.size ≤ 1000000) (hf : Num.Fit x.n) : Dgood (numberD x y) := by
  unfold numberD
  split
  · have := Num.itoa_len hf
    exact is_good _ (list_ok17 _ _) (by rw [list_size16]; omega)
  · split
    · exact form_good _ _ hx (by omega)
    · split
      · rename_i b _ ht
        exact text_good ht hy sy
      · split
        · exact is_good _ (by simp [intT, Tm.ok, okL]) (by simp [intT, Tm.size, sizeL])
        · exact ⟨by decide, by decide⟩
theorem concat_good {x y z : Tm} (hx : x.ok = true) (hy : y.ok = true) (hz : z.ok = true) (sx : x.size ≤ 1000000) (sy : y.size ≤ 1000000) (sz : z.size ≤ 1000000) : Dgood (concatD x y z) := by
  unfold concatD
  split
  · exact form_good _ _ hx (by omega)
  · split
    · exact form_good _ _ hx (by omega)
    · exact form_good _ _ hy (by omega)
    · split
      · exact form_good _ _ hz (by omega)
      · split
        · exact form_good _ _ hz (by omega)
        · exact is_good _ (by simp [atomT, Tm.ok, okL]) (by simp [atomT, Tm.size, sizeL])
/-- an answer and an error -/
def AnsPost (e : Int) (d : Dd) (w : World) (en : Ending) (w' : World) : Prop := ∃ v, en = .returned (.tuple #[v, .int .i64 e]) ∧ IsDd w' AnyB v d ∧ Below w.heap.size w w'
theorem zero_dd (w : World) : IsDd w AnyB (.agg #[.bool false, .slice none 0 0, .slice none 0 0, .int .i64 0, .int .i64 0, .string ⟨#[]⟩, .slice none 0 0]) (.wr zeroT0) := ⟨none, 0, rfl, IsTm.mk' (t := zeroT0) (IsSl.nil _ _ none 0)⟩
theorem DoX.ans {e : Int} {w w' : World} {en : Ending} (h : DoX e w en w') : AnsPost e (.wr zeroT0) w en w' := ⟨_, h.1, zero_dd _, h.2⟩
theorem DoP.ans {d : Dd} {P : Nat → Prop} {w w' : World} {en : Ending} (h : DoP d P w en w') : AnsPost 0 d w en w' := by
  obtain ⟨v, e, h1, h2⟩ := h
  exact ⟨v, e, h1.imp (fun _ _ => trivial) (Nat.le_refl _) fun _ _ _ => rfl, h2⟩
theorem RdPost2.ans {d : Dd} {w w' : World} {en : Ending} (h : RdPost2 d w en w') : AnsPost 0 d w en w' := h
def Both (s : ByteArray) (ts : List Tm) (e : Int) (d : Dd) : Prop := (dT d).size ≤ 10000000 ∧
  (∀ (P : Nat → Prop) (w : World) (a : Option Addr) (c : Nat), IsSl w P (.slice a ts.length c) ts → Num.Tab w → Calls Tryd.prog 11 #[.string s, .slice a ts.length c] w (AnsPost e d w)) ∧
  (∀ (P : Nat → Prop) (w : World) (a : Option Addr) (c : Nat), IsSl w P (.slice a ts.length c) ts → Calls Tryd.prog 12 #[.string s, .slice a ts.length c] w (AnsPost e d w))
theorem kinds_of {t : Tm} (h : checkT t = 0) : t.k = 1 ∨ t.k = 2 ∨ t.k = 3 ∨ t.k = 4 := by
  have hm := check_may h
  obtain ⟨k, n, s, a⟩ := t
  simp only [mayT, Bool.and_eq_true] at hm
  show k = 1 ∨ k = 2 ∨ k = 3 ∨ k = 4
  by_cases h1 : k = 1
  · exact .inl h1
  by_cases h2 : k = 2
  · exact .inr (.inl h2)
  by_cases h3 : k = 3
  · exact .inr (.inr (.inl h3))
  by_cases h4 : k = 4
  · exact .inr (.inr (.inr h4))
  · have := hm.1; unfold mayB at this; rw [if_neg h1, if_neg h2, if_neg h3, if_neg h4] at this; cases this
theorem string_of {t : Tm} (h : checkT t = 0) : t.s.size ≤ 100000 := by
  have hm := check_may h
  obtain ⟨k, n, s, a⟩ := t
  simp only [mayT, Bool.and_eq_true] at hm
  have h1 := hm.1
  show s.size ≤ 100000
  have hz : s.toList.isEmpty = true → s.size = 0 := fun h => by
    obtain ⟨d⟩ := s
    obtain ⟨l⟩ := d
    cases l with
    | nil => rfl
    | cons c l => rw [ByteArray.toList_eq] at h; cases h
  unfold mayB at h1
  split at h1
  · simp only [Bool.and_eq_true] at h1; have := hz h1.2.1; omega
  · split at h1
    · simp only [Bool.and_eq_true] at h1; have := hz h1.1; omega
    · split at h1
      · simp only [Bool.and_eq_true, decide_eq_true_eq] at h1; omega
      · split at h1
        · simp only [Bool.and_eq_true, decide_eq_true_eq] at h1; omega
        · cases h1
theorem both16 (s : ByteArray) (ts : List Tm) (hz : ∀ t ∈ ts, t.size ≤ 1000000 ∧ Num.Fit t.n) (hl : ts.length ≤ 1000000) : ∃ e d, Both s ts e d := by
  by_cases hdo : doesT s ts.length = true
  · by_cases hfb : firstBad ts = 0
    · have hck := firstBad_yes hfb
      have hgo : ∀ t ∈ ts, t.ok = true := fun t ht => may_ok _ (check_may (hck t ht))
      have hM : ∀ t ∈ ts, t.size ≤ 1000000 ∧ checkT t = 0 := fun t ht => ⟨(hz t ht).1, hck t ht⟩
      have mk : ∀ d : Dd, Dgood d → (∀ (P : Nat → Prop) (w : World) (a : Option Addr) (c : Nat), IsSl w P (.slice a ts.length c) ts → Num.Tab w → Calls Tryd.prog 11 #[.string s, .slice a ts.length c] w (DoP d P w)) → (∀ (P : Nat → Prop) (W : World) (a : Option Addr) (c : Nat), IsSl W P (.slice a ts.length c) ts → Calls Tryd.prog 31 #[.string s, .slice a ts.length c] W (RdPost d W)) → ∃ e d, Both s ts e d := fun d hd h1 h2 =>
        ⟨0, d, hd.2, fun P w a c h ht => (h1 P w a c h ht).mono fun _ _ h => h.ans, fun P w a c h => (r16_Do_good s ts P w a ts.length c h rfl (fun t ht => (hz t ht).1) hl hck hdo d (by cases d <;> exact hd.1) fun W P' h' => h2 P' W a c h').mono fun _ _ h => h.ans⟩
      have two : ∀ n, ts.length = n → n = 2 → ∃ x y, ts = [x, y] := fun n h h2 => by
        subst h2
        match ts, h with
        | [x, y], _ => exact ⟨x, y, rfl⟩
      unfold doesT at hdo
      split at hdo
      · rename_i hs
        have hn : ts.length = 2 := by simp only [beq_iff_eq] at hdo; omega
        obtain ⟨x, y, rfl⟩ := two _ rfl hn
        have mx : x ∈ [x, y] := by simp
        have my : y ∈ [x, y] := by simp
        have sx := string_of (hck x mx)
        have sy := string_of (hck y my)
        rcases hs with rfl | rfl | rfl | rfl | rfl
        · exact mk _ (length_good (hgo x mx) (hgo y my) (hz x mx).1 (hz y my).1) (fun P w a c h ht => tx_Do_length [x, y] x y P w a c h rfl hM (hz x mx).2 (hz y my).2 sx sy ht) fun P w a c h => r16_do_length x y P w a c h (hz x mx).1 (hz y my).1 (hz x mx).2 (hz y my).2 sx sy (kinds_of (hck x mx)) (hgo y my)
        · exact mk _ (spell_good false (hgo x mx) (hgo y my) (hz x mx).1 (hz y my).1 (hz x mx).2 sx) (fun P w a c h ht => tx_Do_chars [x, y] x y P w a c h rfl hM (hz x mx).2 (hz y my).2 sx sy ht) fun P w a c h => r16_do_chars x y P w a c h (hz x mx).1 (hz y my).1 (hz x mx).2 (hz y my).2 sx sy (kinds_of (hck x mx)) (hgo y my)
        · exact mk _ (spell_good true (hgo x mx) (hgo y my) (hz x mx).1 (hz y my).1 (hz x mx).2 sx) (fun P w a c h ht => tx_Do_codes [x, y] x y P w a c h rfl hM (hz x mx).2 (hz y my).2 sx sy ht) fun P w a c h => r16_do_codes x y P w a c h (hz x mx).1 (hz y my).1 (hz x mx).2 (hz y my).2 sx sy (kinds_of (hck x mx)) (hgo y my)
        · exact mk _ (code_good (hgo x mx) (hgo y my) (hz x mx).1 (hz y my).1) (fun P w a c h ht => tx_Do_code [x, y] x y P w a c h rfl hM (hz x mx).2 (hz y my).2 sx sy ht) fun P w a c h => r16_do_code x y P w a c h (hz x mx).1 (hz y my).1 (hz x mx).2 (hz y my).2 sx sy (kinds_of (hck x mx)) (hgo y my)
        · exact mk _ (number_good (hgo x mx) (hgo y my) (hz x mx).1 (hz y my).1 (hz x mx).2) (fun P w a c h ht => tx_Do_number [x, y] x y P w a c h rfl hM (hz x mx).2 (hz y my).2 sx sy ht) fun P w a c h => r16_do_number x y P w a c h (hz x mx).1 (hz y my).1 (hz x mx).2 (hz y my).2 sx sy (kinds_of (hck x mx)) (hgo y my)
      · split at hdo
        · rename_i hs
          have hn : ts.length = 3 := by simp only [beq_iff_eq] at hdo; omega
          subst hs
          match ts, hn with
          | [x, y, z], _ =>
            have mx : x ∈ [x, y, z] := by simp
            have my : y ∈ [x, y, z] := by simp
            have mz : z ∈ [x, y, z] := by simp
            have sx := string_of (hck x mx)
            have sy := string_of (hck y my)
            exact mk _ (concat_good (hgo x mx) (hgo y my) (hgo z mz) (hz x mx).1 (hz y my).1 (hz z mz).1) (fun P w a c h ht => tx_Do_concat [x, y, z] x y z P w a c h rfl hM (hz x mx).2 (hz y my).2 (hz z mz).2 sx sy ht) fun P w a c h => r16_do_concat x y z P w a c h (hz x mx).1 (hz y my).1 (hz z mz).1 (hz x mx).2 (hz y my).2 sx sy (kinds_of (hck z mz))
        · cases hdo
    · exact ⟨firstBad ts, .wr zeroT0, by decide, fun P w a c h _ => (tx_Do_bad s ts P w a ts.length c h rfl (fun t ht => (hz t ht).1) hl hfb hdo).mono fun _ _ h => h.ans, fun P w a c h => (r16_Do_bad s ts P w a ts.length c h rfl (fun t ht => (hz t ht).1) hl hfb hdo).mono fun _ _ h => h.ans⟩
  · have hdo' : doesT s ts.length = false := by simpa using hdo
    exact ⟨8, .wr zeroT0, by decide, fun P w a c h _ => (tx_Do_none s a ts.length c w hdo').mono fun _ _ h => h.ans, fun P w a c h => (r16_Do_none s a ts.length c w hdo').mono fun _ _ h => h.ans⟩
/-- both answers are the same -/
theorem r16_SameD {d : Dd} (hs : (dT d).size ≤ 10000000) {w : World} {P P' : Nat → Prop} {v v' : Value} (h1 : IsDd w P v d) (h2 : IsDd w P' v' d) : Calls Tryd.prog 13 #[v, v'] w (Says true w) := by
  cases d with
  | is n t =>
    obtain ⟨q, k, q', k', rfl, a1, a2⟩ := h1
    obtain ⟨p, l, p', l', rfl, b1, b2⟩ := h2
    exact r16_Same_is n t q q' p p' k k' l l' _ _ _ _ w (by have h : t.size ≤ 10000000 := hs; omega) a1 a2 b1 b2
  | wr t =>
    obtain ⟨q, k, rfl, a1⟩ := h1
    obtain ⟨q', k', rfl, b1⟩ := h2
    exact r16_Same_wr t q q' k k' _ _ w (by have h : t.size ≤ 10000000 := hs; omega) a1 b1
end Go.Proofs.YtkhchmgdaolojaaDoor.Tms
namespace Go.Proofs.YtkhchmgdaolojaaDoor.Tms
open Go Go.ChangeMaps Go.ChangeShapes Go.WideShapes Go.ChangeAt Go.RowKit Go.Deep
set_option linter.unusedVariables false
set_option linter.unusedSimpArgs false

section
variable {H : Type} {enc : TypeId × Value → H} {w : World} {base : Nat} {spare : Nat → Bool} {held : Bool}
set_option maxRecDepth 100000 in
theorem psSl_wf_of {fuel : Nat} {v : Value} {x : DataW H × List MemPlace} (h : DataW.trod enc Tryd.prog w base spare held fuel 22 [v] = some x) : ∃ LL, PsSl w v LL ∧ ∀ L ∈ LL, ∀ p ∈ L, (Lit.int .i64 p.n).wf = true := by
  rcases open_slice Tryd.underlying22 h with ⟨hcs, _⟩ | ⟨a, len, cap, m, n, D, Pl, hcs, _, hl, hm, hmm, _, hi⟩
  · simp only [List.cons.injEq, and_true] at hcs
    subst hcs
    exact ⟨[], ⟨none, 0, rfl, by simp, by decide, fun j hj => absurd hj (by simp)⟩, by simp⟩
  · simp only [List.cons.injEq, and_true] at hcs
    subst hcs
    have hlm : len ≤ m := by rw [hmm]; split <;> omega
    have hC : Tryd.prog.cellsOf 25 = 1 := by kernel_rfl
    have each : ∀ i, i < len → ∃ L : List Pt, (∀ p ∈ L, (Lit.int .i64 p.n).wf = true) ∧ ∃ u, w.cell? (a.add i) = some u ∧ PtSl w u L := by
      intro i hilt
      obtain ⟨cs, hc, ht⟩ := hi i (by omega)
      obtain ⟨hl1, _, hat⟩ := World.cells?_some hc
      rw [hC] at hat hl1
      obtain ⟨u, rfl⟩ : ∃ u, cs = [u] := by
        match cs, hl1 with
        | [u], _ => exact ⟨u, rfl⟩
      obtain ⟨L, hL, hw⟩ := ptSl_of ht
      have h0 := hat 0 (by omega)
      rw [Go.Deep.add_add, Nat.mul_one, Nat.add_zero] at h0
      exact ⟨L, hw, u, h0, hL⟩
    let f : Nat → List Pt := fun i => if h : i < len then Classical.choose (each i h) else []
    have hf : ∀ i, i < len → (∀ p ∈ f i, (Lit.int .i64 p.n).wf = true) ∧ ∃ u, w.cell? (a.add i) = some u ∧ PtSl w u (f i) := fun i hilt => by
      have := Classical.choose_spec (each i hilt)
      simp only [f, dif_pos hilt]
      exact this
    refine ⟨(List.range len).map f, ⟨some a, cap, by simp, by simpa using hl, hm, fun j hj => ?_⟩, fun L hL => ?_⟩
    · have hjl : j < len := by simpa using hj
      obtain ⟨b, off, spot⟩ := a
      obtain ⟨-, u0, h00, -⟩ := hf 0 (by omega)
      have hsp : spot = none := by simpa [Addr.add] using World.cell?_spot h00
      subst hsp
      have hg : ((List.range len).map f)[j] = f j := by simp
      rw [hg]
      obtain ⟨-, u, hu, hp⟩ := hf j hjl
      rw [Addr.add_lit] at hu
      exact ⟨b, off, u, rfl, World.block_lt_of_cell? _ _ hu, hu, hp⟩
    · obtain ⟨j, hj, rfl⟩ := List.mem_map.1 hL
      exact (hf j (by simpa using hj)).1
set_option maxRecDepth 100000 in
/-- an argument of the type [][]Part; its numbers fit -/
theorem pss_wf_of {r : Reach} {b0 : Nat} {v : Value} {d : DataW H} {p : List MemPlace} (hv : Value.okWide Tryd.prog w r b0 22 v) (h : DataW.Trod enc Tryd.prog w base spare held 22 v d p) : ∃ LL, PsSl w v LL ∧ ∀ L ∈ LL, ∀ p ∈ L, (Lit.int .i64 p.n).wf = true := by
  obtain ⟨a, len, cap, rfl⟩ := okWide_slice Tryd.underlying22 hv
  obtain ⟨fuel, hf⟩ := h
  exact psSl_wf_of hf
end
/-- the term of parts, as it comes -/
def rawT (L : List Pt) : Tm := (ofN L.length L).1
theorem raw_n {f : Nat} {L : List Pt} (h : ∀ p ∈ L, Num.Fit p.n) : Num.Fit (ofN f L).1.n := by
  cases f with
  | zero => exact (by decide : Num.Fit 0)
  | succ f =>
    cases L with
    | nil => exact (by decide : Num.Fit 0)
    | cons p l => exact h p (by simp)
theorem mend_n {t : Tm} (h : Num.Fit t.n) : Num.Fit (mendT t).n := by
  obtain ⟨k, n, s, a⟩ := t
  have h' : Num.Fit n := h
  unfold mendT
  unfold Num.Fit at *
  repeat' split
  all_goals first
    | exact h'
    | (show _ ≤ (0 : Int) ∧ (0 : Int) ≤ _; omega)
    | (show _ ≤ max 0 n ∧ max 0 n ≤ _; omega)
theorem raw_ok16 {L : List Pt} (h : ∀ p ∈ L, Num.Fit p.n) (hl : L.length ≤ 60) : (rawT L).size ≤ 1000000 ∧ Num.Fit (rawT L).n := ⟨by have := ofN_small L.length L; unfold rawT; omega, raw_n h⟩
theorem good_ok16 {L : List Pt} (h : ∀ p ∈ L, Num.Fit p.n) (hl : L.length ≤ 60) : (goodT L).size ≤ 1000000 ∧ Num.Fit (goodT L).n := ⟨by have := goodT_size L; omega, mend_n (raw_n h)⟩
end Go.Proofs.YtkhchmgdaolojaaDoor.Tms
