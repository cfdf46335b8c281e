
/-
  Layer 16: the reference's small functions, walked.
  Layer 16: the reference's text, walked.
  Layer 16: the reference's number, walked.
-/
import Derived.Test.YtkhchmgdaolojaaDoorTxn
import Derived.Test.YtkhchmgdaolojaaDoorFltR
import Derived.Test.YtkhchmgdaolojaaDoorLow
import Derived.Test.YtkhchmgdaolojaaDoorRitm
import Derived.Test.YtkhchmgdaolojaaDoorNaB
namespace Go.Proofs.YtkhchmgdaolojaaDoor.Tms
open Go Go.RowKit Go.Proofs.YtkhchmgdaolojaaDoor.Reg Go.Proofs.YtkhchmgdaolojaaDoor.Rws Go.Proofs.YtkhchmgdaolojaaDoor.Maps Go.Instr
set_option linter.unusedVariables false
set_option linter.unusedSimpArgs false

/-- a row that holds no number but 0 -/
def Zrow (w : World) (g : Nat) : Prop := ∀ o k n, w.cell? ⟨g, o, none⟩ = some (.int k n) → n = 0
mutual
theorem TmAt.avoidC {w : World} {P : Nat → Prop} {g : Nat} (hz : Zrow w g) : ∀ (t : Tm) (b o : Nat), t.ok = true → TmAt w P b o t → b ≠ g ∧ TmAt w (fun x => P x ∧ x ≠ g) b o t
  | .mk k n s a, b, o, hok, h => by
    simp only [Tm.ok, Bool.and_eq_true, bne_iff_ne] at hok
    unfold TmAt at h ⊢
    obtain ⟨q, c, h0, h1, h2, h3, h4⟩ := h
    refine ⟨fun e => ?_, q, c, h0, h1, h2, h3, ArgsFrom.avoidC hz a q 0 hok.2 h4⟩
    subst e
    exact hok.1 (hz _ _ _ h0)
theorem ArgsFrom.avoidC {w : World} {P : Nat → Prop} {g : Nat} (hz : Zrow w g) : ∀ (l : List Tm) (q : Option Addr) (j : Nat), okL l = true → ArgsFrom w P q j l → ArgsFrom w (fun x => P x ∧ x ≠ g) q j l
  | [], q, j, _, _ => by unfold ArgsFrom; trivial
  | t :: l, q, j, hok, h => by
    simp only [okL, Bool.and_eq_true] at hok
    unfold ArgsFrom at h ⊢
    obtain ⟨⟨b, off, e, hp, ht⟩, h2⟩ := h
    obtain ⟨hne, ht'⟩ := TmAt.avoidC hz t b _ hok.1 ht
    exact ⟨⟨b, off, e, ⟨hp, hne⟩, ht'⟩, ArgsFrom.avoidC hz l q (j + 1) hok.2 h2⟩
end
theorem IsTm.avoidC {w : World} {P : Nat → Prop} {g : Nat} (hz : Zrow w g) {v : Value} {t : Tm} (hok : t.ok = true) (h : IsTm w P v t) : IsTm w (fun x => P x ∧ x ≠ g) v t := by
  obtain ⟨a, c, e, h⟩ := h
  obtain ⟨k, n, s, l⟩ := t
  simp only [Tm.ok, Bool.and_eq_true] at hok
  exact ⟨a, c, e, ArgsFrom.avoidC hz _ a 0 hok.2 h⟩
theorem zrow_term {w : World} {g : Nat} {T : TypeId} {fr : Nat × Nat} (h : w.heap[g]? = some (.cells #[.int .i64 0, .int .i64 0, .string ⟨#[]⟩, .slice none 0 0] T fr)) : Zrow w g := fun o k n hc => by
  rw [cell_of_row w g _ _ _ _ h] at hc
  match o with
  | 0 => simp at hc; exact hc.2.symm
  | 1 => simp at hc; exact hc.2.symm
  | 2 => simp at hc
  | 3 => simp at hc
  | o + 4 => simp at hc
theorem zrow_did {w : World} {g : Nat} {T : TypeId} {fr : Nat × Nat} (h : w.heap[g]? = some (.cells #[.bool false, .slice none 0 0, .slice none 0 0, .int .i64 0, .int .i64 0, .string ⟨#[]⟩, .slice none 0 0] T fr)) : Zrow w g := fun o k n hc => by
  rw [cell_of_row w g _ _ _ _ h] at hc
  match o with
  | 0 => simp at hc
  | 1 => simp at hc
  | 2 => simp at hc
  | 3 => simp at hc; exact hc.2.symm
  | 4 => simp at hc; exact hc.2.symm
  | 5 => simp at hc
  | 6 => simp at hc
  | o + 7 => simp at hc
/-- an answer as IsDd tells, its number's slice and its terms through blocks of their own -/
def IsDe (w : World) (Pi Pt : Nat → Prop) (v : Value) : Dd → Prop
  | .is a t => ∃ q k q' k', v = .agg #[.bool true, .slice q 1 k, .slice q' 1 k', .int .i64 0, .int .i64 0, .string ⟨#[]⟩, .slice none 0 0] ∧ IntSl w Pi (.slice q 1 k) [a] ∧ IsSl w Pt (.slice q' 1 k') [t]
  | .wr t => ∃ q k, v = .agg #[.bool false, .slice none 0 0, .slice none 0 0, .int .i64 t.k, .int .i64 t.n, .string t.s, .slice q t.args.length k] ∧ IsTm w Pt (.agg #[.int .i64 t.k, .int .i64 t.n, .string t.s, .slice q t.args.length k]) t
theorem IsDe.imp {w w' : World} {Pi Pi' Pt Pt' : Nat → Prop} {v : Value} {d : Dd} (h : IsDe w Pi Pt v d) (hI : ∀ b, Pi b → Pi' b) (hT : ∀ b, Pt b → Pt' b) (hs : w.heap.size ≤ w'.heap.size) (hw : ∀ b, Pi b ∨ Pt b → b < w.heap.size → w'.heap[b]? = w.heap[b]?) : IsDe w' Pi' Pt' v d := by
  cases d with
  | is a t => obtain ⟨q, k, q', k', e, h1, h2⟩ := h; exact ⟨q, k, q', k', e, h1.imp hI hs fun b hb => hw b (.inl hb), h2.imp hT fun b hb => hw b (.inr hb)⟩
  | wr t => obtain ⟨q, k, e, h1⟩ := h; exact ⟨q, k, e, h1.imp hT fun b hb => hw b (.inr hb)⟩
theorem IsDe.cells {w : World} {Pi Pt : Nat → Prop} {v : Value} {d : Dd} (h : IsDe w Pi Pt v d) : ∃ (b : Bool) (q1 q2 q3 : Option Addr) (n1 k1 n2 k2 n3 k3 : Nat) (x y : Int) (s : ByteArray), v = .agg #[.bool b, .slice q1 n1 k1, .slice q2 n2 k2, .int .i64 x, .int .i64 y, .string s, .slice q3 n3 k3] := by
  cases d with
  | is a t => obtain ⟨q, k, q', k', e, -⟩ := h; exact ⟨_, _, _, _, _, _, _, _, _, _, _, _, _, e⟩
  | wr t => obtain ⟨q, k, e, -⟩ := h; exact ⟨_, _, _, _, _, _, _, _, _, _, _, _, _, e⟩
theorem IsDd.wrE {w : World} {P : Nat → Prop} {v : Value} {t : Tm} (h : IsDd w P v (.wr t)) (Pi : Nat → Prop) : IsDe w Pi P v (.wr t) := h
theorem IsDe.any {w : World} {Pi Pt : Nat → Prop} {v : Value} {d : Dd} (h : IsDe w Pi Pt v d) : IsDd w AnyB v d := by
  cases d with
  | is a t => obtain ⟨q, k, q', k', e, h1, h2⟩ := h; exact ⟨q, k, q', k', e, h1.imp (fun _ _ => trivial) (Nat.le_refl _) fun _ _ _ => rfl, h2.imp (fun _ _ => trivial) fun _ _ _ => rfl⟩
  | wr t => obtain ⟨q, k, e, h1⟩ := h; exact ⟨q, k, e, h1.imp (fun _ _ => trivial) fun _ _ _ => rfl⟩
def TellsE (d : Dd) (P : Nat → Prop) (w : World) (e : Ending) (w' : World) : Prop := ∃ v, e = .returned v ∧ IsDe w' (fun b => w.heap.size ≤ b) (fun b => P b ∨ w.heap.size ≤ b) v d ∧ Below w.heap.size w w'
theorem r16_Does (s : ByteArray) (n : Nat) (w : World) : Calls Tryd.prog 15 #[.string s, .int .i64 n] w (fun e w' => e = .returned (.bool (doesT s n)) ∧ w = w') := by
  by_cases k0 : s = ⟨#[97, 116, 111, 109, 95, 108, 101, 110, 103, 116, 104]⟩
  · have hd : doesT s n = ((n : Int) == 2) := by unfold doesT; rw [if_pos (by simp [k0])]
    rw [hd]
    clear hd 
    subst k0
    go_enter Tryd.func15, Tryd.ntmps15
    go_wp2
    go_ret
    exact ⟨rfl, rfl⟩
  by_cases k1 : s = ⟨#[97, 116, 111, 109, 95, 99, 104, 97, 114, 115]⟩
  · have hd : doesT s n = ((n : Int) == 2) := by unfold doesT; rw [if_pos (by simp [k1])]
    rw [hd]
    clear hd k0
    subst k1
    go_enter Tryd.func15, Tryd.ntmps15
    go_wp2
    go_ret
    exact ⟨rfl, rfl⟩
  by_cases k2 : s = ⟨#[97, 116, 111, 109, 95, 99, 111, 100, 101, 115]⟩
  · have hd : doesT s n = ((n : Int) == 2) := by unfold doesT; rw [if_pos (by simp [k2])]
    rw [hd]
    clear hd k0 k1
    subst k2
    go_enter Tryd.func15, Tryd.ntmps15
    go_wp2
    go_ret
    exact ⟨rfl, rfl⟩
  by_cases k3 : s = ⟨#[99, 104, 97, 114, 95, 99, 111, 100, 101]⟩
  · have hd : doesT s n = ((n : Int) == 2) := by unfold doesT; rw [if_pos (by simp [k3])]
    rw [hd]
    clear hd k0 k1 k2
    subst k3
    go_enter Tryd.func15, Tryd.ntmps15
    go_wp2
    go_ret
    exact ⟨rfl, rfl⟩
  by_cases k4 : s = ⟨#[110, 117, 109, 98, 101, 114, 95, 99, 111, 100, 101, 115]⟩
  · have hd : doesT s n = ((n : Int) == 2) := by unfold doesT; rw [if_pos (by simp [k4])]
    rw [hd]
    clear hd k0 k1 k2 k3
    subst k4
    go_enter Tryd.func15, Tryd.ntmps15
    go_wp2
    go_ret
    exact ⟨rfl, rfl⟩
  have hn : ¬ (s = ⟨#[97, 116, 111, 109, 95, 108, 101, 110, 103, 116, 104]⟩ ∨ s = ⟨#[97, 116, 111, 109, 95, 99, 104, 97, 114, 115]⟩ ∨ s = ⟨#[97, 116, 111, 109, 95, 99, 111, 100, 101, 115]⟩ ∨ s = ⟨#[99, 104, 97, 114, 95, 99, 111, 100, 101]⟩ ∨ s = ⟨#[110, 117, 109, 98, 101, 114, 95, 99, 111, 100, 101, 115]⟩) := by simp only [not_or]; exact ⟨k0, k1, k2, k3, k4⟩
  by_cases k5 : s = ⟨#[97, 116, 111, 109, 95, 99, 111, 110, 99, 97, 116]⟩
  · have hd : doesT s n = ((n : Int) == 3) := by unfold doesT; rw [if_neg hn, if_pos k5]
    rw [hd]
    clear hd hn k0 k1 k2 k3 k4
    subst k5
    go_enter Tryd.func15, Tryd.ntmps15
    go_wp2
    go_ret
    exact ⟨rfl, rfl⟩
  · have hd : doesT s n = false := by unfold doesT; rw [if_neg hn, if_neg k5]
    have c5 : (s.toList == [97, 116, 111, 109, 95, 99, 111, 110, 99, 97, 116]) = false := Num.bytes_no (l := [97, 116, 111, 109, 95, 99, 111, 110, 99, 97, 116]) k5
    rw [hd]
    clear hd hn k5
    have c0 : (s.toList == [97, 116, 111, 109, 95, 108, 101, 110, 103, 116, 104]) = false := Num.bytes_no (l := [97, 116, 111, 109, 95, 108, 101, 110, 103, 116, 104]) k0
    have c1 : (s.toList == [97, 116, 111, 109, 95, 99, 104, 97, 114, 115]) = false := Num.bytes_no (l := [97, 116, 111, 109, 95, 99, 104, 97, 114, 115]) k1
    have c2 : (s.toList == [97, 116, 111, 109, 95, 99, 111, 100, 101, 115]) = false := Num.bytes_no (l := [97, 116, 111, 109, 95, 99, 111, 100, 101, 115]) k2
    have c3 : (s.toList == [99, 104, 97, 114, 95, 99, 111, 100, 101]) = false := Num.bytes_no (l := [99, 104, 97, 114, 95, 99, 111, 100, 101]) k3
    have c4 : (s.toList == [110, 117, 109, 98, 101, 114, 95, 99, 111, 100, 101, 115]) = false := Num.bytes_no (l := [110, 117, 109, 98, 101, 114, 95, 99, 111, 100, 101, 115]) k4
    clear k0 k1 k2 k3 k4
    go_enter Tryd.func15, Tryd.ntmps15
    go_wp2
    go_ret
    exact ⟨rfl, rfl⟩
set_option maxRecDepth 100000 in
set_option maxHeartbeats 4000000 in
theorem r16_Wrong (e : Int) (what : ByteArray) (t : Tm) (v : Value) (P : Nat → Prop) (w : World) (hM : t.size ≤ 1000000000) (h : IsTm w P v t) :
    Calls Tryd.prog 48 #[.int .i64 e, .string what, v] w (Tells (.wr (formalE e what t)) P w) := by
  obtain ⟨a, cap, rfl⟩ := h.form
  obtain ⟨w1, w2, w3, w4⟩ := two w (.cells #[.int .i64 t.k, .int .i64 t.n, .string t.s, .slice a t.args.length cap] 28 (0, 0)) (.cells #[.bool false, .slice none 0 0, .slice none 0 0, .int .i64 0, .int .i64 0, .string ⟨#[]⟩, .slice none 0 0] 35 (0, 0))
  obtain ⟨y0, y1, y2, y3⟩ := row4 w1
  have HR := Lib.hid w2
  have HB := Lib.hid w4
  have HZ := Lib.hid w3
  have H := Lib.hid (h.lt.below w4)
  clear h w1 w2 w3 w4
  go_enter Tryd.func48, Tryd.ntmps48
  go_wp2_with fail
  refine (ref_formal e what t _ _ _ H.out).mono ?_
  rintro e5 w5 ⟨v5, rfl, hi5, hb5⟩
  obtain ⟨q5, c5, rfl⟩ := hi5.form
  have HB5 := Lib.hid (HB.out.trans (hb5.mono HB.out.size))
  have HR5 := Lib.hid (row_on HR.out hb5)
  have HI5 := Lib.hid (hi5.imp (P' := fun b => (P b ∨ w.heap.size ≤ b) ∧ b ≠ w.heap.size + 1) (fun b hb => by
    rcases hb with hb | hb
    · exact ⟨.inl hb.1, by have := hb.2; omega⟩
    · have := HZ.out; exact ⟨.inr (by omega), by omega⟩) fun _ _ _ => rfl)
  clear hi5 hb5 y0 y1 y2 y3 HR HB HZ H
  generalize formalE e what t = T at *
  go_wp2_with (with_reducible show wpList _ _ _ (⟨none, .store _ (.tmp 6) _, _, _, _, _⟩ :: _) _ _
               go_must (
                 refine wpList_store_row rfl 35 (.tmp 6) (.tmp 11) rfl (w.heap.size + 1) #[.bool false, .slice none 0 0, .slice none 0 0, .int .i64 T.k, .int .i64 T.n, .string T.s, .slice q5 T.args.length c5] rfl rfl _ _ HR5.out size_did rfl (by simp [Value.oneCell']) ?_))
  have hz := setRow_heap w5 (w.heap.size + 1) _ (#[.bool false, .slice none 0 0, .slice none 0 0, .int .i64 T.k, .int .i64 T.n, .string T.s, .slice q5 T.args.length c5] : Array Value) _ _ HR5.out
  exact bodyPost_ret (v := .agg #[.bool false, .slice none 0 0, .slice none 0 0, .int .i64 T.k, .int .i64 T.n, .string T.s, .slice q5 T.args.length c5]) (results_cell_row Tryd.results48 _ _ (w.heap.size + 1) _ _ _ _ rfl hz Tryd.underlying35 rfl (by kernel_rfl)) rfl ⟨_, rfl, ⟨q5, c5, rfl, HI5.out.imp (fun b hb => hb.1) fun b hb _ => setRow_other _ _ _ _ hb.2⟩, below_row HB5.out (by omega)⟩
set_option maxRecDepth 100000 in
set_option maxHeartbeats 4000000 in
theorem r16_Is (n : Int) (t : Tm) (v : Value) (P : Nat → Prop) (w : World) (h : IsTm w P v t) :
    Calls Tryd.prog 50 #[.int .i64 n, v] w (TellsE (.is n t) P w) := by
  obtain ⟨a, cap, rfl⟩ := h.form
  have H := Lib.hid h
  clear h
  obtain ⟨y0, y1, y2, y3⟩ := row4 (two w (.cells #[.int .i64 t.k, .int .i64 t.n, .string t.s, .slice a t.args.length cap] 28 (0, 0)) (.cells #[.bool false, .slice none 0 0, .slice none 0 0, .int .i64 0, .int .i64 0, .string ⟨#[]⟩, .slice none 0 0] 35 (0, 0))).1
  go_enter Tryd.func50, Tryd.ntmps50
  go_wp2
  obtain ⟨k1, k2, k3, k4⟩ := two w (.cells #[.int .i64 t.k, .int .i64 t.n, .string t.s, .slice a t.args.length cap] 28 (0, 0)) (.cells #[.bool true, .slice (some ⟨w.heap.size + 1 + 1, 0, none⟩) 1 1, .slice (some ⟨w.heap.size + 1 + 1 + 1, 0, none⟩) 1 1, .int .i64 0, .int .i64 0, .string ⟨#[]⟩, .slice none 0 0] 35 (0, 0))
  generalize hW : (w.alloc (.cells #[.int .i64 t.k, .int .i64 t.n, .string t.s, .slice a t.args.length cap] 28 (0, 0))).alloc (.cells #[.bool true, .slice (some ⟨w.heap.size + 1 + 1, 0, none⟩) 1 1, .slice (some ⟨w.heap.size + 1 + 1 + 1, 0, none⟩) 1 1, .int .i64 0, .int .i64 0, .string ⟨#[]⟩, .slice none 0 0] 35 (0, 0)) = W at *
  clear hW
  obtain ⟨l1, l2, l3, l4⟩ := two W (.cells #[.int .i64 n] 3 (0, 0)) (.cells #[.int .i64 t.k, .int .i64 t.n, .string t.s, .slice a t.args.length cap] 28 (0, 0))
  rw [k3] at l1 l2 l3
  have hb := k4.trans (l4.mono k4.size)
  have hit := (H.out.lt.below hb)
  refine bodyPost_ret (v := .agg #[.bool true, .slice (some ⟨w.heap.size + 1 + 1, 0, none⟩) 1 1, .slice (some ⟨w.heap.size + 1 + 1 + 1, 0, none⟩) 1 1, .int .i64 0, .int .i64 0, .string ⟨#[]⟩, .slice none 0 0]) (results_cell_row Tryd.results50 _ _ (w.heap.size + 1) _ _ _ _ rfl (row_on k2 l4) Tryd.underlying35 rfl (by kernel_rfl)) rfl ⟨_, rfl, ⟨_, _, _, _, rfl, ?_, ?_⟩, hb⟩
  · refine ⟨_, _, rfl, Nat.le_refl _, by decide, fun i hi => ?_⟩
    obtain rfl : i = 0 := by simp at hi; omega
    refine ⟨_, _, rfl, by omega, by omega, ?_⟩
    exact cell_of_row _ _ 0 _ _ _ l1
  · exact sl_of_cells (cs := [.int .i64 t.k, .int .i64 t.n, .string t.s, .slice a t.args.length cap]) l2 (CellsOf.cons (hit.imp (P' := fun b => P b ∨ w.heap.size ≤ b) (fun b hb => .inl hb.1) fun _ _ _ => rfl) trivial) rfl (.inr (by omega))
theorem r16_I (n : Int) (w : World) : Calls Tryd.prog 51 #[.int .i64 n] w (fun e w' => e = .returned (intV n) ∧ Below w.heap.size w w') := by
  go_enter Tryd.func51, Tryd.ntmps51
  go_wp2
  exact bodyPost_ret (v := intV n) (by simp [results, Tryd.results51, go_sem]) rfl ⟨rfl, (Below.refl _ _).alloc (Nat.le_refl _) _⟩
theorem r16_atomic (t : Tm) (v : Value) (P : Nat → Prop) (w : World) (h : IsTm w P v t) :
    Calls Tryd.prog 49 #[v] w (Says (decide (t.k = 2 ∨ t.k = 3)) w) := by
  obtain ⟨a, cap, rfl⟩ := h.form
  clear h
  have hal := (Below.refl w.heap.size w).alloc (Nat.le_refl _) (.cells #[.int .i64 t.k, .int .i64 t.n, .string t.s, .slice a t.args.length cap] 28 (0, 0))
  obtain ⟨y0, y1, y2, y3⟩ := row4 (heap_alloc_new w (.cells #[.int .i64 t.k, .int .i64 t.n, .string t.s, .slice a t.args.length cap] 28 (0, 0)))
  have HA := Lib.hid hal
  clear hal
  by_cases h2 : t.k = 2
  · have c1 : (t.k == 2) = true := by rw [h2]; rfl
    rw [show decide (t.k = 2 ∨ t.k = 3) = true from decide_eq_true (.inl h2)]
    clear h2
    go_enter Tryd.func49, Tryd.ntmps49
    go_wp2
    go_ret
    exact ⟨rfl, HA.out⟩
  have c1 : (t.k == 2) = false := by simpa using h2
  by_cases h3 : t.k = 3
  · have c2 : (t.k == 3) = true := by rw [h3]; rfl
    rw [show decide (t.k = 2 ∨ t.k = 3) = true from decide_eq_true (.inr h3)]
    clear h2 h3
    go_enter Tryd.func49, Tryd.ntmps49
    go_wp2
    go_ret
    exact ⟨rfl, HA.out⟩
  have c2 : (t.k == 3) = false := by simpa using h3
  rw [show decide (t.k = 2 ∨ t.k = 3) = false from decide_eq_false (fun h => h.elim h2 h3)]
  clear h2 h3
  go_enter Tryd.func49, Tryd.ntmps49
  go_wp2
  go_ret
  exact ⟨rfl, HA.out⟩
theorem r16_name {t : Tm} {s : ByteArray} (v : Value) (P : Nat → Prop) (w : World) (h : IsTm w P v t) (hf : Num.Fit t.n) (hn : nameT t = some s) :
    Calls Tryd.prog 52 #[v] w (fun e w' => e = .returned (.string s) ∧ Below w.heap.size w w') := by
  obtain ⟨a, cap, rfl⟩ := h.form
  clear h
  have hal := (Below.refl w.heap.size w).alloc (Nat.le_refl _) (.cells #[.int .i64 t.k, .int .i64 t.n, .string t.s, .slice a t.args.length cap] 28 (0, 0))
  obtain ⟨y0, y1, y2, y3⟩ := row4 (heap_alloc_new w (.cells #[.int .i64 t.k, .int .i64 t.n, .string t.s, .slice a t.args.length cap] 28 (0, 0)))
  have HA := Lib.hid hal
  have HF := Lib.hid hf
  clear hal hf
  unfold nameT at hn
  by_cases h2 : t.k = 2
  · have c1 : (t.k == 2) = true := by rw [h2]; rfl
    rw [if_pos h2] at hn
    have HN := Lib.hid (Option.some.inj hn)
    clear hn h2
    go_enter Tryd.func52, Tryd.ntmps52
    go_wp2_with fail
    refine (Num.ref_Print _ t.n (Nat.le_refl _) HF.out _).mono ?_
    rintro e w2 ⟨rfl, hb2⟩
    go_wp2
    go_ret
    exact ⟨by rw [← HN.out]; rfl, HA.out.trans (hb2.mono HA.out.size)⟩
  have c1 : (t.k == 2) = false := by simpa using h2
  rw [if_neg h2] at hn
  by_cases h3 : t.k = 3
  · rw [if_pos h3] at hn
    have HN := Lib.hid (Option.some.inj hn)
    clear hn h2 h3
    go_enter Tryd.func52, Tryd.ntmps52
    go_wp2
    go_ret
    exact ⟨by rw [← HN.out]; rfl, HA.out⟩
  rw [if_neg h3] at hn
  cases hn
set_option maxRecDepth 100000 in
set_option maxHeartbeats 4000000 in
/-- an argument is made one with an atom, if its name isn't too long -/
theorem r16_atom (n : Int) (s : ByteArray) (w : World) (hs : s.size ≤ 1000000) :
    Calls Tryd.prog 55 #[.int .i64 n, .string s] w (TellsE (if 1000 < s.size then .wr (formalE 3 (⟨#[109, 97, 120, 95, 97, 116, 111, 109, 95, 108, 101, 110, 103, 116, 104]⟩ : ByteArray) zeroT0) else .is n (atomT s)) (fun _ => False) w) := by
  have hrw := heap_alloc_new w (.cells #[.bool false, .slice none 0 0, .slice none 0 0, .int .i64 0, .int .i64 0, .string ⟨#[]⟩, .slice none 0 0] 35 (0, 0))
  have hal := (Below.refl w.heap.size w).alloc (Nat.le_refl _) (.cells #[.bool false, .slice none 0 0, .slice none 0 0, .int .i64 0, .int .i64 0, .string ⟨#[]⟩, .slice none 0 0] 35 (0, 0))
  have hsz : (w.alloc (.cells #[.bool false, .slice none 0 0, .slice none 0 0, .int .i64 0, .int .i64 0, .string ⟨#[]⟩, .slice none 0 0] 35 (0, 0))).heap.size = w.heap.size + 1 := by simp
  have HR := Lib.hid hrw
  have HB := Lib.hid hal
  have HZ := Lib.hid hsz
  clear hrw hal hsz
  by_cases hl : 1000 < s.size
  · rw [if_pos hl]
    have c1 : decide (1000 < (s.size : Int)) = true := by simp; omega
    have c2 : decide (1000 < s.size) = true := by simpa using hl
    clear hl
    go_enter Tryd.func55, Tryd.ntmps55
    go_wp2_with fail
    refine (r16_Wrong 3 (⟨#[109, 97, 120, 95, 97, 116, 111, 109, 95, 108, 101, 110, 103, 116, 104]⟩ : ByteArray) zeroT0 _ (fun _ => False) _ (by decide) (IsTm.mk' (t := zeroT0) (IsSl.nil _ _ none 0))).mono ?_
    rintro e9 w9 ⟨v9, rfl, hd9, hb9⟩
    replace hd9 := hd9.wrE (fun b => w.heap.size + 1 ≤ b)
    obtain ⟨cb, u1, u2, u3, n1, k1, n2, k2, n3, k3, cx, cy, cs, rfl⟩ := hd9.cells
    have HD9 := Lib.hid (hd9.imp (Pi' := fun b => w.heap.size + 1 ≤ b) (Pt' := fun b => w.heap.size + 1 ≤ b) (fun b hb => by have := HZ.out; omega) (fun b hb => by have := HZ.out; rcases hb with hb | hb; (· exact hb.elim); (· omega)) (Nat.le_refl _) (fun _ _ _ => rfl))
    have HR9 := Lib.hid (row_on HR.out hb9)
    have HB9 := Lib.hid (HB.out.trans (hb9.mono HB.out.size))
    clear hd9 hb9
    go_wp2_with (with_reducible show wpList _ _ _ (⟨none, .store _ (.tmp 4) _, _, _, _, _⟩ :: _) _ _
                 go_must (refine wpList_store_row rfl 35 (.tmp 4) (.tmp 9) rfl w.heap.size #[.bool cb, .slice u1 n1 k1, .slice u2 n2 k2, .int .i64 cx, .int .i64 cy, .string cs, .slice u3 n3 k3] rfl rfl _ _ HR9.out size_did rfl (by simp [Value.oneCell']) ?_))
    have hz := setRow_heap w9 w.heap.size _ (#[.bool cb, .slice u1 n1 k1, .slice u2 n2 k2, .int .i64 cx, .int .i64 cy, .string cs, .slice u3 n3 k3] : Array Value) _ _ HR9.out
    exact bodyPost_ret (v := .agg #[.bool cb, .slice u1 n1 k1, .slice u2 n2 k2, .int .i64 cx, .int .i64 cy, .string cs, .slice u3 n3 k3]) (results_cell_row Tryd.results55 _ _ w.heap.size _ _ _ _ rfl hz Tryd.underlying35 rfl (by kernel_rfl)) rfl ⟨_, rfl, HD9.out.imp (fun b hb => by omega) (fun b hb => Or.inr (by omega)) (by simp) (fun b hb _ => setRow_other w9 w.heap.size b _ (by have h : w.heap.size + 1 ≤ b := hb.elim id id; omega)), below_row HB9.out (Nat.le_refl _)⟩
  · rw [if_neg hl]
    have c1 : decide (1000 < (s.size : Int)) = false := by simp; omega
    have c2 : decide (1000 < s.size) = false := by simpa using hl
    clear hl
    go_enter Tryd.func55, Tryd.ntmps55
    go_wp2_with fail
    refine (ref_atom _ _).mono ?_
    rintro e3 w3 ⟨rfl, hb3⟩
    replace HR := Lib.hid (row_on HR.out hb3)
    replace HB := Lib.hid (HB.out.trans (hb3.mono HB.out.size))
    replace HZ : Hid (w.heap.size + 1 ≤ w3.heap.size) := Lib.hid (by have := hb3.size; have := HZ.out; omega)
    clear hb3
    go_wp2_with fail
    refine (r16_Is n (atomT s) _ (fun _ => False) _ (atom_is _ _ _)).mono ?_
    rintro e9 w9 ⟨v9, rfl, hd9, hb9⟩
    obtain ⟨cb, u1, u2, u3, n1, k1, n2, k2, n3, k3, cx, cy, cs, rfl⟩ := hd9.cells
    have HD9 := Lib.hid (hd9.imp (Pi' := fun b => w.heap.size + 1 ≤ b) (Pt' := fun b => w.heap.size + 1 ≤ b) (fun b hb => by have := HZ.out; omega) (fun b hb => by have := HZ.out; rcases hb with hb | hb; (· exact hb.elim); (· omega)) (Nat.le_refl _) (fun _ _ _ => rfl))
    have HR9 := Lib.hid (row_on HR.out hb9)
    have HB9 := Lib.hid (HB.out.trans (hb9.mono HB.out.size))
    clear hd9 hb9
    go_wp2_with (with_reducible show wpList _ _ _ (⟨none, .store _ (.tmp 4) _, _, _, _, _⟩ :: _) _ _
                 go_must (refine wpList_store_row rfl 35 (.tmp 4) (.tmp 13) rfl w.heap.size #[.bool cb, .slice u1 n1 k1, .slice u2 n2 k2, .int .i64 cx, .int .i64 cy, .string cs, .slice u3 n3 k3] rfl rfl _ _ HR9.out size_did rfl (by simp [Value.oneCell']) ?_))
    have hz := setRow_heap w9 w.heap.size _ (#[.bool cb, .slice u1 n1 k1, .slice u2 n2 k2, .int .i64 cx, .int .i64 cy, .string cs, .slice u3 n3 k3] : Array Value) _ _ HR9.out
    exact bodyPost_ret (v := .agg #[.bool cb, .slice u1 n1 k1, .slice u2 n2 k2, .int .i64 cx, .int .i64 cy, .string cs, .slice u3 n3 k3]) (results_cell_row Tryd.results55 _ _ w.heap.size _ _ _ _ rfl hz Tryd.underlying35 rfl (by kernel_rfl)) rfl ⟨_, rfl, HD9.out.imp (fun b hb => by omega) (fun b hb => Or.inr (by omega)) (by simp) (fun b hb _ => setRow_other w9 w.heap.size b _ (by have h : w.heap.size + 1 ≤ b := hb.elim id id; omega)), below_row HB9.out (Nat.le_refl _)⟩
theorem okL_mem16 : ∀ l : List Tm, (∀ t ∈ l, t.ok = true) → okL l = true
  | [], _ => rfl
  | t :: l, h => by
    simp only [okL, Bool.and_eq_true]
    exact ⟨h t (by simp), okL_mem16 l fun u hu => h u (by simp [hu])⟩
theorem list_ok (e : Tm) (he : e.ok = true) : ∀ ts : List Tm, okL ts = true → (listT ts e).ok = true
  | [], _ => he
  | t :: l, h => by
    simp only [okL, Bool.and_eq_true] at h
    unfold listT compT
    simp [Tm.ok, okL, h.1, list_ok e he l h.2]
theorem list_ok16 (codes : Bool) (s : ByteArray) : (listT (charsT codes s.data.toList) nilT).ok = true := list_ok _ (by decide) _ (okL_mem16 _ fun t ht => by
  unfold charsT at ht
  obtain ⟨c, -, rfl⟩ := List.mem_map.1 ht
  cases codes <;> simp [charT, intT, atomT, Tm.ok, okL])
set_option maxRecDepth 100000 in
set_option maxHeartbeats 4000000 in
theorem r16_list (s : ByteArray) (codes : Bool) (w : World) (hs : s.size ≤ 100000) :
    Calls Tryd.prog 53 #[.string s, .bool codes] w (fun e w' => ∃ v, e = .returned v ∧ IsTm w' AnyB v (listT (charsT codes s.data.toList) nilT) ∧ Below w.heap.size w w') := by
  have hrw := heap_alloc_new w (.cells #[.int .i64 0, .int .i64 0, .string ⟨#[]⟩, .slice none 0 0] 28 (0, 0))
  have hal := (Below.refl w.heap.size w).alloc (Nat.le_refl _) (.cells #[.int .i64 0, .int .i64 0, .string ⟨#[]⟩, .slice none 0 0] 28 (0, 0))
  have hsz : (w.alloc (.cells #[.int .i64 0, .int .i64 0, .string ⟨#[]⟩, .slice none 0 0] 28 (0, 0))).heap.size = w.heap.size + 1 := by simp
  have HR := Lib.hid hrw
  have HA := Lib.hid hal
  have HZ := Lib.hid hsz
  clear hrw hal hsz
  go_enter Tryd.func53, Tryd.ntmps53
  go_wp2
  generalize w.alloc (.cells #[.int .i64 0, .int .i64 0, .string ⟨#[]⟩, .slice none 0 0] 28 (0, 0)) = W1 at *
  have HST := Lib.hid (show LoRel codes s w (.slice none 0 0) (.int .i64 ((0 : Nat) : Int)) W1 from ⟨0, by omega, rfl, OwnSl.nil _ _ _, HR.out, HA.out⟩)
  clear HR HA HZ
  go_loopw [5, 6] (fun v5 v12 wr => LoRel codes s w v5 v12 wr) (fun _ v12 _ => s.size - (intOf v12).toNat)
  case atStart => exact HST.out
  case round =>
    clear HST
    obtain ⟨i, hi, rfl, ho, hr, hb⟩ := hrel
    obtain ⟨q, k, e1⟩ := ho.form
    rw [chars_len codes s i hi] at e1
    subst e1
    have HO := Lib.hid ho
    have HR := Lib.hid hr
    have HB := Lib.hid hb
    clear ho hr hb
    have hlt := (Array.getElem?_eq_some_iff.1 HR.out).1
    by_cases hin : i < s.size
    · have b1 : decide ((i : Int) < (s.size : Int)) = true := by simp; omega
      have b2 : decide (i < s.size) = true := by simpa using hin
      have HSN := Lib.hid (chars_snoc codes s i hin)
      have hsl : ∀ W : World, (Instr.slice 9 (.string s) (some (.int .i64 (i : Int))) (some (.int .i64 ((i : Int) + 1))) none).run Tryd.prog W = .ok (.string ⟨#[s[i]]⟩) W := fun W => by
        rw [run_slice_string (P := Tryd.prog) (w := W) 9 s .i64 .i64 (i : Int) ((i : Int) + 1) Tryd.underlying9 (by omega) (by omega) (by omega)]
        congr 2
        rw [show ((i : Int) + 1).toNat = i + 1 by omega, show (i : Int).toNat = i by omega]
        exact extract_one s i hin
      have hc : wrap64 (s[i].toNat : Int) = (s[i].toNat : Int) := Num.wrap_in (by have := s[i].toNat_lt; unfold Num.Fit; omega)
      cases codes
      · go_wp2_with fail
        refine (ref_atom _ _).mono ?_
        rintro e3 w3 ⟨rfl, hb3⟩
        have HO3 := Lib.hid (HO.out.below hb3)
        have HR3 := Lib.hid (row_on HR.out hb3)
        have HB3 := Lib.hid (HB.out.trans (hb3.mono HB.out.size))
        have hlt3 := hb3.size
        clear hb3 hsl
        go_wp2_with (with_reducible show wpList _ _ _ (⟨some 30, _, _, _, _, _⟩ :: _) _ _
                     go_must (
                       refine wpList_push_term rfl (.tmp 22) (.tmp 29) rfl (w.heap.size + 1) (fun _ => False) (.slice q i k) _ _ _ _ _ (atomT ⟨#[s[i]]⟩) _ rfl HO3.out rfl rfl (atom_is _ _ _) (by rw [chars_len _ s i hi]; omega) (by omega) ?_
                       intro va' w9 ho9 hb9 hg9 hv9
                       rw [show charsT false (s.data.toList.take i) ++ [atomT ⟨#[s[i]]⟩] = charsT false (s.data.toList.take (i + 1)) from HSN.out.symm] at ho9
                       have HRL := Lib.hid (show LoRel false s w va' (.int .i64 ((i + 1 : Nat) : Int)) w9 from ⟨i + 1, by omega, rfl, ho9, (hb9.block _ (by omega)).trans HR3.out, HB3.out.trans (hb9.mono (by omega))⟩)
                       clear ho9 hb9 hg9 hv9))
        go_roundw
        case measure => simp [intOf]; omega
        case rel => exact HRL.out
      · go_wp2_with fail
        rw [hc]
        refine (r16_I _ _).mono ?_
        rintro e3 w3 ⟨rfl, hb3⟩
        have HO3 := Lib.hid (HO.out.below hb3)
        have HR3 := Lib.hid (row_on HR.out hb3)
        have HB3 := Lib.hid (HB.out.trans (hb3.mono HB.out.size))
        have hlt3 := hb3.size
        clear hb3 hsl
        go_wp2_with (with_reducible show wpList _ _ _ (⟨some 21, _, _, _, _, _⟩ :: _) _ _
                     go_must (
                       refine wpList_push_term rfl (.tmp 14) (.tmp 20) rfl (w.heap.size + 1) (fun _ => False) (.slice q i k) _ _ _ _ _ (intT s[i].toNat) _ rfl HO3.out rfl rfl (int_is _ _ _) (by rw [chars_len _ s i hi]; omega) (by omega) ?_
                       intro va' w9 ho9 hb9 hg9 hv9
                       rw [show charsT true (s.data.toList.take i) ++ [intT s[i].toNat] = charsT true (s.data.toList.take (i + 1)) from HSN.out.symm] at ho9
                       have HRL := Lib.hid (show LoRel true s w va' (.int .i64 ((i + 1 : Nat) : Int)) w9 from ⟨i + 1, by omega, rfl, ho9, (hb9.block _ (by omega)).trans HR3.out, HB3.out.trans (hb9.mono (by omega))⟩)
                       clear ho9 hb9 hg9 hv9))
        go_roundw
        case measure => simp [intOf]; omega
        case rel => exact HRL.out
    · have b1 : decide ((i : Int) < (s.size : Int)) = false := by simp; omega
      have b2 : decide (i < s.size) = false := by simpa using hin
      obtain rfl : i = s.size := by omega
      have hsl := HO.out.reads
      rw [show s.data.toList.take s.size = s.data.toList from List.take_of_length_le (Nat.le_refl _)] at hsl
      have HSL := Lib.hid hsl
      have hcl := chars_size codes s.data.toList
      have HCL := Lib.hid (show sizeL (charsT codes s.data.toList) + nilT.size ≤ 1000000000 by rw [hcl]; have : s.data.toList.length = s.size := rfl; simp only [nilT, atomT, Tm.size, sizeL]; omega)
      clear hsl hcl HO
      go_wp2_with fail
      refine (ref_atom _ _).mono ?_
      rintro e3 w3 ⟨rfl, hb3⟩
      have HB3 := Lib.hid hb3
      clear hb3
      go_wp2_with fail
      refine (ref_List (charsT codes s.data.toList) nilT _ _ _ AnyB _ HCL.out (HSL.out.below HB3.out) (atom_is _ _ _)).mono ?_
      rintro e4 w4 ⟨v4, rfl, hi4, hb4⟩
      obtain ⟨q4, k4, rfl⟩ := hi4.form
      have hb34 := HB3.out.trans (hb4.mono HB3.out.size)
      have HR4 := Lib.hid (row_on HR.out hb34)
      have HB4 := Lib.hid (HB.out.trans (hb34.mono HB.out.size))
      have HI4 := Lib.hid (hi4.avoidC (zrow_term HR4.out) (list_ok16 codes s))
      clear hi4 hb4 hb34 HB3 HSL HR HB
      generalize hU : listT (charsT codes s.data.toList) nilT = U at *
      have HU := Lib.hid hU
      clear hU
      go_wp2_with (refine wpList_store_row rfl 28 (.tmp 4) (.tmp 33) rfl w.heap.size #[.int .i64 U.k, .int .i64 U.n, .string U.s, .slice q4 U.args.length k4] rfl rfl _ _ HR4.out size_term rfl (one4 _ _ _ _ _ _) ?_)
      have hz := setRow_heap w4 w.heap.size _ (#[.int .i64 U.k, .int .i64 U.n, .string U.s, .slice q4 U.args.length k4] : Array Value) _ _ HR4.out
      exact bodyPost_ret (v := .agg #[.int .i64 U.k, .int .i64 U.n, .string U.s, .slice q4 U.args.length k4]) (results_cell_row Tryd.results53 _ _ w.heap.size _ _ _ _ rfl hz Tryd.underlying28 rfl (by kernel_rfl)) rfl ⟨_, rfl, by rw [HU.out]; exact HI4.out.imp (P' := AnyB) (fun _ _ => trivial) (fun b hb _ => setRow_other w4 w.heap.size b _ hb.2), below_row HB4.out (Nat.le_refl _)⟩
end Go.Proofs.YtkhchmgdaolojaaDoor.Tms
namespace Go.Proofs.YtkhchmgdaolojaaDoor.Tms
open Go Go.RowKit Go.Proofs.YtkhchmgdaolojaaDoor.Reg Go.Proofs.YtkhchmgdaolojaaDoor.Rws Go.Proofs.YtkhchmgdaolojaaDoor.Maps Go.Instr
set_option linter.unusedVariables false
set_option linter.unusedSimpArgs false

/-- three results: a slot, a struct in a row, a slot -/
theorem results_tct {P : Program} {fn : Func} {p q r : Tmp} {ty : TypeId} (h : fn.results = #[.tmp q, .cell p ty, .tmp r]) (tmps : Array Value) (w : World) (g : Nat) (t : TypeId) (cs : Array Value) (fr : Nat × Nat) (d : TypeDesc) (x y : Value)
    (hp : tmps.getD p undef = .pointer (some ⟨g, 0, none⟩)) (hx : tmps.getD q undef = x) (hy : tmps.getD r undef = y) (hg : w.heap[g]? = some (.cells cs t fr))
    (hu : P.underlying ty = some d) (hd : (match d with | .struct _ | .array _ _ => true | _ => false) = true) (hi : (P.info? ty).map (·.size) = some cs.size) :
    (results fn tmps).run P w = .ok (.tuple #[x, .agg cs, y]) w := by
  have hp' : tmps[p]?.getD undef = .pointer (some ⟨g, 0, none⟩) := by simpa using hp
  have hx' : tmps[q]?.getD undef = x := by simpa using hx
  have hy' : tmps[r]?.getD undef = y := by simpa using hy
  simp [results, h, hp', hx', hy', asAddr, run_loadVar_row w g t ty cs fr d hg hu hd hi]
mutual
theorem may_ok : ∀ t : Tm, mayT t = true → t.ok = true
  | .mk k n s a, h => by
    simp only [mayT, Bool.and_eq_true] at h
    have h2 := mayTL_ok a h.2
    have h1 : k ≠ 0 := fun e => by rw [e] at h; simp [mayB] at h
    simp [Tm.ok, h1, h2]
theorem mayTL_ok : ∀ l : List Tm, mayTL l = true → okL l = true
  | [], _ => rfl
  | t :: l, h => by
    simp only [mayTL, Bool.and_eq_true] at h
    simp [okL, may_ok t h.1, mayTL_ok l h.2]
end
theorem ok_parts {t : Tm} (h : t.ok = true) : okL t.args = true := by obtain ⟨k, n, s, a⟩ := t; simp only [Tm.ok, Bool.and_eq_true] at h; exact h.2
theorem itemsN_ok : ∀ (n : Nat) (t : Tm), t.ok = true → okL (itemsN n t).1 = true ∧ (itemsN n t).2.ok = true
  | 0, t, h => by simp [itemsN, okL, h]
  | n + 1, t, h => by
    unfold itemsN
    by_cases hc : consB t = true
    · have h1 := ok_parts h
      rw [cons_args hc] at h1
      simp only [okL, Bool.and_eq_true, and_true] at h1
      have h2 := itemsN_ok n (tailT t) h1.2
      rw [if_pos hc]
      simp [okL, h1.1, h2.1, h2.2]
    · rw [if_neg hc]
      simp [okL, h]
theorem okL_at : ∀ {l : List Tm} {i : Nat} (h : i < l.length), okL l = true → l[i].ok = true
  | t :: l, 0, _, h => by simp only [okL, Bool.and_eq_true] at h; exact h.1
  | t :: l, i + 1, hi, h => by simp only [okL, Bool.and_eq_true] at h; exact @okL_at l i (by simpa using hi) h.2
theorem form_ok16 (e : Int) (s : ByteArray) (t : Tm) (h : t.ok = true) : (formalE e s t).ok = true := by
  unfold formalE
  repeat' split
  all_goals simp [Tm.ok, okL, compT, atomT, h]
theorem IsDd.avoidW {w : World} {P : Nat → Prop} {g : Nat} {v : Value} {t : Tm} (hz : Zrow w g) (hok : t.ok = true) (h : IsDd w P v (.wr t)) : IsDd w (fun b => P b ∧ b ≠ g) v (.wr t) := by
  obtain ⟨q, k, e, h1⟩ := h
  exact ⟨q, k, e, h1.avoidC hz hok⟩
theorem IsDd.wr_cells {w : World} {P : Nat → Prop} {v : Value} {t : Tm} (h : IsDd w P v (.wr t)) : ∃ q k, v = .agg #[.bool false, .slice none 0 0, .slice none 0 0, .int .i64 t.k, .int .i64 t.n, .string t.s, .slice q t.args.length k] := let ⟨q, k, e, _⟩ := h; ⟨q, k, e⟩
/-- what text answers -/
def TrPost (r : Option Tm × List UInt8) (w : World) (e : Ending) (w' : World) : Prop := Below w.heap.size w w' ∧ match r.1 with
  | none => e = .returned (.tuple #[.string ⟨r.2.toArray⟩, .agg #[.bool false, .slice none 0 0, .slice none 0 0, .int .i64 0, .int .i64 0, .string ⟨#[]⟩, .slice none 0 0], .bool true])
  | some b => b.ok = true ∧ ∃ v, e = .returned (.tuple #[.string ⟨#[]⟩, v, .bool false]) ∧ IsDd w' AnyB v (.wr b)
structure TrRel (codes : Bool) (L U : Tm) (us : List Tm) (w : World) (B g8 : Nat) (v7 : Value) (v9 v19 : Value) (wr : World) : Prop where
  ex : ∃ i : Nat, i ≤ us.length ∧ v19 = .int .i64 i ∧ (∀ j (h : j < us.length), j < i → badItem codes us[j] = none) ∧ Byt.OwnB wr B v9 ((us.take i).map (byteT codes))
  res : wr.heap[w.heap.size + 1]? = some (.cells #[.bool false, .slice none 0 0, .slice none 0 0, .int .i64 0, .int .i64 0, .string ⟨#[]⟩, .slice none 0 0] 35 (0, 0))
  lst : ∃ a c, wr.heap[w.heap.size]? = some (.cells #[.int .i64 L.k, .int .i64 L.n, .string L.s, .slice a L.args.length c] 28 (0, 0)) ∧ IsTm wr (fun b => b < w.heap.size) (.agg #[.int .i64 L.k, .int .i64 L.n, .string L.s, .slice a L.args.length c]) L
  tl : ∃ a c, wr.heap[g8]? = some (.cells #[.int .i64 U.k, .int .i64 U.n, .string U.s, .slice a U.args.length c] 28 (0, 0)) ∧ IsTm wr (fun b => b < B) (.agg #[.int .i64 U.k, .int .i64 U.n, .string U.s, .slice a U.args.length c]) U
  sl : IsSl wr (fun b => b < B) v7 us
  bel : Below w.heap.size w wr
  lo : w.heap.size + 2 ≤ B
  tlt : B ≤ wr.heap.size
theorem TrRel.next {codes : Bool} {L U : Tm} {us : List Tm} {w wr wx w9 : World} {B g8 i : Nat} {v7 v9 v19 v' : Value} {T : Tm} (h : TrRel codes L U us w B g8 v7 v9 v19 wr) (hg : g8 < B) (hin : i < us.length) (hbad : ∀ j (h : j < us.length), j < i → badItem codes us[j] = none) (hT : T = us[i]) (hn : badItem codes T = none)
    (hw : Below wr.heap.size wr wx) (ho : Byt.OwnB w9 B v' ((us.take i).map (byteT codes) ++ [byteT codes T])) (hb : Below B wx w9) : TrRel codes L U us w B g8 v7 v' (.int .i64 ((i + 1 : Nat) : Int)) w9 := by
  have hlow := h.lo
  have htl := h.tlt
  have hk : ∀ b, b < B → w9.heap[b]? = wr.heap[b]? := fun b hb' => (hb.block b hb').trans (hw.block b (by omega))
  have hsz : wr.heap.size ≤ w9.heap.size := Nat.le_trans hw.size hb.size
  obtain ⟨a1, c1, r1, i1⟩ := h.lst
  obtain ⟨a2, c2, r2, i2⟩ := h.tl
  have hws := h.bel.size
  exact
    { ex := ⟨i + 1, by omega, rfl, fun j hj hji => by
        rcases Nat.lt_or_ge j i with h1 | h1
        · exact hbad j hj h1
        · obtain rfl : j = i := by omega
          rw [← hT]; exact hn, by
        have e : (us.take (i + 1)).map (byteT codes) = (us.take i).map (byteT codes) ++ [byteT codes T] := by rw [List.take_succ_eq_append_getElem hin, List.map_append, hT]; rfl
        rw [e]; exact ho⟩
      res := (hk _ (by omega)).trans h.res
      lst := ⟨a1, c1, (hk _ (by omega)).trans r1, i1.imp (fun _ h => h) fun b hb' _ => hk b (by have hb2 : b < w.heap.size := hb'; omega)⟩
      tl := ⟨a2, c2, (hk _ hg).trans r2, i2.imp (fun _ h => h) fun b hb' _ => hk b hb'⟩
      sl := h.sl.imp (fun _ h => h) fun b hb' _ => hk b hb'
      bel := h.bel.trans ⟨hb.os.trans hw.os, hb.tape.trans hw.tape, hb.output.trans hw.output, by omega, fun b hb' => hk b (by omega)⟩
      lo := hlow
      tlt := by omega }
theorem formal12 (t u : Tm) (a : ByteArray) : formalE 12 a t = formalE 12 a u := by unfold formalE; rfl
theorem formal3 (t u : Tm) (a : ByteArray) : formalE 3 a t = formalE 3 a u := by unfold formalE; rfl
set_option maxRecDepth 100000 in
set_option maxHeartbeats 8000000 in
theorem r16_text (L : Tm) (codes : Bool) (v : Value) (P : Nat → Prop) (w : World) (hM : L.size ≤ 1000000) (hk : L.ok = true) (h : IsTm w P v L) :
    Calls Tryd.prog 54 #[v, .bool codes] w (TrPost (textT codes L) w) := by
  obtain ⟨a, cap, rfl⟩ := h.form
  obtain ⟨w1, w2, w3, w4⟩ := two w (.cells #[.int .i64 L.k, .int .i64 L.n, .string L.s, .slice a L.args.length cap] 28 (0, 0)) (.cells #[.bool false, .slice none 0 0, .slice none 0 0, .int .i64 0, .int .i64 0, .string ⟨#[]⟩, .slice none 0 0] 35 (0, 0))
  obtain ⟨y0, y1, y2, y3⟩ := row4 w1
  have HL := Lib.hid w1
  have HR := Lib.hid w2
  have HZ := Lib.hid w3
  have HB := Lib.hid w4
  have H := Lib.hid ((h.lt.imp (P' := fun b => b < w.heap.size) (fun b hb => hb.2) fun _ _ _ => rfl).below w4)
  have hsz := items_size L
  have HIO := Lib.hid (itemsN_ok L.size L hk)
  have HLO := Lib.hid hk
  clear h w1 w2 w3 w4 hk
  go_enter Tryd.func54, Tryd.ntmps54
  go_wp2_with fail
  generalize (w.alloc (.cells #[.int .i64 L.k, .int .i64 L.n, .string L.s, .slice a L.args.length cap] 28 (0, 0))).alloc (.cells #[.bool false, .slice none 0 0, .slice none 0 0, .int .i64 0, .int .i64 0, .string ⟨#[]⟩, .slice none 0 0] 35 (0, 0)) = W1 at *
  refine (ref_items L _ _ _ (by omega) H.out).mono ?_
  rintro e5 w5 ⟨v1, v2, rfl, hsl, htl, hb5⟩
  obtain ⟨us, hus⟩ : ∃ us, us = (itemsT L).1 := ⟨_, rfl⟩
  obtain ⟨U, hU⟩ : ∃ U, U = (itemsT L).2 := ⟨_, rfl⟩
  have HOU := Lib.hid (show okL us = true ∧ U.ok = true by rw [hus, hU]; exact HIO.out)
  rw [← hus] at hsl hsz
  rw [← hU] at htl hsz
  obtain ⟨a1, c1, rfl⟩ := hsl.form
  obtain ⟨q2, k2, rfl⟩ := htl.form
  have hbt : Below w5.heap.size w5 (w5.alloc (.cells #[.int .i64 U.k, .int .i64 U.n, .string U.s, .slice q2 U.args.length k2] 28 (0, 0))) := (Below.refl _ _).alloc (Nat.le_refl _) _
  have h15 := hb5.trans (hbt.mono hb5.size)
  have hz2 : W1.heap.size = w.heap.size + 2 := HZ.out
  have hlu := len_le us
  have HST := Lib.hid (show TrRel codes L U us w (w5.heap.size + 1) w5.heap.size (.slice a1 us.length c1) (.slice none 0 0) (.int .i64 ((0 : Nat) : Int)) (w5.alloc (.cells #[.int .i64 U.k, .int .i64 U.n, .string U.s, .slice q2 U.args.length k2] 28 (0, 0))) from
    { ex := ⟨0, by omega, rfl, fun j _ h => by omega, by simpa using Byt.OwnB.nil _ _⟩
      res := row_on HR.out h15
      lst := ⟨_, _, row_on HL.out h15, H.out.below h15⟩
      tl := ⟨_, _, heap_alloc_new w5 _, (htl.lt.imp (P' := fun b => b < w5.heap.size + 1) (fun b hb => by have := hb.2; omega) fun _ _ _ => rfl).below hbt⟩
      sl := (hsl.lt2.imp (P' := fun b => b < w5.heap.size + 1) (fun b hb => by have := hb.2; omega) fun _ _ _ => rfl).below hbt
      bel := HB.out.trans (h15.mono HB.out.size)
      lo := by have := hb5.size; omega
      tlt := by simp })
  have HUS := Lib.hid (And.intro hus hU)
  clear hsl htl hb5 hbt h15 H HL HR HB hz2 HZ hus hU y0 y1 y2 y3 HIO
  go_wp2
  generalize w5.alloc (.cells #[.int .i64 U.k, .int .i64 U.n, .string U.s, .slice q2 U.args.length k2] 28 (0, 0)) = W6 at *
  go_loopw [9, 19] (fun v9 v19 wr => TrRel codes L U us w (w5.heap.size + 1) w5.heap.size (.slice a1 us.length c1) v9 v19 wr) (fun _ v19 _ => us.length - (intOf v19).toNat)
  case atStart => exact HST.out
  case round =>
    clear HST
    have HRL := Lib.hid hrel
    obtain ⟨i, hi, rfl, hbad, hown⟩ := hrel.ex
    obtain ⟨q8, k8, e8⟩ := hown.slot
    rw [List.length_map, List.length_take, Nat.min_eq_left hi] at e8
    subst e8
    by_cases hin : i < us.length
    · have b1 : decide ((i : Int) < (us.length : Int)) = true := by simp; omega
      have b2 : decide (i < us.length) = true := by simpa using hin
      obtain ⟨T, hT⟩ : ∃ T, T = us[i] := ⟨_, rfl⟩
      obtain ⟨gb, go, ea, -, hat⟩ := hrel.sl.at i hin
      subst ea
      rw [← hT] at hat
      obtain ⟨qa, qc, x0, x1, x2, x3, hit, hlb⟩ := hat.read
      have HTT := Lib.hid hT
      have HTO := Lib.hid (show T.ok = true by rw [hT]; exact okL_at hin HOU.out.1)
      have hTs : T.size ≤ 1000000 := by rw [hT]; have := size_mem hin; omega
      have hwt := (Below.refl wr.heap.size wr).alloc (Nat.le_refl _) (.cells #[.int .i64 T.k, .int .i64 T.n, .string T.s, .slice qa T.args.length qc] 28 (0, 0))
      have HWT := Lib.hid hwt
      have HNW := Lib.hid (heap_alloc_new wr (.cells #[.int .i64 T.k, .int .i64 T.n, .string T.s, .slice qa T.args.length qc] 28 (0, 0)))
      have HIT := Lib.hid ((hit.imp (P' := AnyB) (fun b hb => trivial) (fun _ _ _ => rfl)).below hwt)
      have HOW := Lib.hid hown
      have HBA := Lib.hid hbad
      have hlo := hrel.lo
      have hlr := hrel.bel.size
      have hlt5 := hrel.tlt
      clear hat hit hwt hown hbad hrel hT
      go_upto_region 7 with fail
      clear x0 x1 x2 x3 hlb
      generalize wr.alloc (.cells #[.int .i64 T.k, .int .i64 T.n, .string T.s, .slice qa T.args.length qc] 28 (0, 0)) = WT at *
      obtain ⟨x0, x1, x2, x3⟩ := row4 HNW.out
      by_cases hk1 : T.k = 1
      · have HFB := Lib.hid (find_bad hin HBA.out (b := formalE 12 ⟨#[]⟩ T) (by rw [← HTT.out]; unfold badItem; rw [if_pos hk1]; rfl))
        have c1' : (T.k == 1) = true := by rw [hk1]; rfl
        clear hk1
        go_wp2_with fail
        refine (r16_Wrong 12 ⟨#[]⟩ T _ AnyB _ (by omega) HIT.out).mono ?_
        rintro e9 w9 ⟨v9, rfl, hd9, hb9⟩
        have h9 := HWT.out.trans (hb9.mono HWT.out.size)
        have HR9 := Lib.hid (row_on HRL.out.res h9)
        have HB9 := Lib.hid (HRL.out.bel.trans (h9.mono HRL.out.bel.size))
        have HOK := Lib.hid (form_ok16 12 ⟨#[]⟩ T (HTO.out))
        have HI9 := Lib.hid (IsDd.avoidW (g := w.heap.size + 1) (zrow_did HR9.out) HOK.out hd9)
        obtain ⟨q9, k9, rfl⟩ := hd9.wr_cells
        have HXT := Lib.hid (show textT codes L = (some (formalE 12 ⟨#[]⟩ T), []) by unfold textT; rw [← HUS.out.1, HFB.out])
        clear hd9 hb9 h9
        generalize hF : formalE 12 ⟨#[]⟩ T = F at *
        clear hF
        go_wp2_with (with_reducible show wpList _ _ _ (⟨none, .store _ (.tmp 5) _, _, _, _, _⟩ :: _) _ _
                     go_must (refine wpList_store_row rfl 35 (.tmp 5) (.tmp 34) rfl (w.heap.size + 1) #[.bool false, .slice none 0 0, .slice none 0 0, .int .i64 F.k, .int .i64 F.n, .string F.s, .slice q9 F.args.length k9] rfl rfl _ _ HR9.out size_did rfl (by simp [Value.oneCell']) ?_))
        have hz := setRow_heap w9 (w.heap.size + 1) _ (#[.bool false, .slice none 0 0, .slice none 0 0, .int .i64 F.k, .int .i64 F.n, .string F.s, .slice q9 F.args.length k9] : Array Value) _ _ HR9.out
        rw [HXT.out]
        exact bodyPost_ret (v := .tuple #[.string ⟨#[]⟩, .agg #[.bool false, .slice none 0 0, .slice none 0 0, .int .i64 F.k, .int .i64 F.n, .string F.s, .slice q9 F.args.length k9], .bool false]) (results_tct Tryd.results54 _ _ (w.heap.size + 1) _ _ _ _ _ _ rfl rfl rfl hz Tryd.underlying35 rfl (by kernel_rfl)) rfl ⟨below_row HB9.out (by omega), HOK.out, _, rfl, HI9.out.imp (fun _ _ => trivial) (by simp) (fun b hb _ => setRow_other w9 (w.heap.size + 1) b _ hb.2)⟩
      have c1' : (T.k == 1) = false := by simpa using hk1
      cases codes
      · have hnb : badItem false T = if T.k = 3 ∧ T.s.size = 1 then none else some (formalE 13 (⟨#[99, 104, 97, 114, 97, 99, 116, 101, 114]⟩ : ByteArray) T) := by unfold badItem; rw [if_neg hk1, if_neg (by decide)]
        by_cases hk3 : T.k = 3 ∧ T.s.size = 1
        · rw [if_pos hk3] at hnb
          have HNO := Lib.hid hnb
          have c2 : (T.k == 3) = true := by rw [hk3.1]; rfl
          have c3 : ((T.s.size : Int) == 1) = true := by rw [hk3.2]; rfl
          have c4 : (T.s.size == 1) = true := by rw [hk3.2]; rfl
          have h1 : T.s.size = 1 := hk3.2
          have h01 : 0 < T.s.size := by omega
          have HBY := Lib.hid (show ((byteT false T).toNat : Int) = ((T.s[0]'h01).toNat : Int) by unfold byteT; rw [if_neg (by decide), byte0 h1])
          clear hk3 h1
          have HWX := Lib.hid (HWT.out.trans (((Below.refl WT.heap.size WT).alloc (Nat.le_refl _) (.cells #[.int .u8 ((T.s[0]'h01).toNat : Int)] 5 (0, 0))).mono HWT.out.size))
          have HNB := Lib.hid (show (WT.alloc (.cells #[.int .u8 ((T.s[0]'h01).toNat : Int)] 5 (0, 0))).heap[WT.heap.size]? = some (.cells ([byteT false T].map Byt.cellB).toArray 5 (0, 0)) by rw [show [byteT false T].map Byt.cellB = [.int .u8 ((T.s[0]'h01).toNat : Int)] from by simp only [List.map_cons, List.map_nil, Byt.cellB]; rw [HBY.out]]; exact heap_alloc_new WT _)
          go_wp2_with (with_reducible show wpList _ _ _ (⟨some 54, _, _, _, _, _⟩ :: _) _ _
                       go_must (
                         refine Byt.wpList_appL rfl (.tmp 49) (.tmp 53) rfl (w5.heap.size + 1) (.slice q8 i k8) ((us.take i).map (byteT false)) [byteT false T] WT.heap.size 1 _ _ rfl (HOW.out.below HWX.out) rfl HNB.out (by simp; omega) (by have := HWX.out.size; omega) ?_
                         intro v' w9 ho9 hb9
                         have HRL9 := Lib.hid (HRL.out.next (by omega) hin HBA.out HTT.out HNO.out HWX.out ho9 hb9)
                         clear ho9 hb9))
          go_roundw
          case measure => simp [intOf]; omega
          case rel => exact HRL9.out
        · rw [if_neg hk3] at hnb
          have HFB := Lib.hid (find_bad hin HBA.out (b := formalE 13 (⟨#[99, 104, 97, 114, 97, 99, 116, 101, 114]⟩ : ByteArray) T) (by rw [← HTT.out]; exact hnb))
          by_cases h3 : T.k = 3
          · have c2 : (T.k == 3) = true := by rw [h3]; rfl
            have c3 : ((T.s.size : Int) == 1) = false := by simp; omega
            have c4 : (T.s.size == 1) = false := by simp; omega
            clear hk3 h3
            go_wp2_with fail
            refine (r16_Wrong 13 (⟨#[99, 104, 97, 114, 97, 99, 116, 101, 114]⟩ : ByteArray) T _ AnyB _ (by omega) HIT.out).mono ?_
            rintro e9 w9 ⟨v9, rfl, hd9, hb9⟩
            have h9 := HWT.out.trans (hb9.mono HWT.out.size)
            have HR9 := Lib.hid (row_on HRL.out.res h9)
            have HB9 := Lib.hid (HRL.out.bel.trans (h9.mono HRL.out.bel.size))
            have HOK := Lib.hid (form_ok16 13 (⟨#[99, 104, 97, 114, 97, 99, 116, 101, 114]⟩ : ByteArray) T (HTO.out))
            have HI9 := Lib.hid (IsDd.avoidW (g := w.heap.size + 1) (zrow_did HR9.out) HOK.out hd9)
            obtain ⟨q9, k9, rfl⟩ := hd9.wr_cells
            have HXT := Lib.hid (show textT false L = (some (formalE 13 (⟨#[99, 104, 97, 114, 97, 99, 116, 101, 114]⟩ : ByteArray) T), []) by unfold textT; rw [← HUS.out.1, HFB.out])
            clear hd9 hb9 h9
            generalize hF : formalE 13 (⟨#[99, 104, 97, 114, 97, 99, 116, 101, 114]⟩ : ByteArray) T = F at *
            clear hF
            go_wp2_with (with_reducible show wpList _ _ _ (⟨none, .store _ (.tmp 5) _, _, _, _, _⟩ :: _) _ _
                         go_must (refine wpList_store_row rfl 35 (.tmp 5) (.tmp 59) rfl (w.heap.size + 1) #[.bool false, .slice none 0 0, .slice none 0 0, .int .i64 F.k, .int .i64 F.n, .string F.s, .slice q9 F.args.length k9] rfl rfl _ _ HR9.out size_did rfl (by simp [Value.oneCell']) ?_))
            have hz := setRow_heap w9 (w.heap.size + 1) _ (#[.bool false, .slice none 0 0, .slice none 0 0, .int .i64 F.k, .int .i64 F.n, .string F.s, .slice q9 F.args.length k9] : Array Value) _ _ HR9.out
            rw [HXT.out]
            exact bodyPost_ret (v := .tuple #[.string ⟨#[]⟩, .agg #[.bool false, .slice none 0 0, .slice none 0 0, .int .i64 F.k, .int .i64 F.n, .string F.s, .slice q9 F.args.length k9], .bool false]) (results_tct Tryd.results54 _ _ (w.heap.size + 1) _ _ _ _ _ _ rfl rfl rfl hz Tryd.underlying35 rfl (by kernel_rfl)) rfl ⟨below_row HB9.out (by omega), HOK.out, _, rfl, HI9.out.imp (fun _ _ => trivial) (by simp) (fun b hb _ => setRow_other w9 (w.heap.size + 1) b _ hb.2)⟩
          · have c2 : (T.k == 3) = false := by simpa using h3
            clear hk3 h3
            go_wp2_with fail
            refine (r16_Wrong 13 (⟨#[99, 104, 97, 114, 97, 99, 116, 101, 114]⟩ : ByteArray) T _ AnyB _ (by omega) HIT.out).mono ?_
            rintro e9 w9 ⟨v9, rfl, hd9, hb9⟩
            have h9 := HWT.out.trans (hb9.mono HWT.out.size)
            have HR9 := Lib.hid (row_on HRL.out.res h9)
            have HB9 := Lib.hid (HRL.out.bel.trans (h9.mono HRL.out.bel.size))
            have HOK := Lib.hid (form_ok16 13 (⟨#[99, 104, 97, 114, 97, 99, 116, 101, 114]⟩ : ByteArray) T (HTO.out))
            have HI9 := Lib.hid (IsDd.avoidW (g := w.heap.size + 1) (zrow_did HR9.out) HOK.out hd9)
            obtain ⟨q9, k9, rfl⟩ := hd9.wr_cells
            have HXT := Lib.hid (show textT false L = (some (formalE 13 (⟨#[99, 104, 97, 114, 97, 99, 116, 101, 114]⟩ : ByteArray) T), []) by unfold textT; rw [← HUS.out.1, HFB.out])
            clear hd9 hb9 h9
            generalize hF : formalE 13 (⟨#[99, 104, 97, 114, 97, 99, 116, 101, 114]⟩ : ByteArray) T = F at *
            clear hF
            go_wp2_with (with_reducible show wpList _ _ _ (⟨none, .store _ (.tmp 5) _, _, _, _, _⟩ :: _) _ _
                         go_must (refine wpList_store_row rfl 35 (.tmp 5) (.tmp 59) rfl (w.heap.size + 1) #[.bool false, .slice none 0 0, .slice none 0 0, .int .i64 F.k, .int .i64 F.n, .string F.s, .slice q9 F.args.length k9] rfl rfl _ _ HR9.out size_did rfl (by simp [Value.oneCell']) ?_))
            have hz := setRow_heap w9 (w.heap.size + 1) _ (#[.bool false, .slice none 0 0, .slice none 0 0, .int .i64 F.k, .int .i64 F.n, .string F.s, .slice q9 F.args.length k9] : Array Value) _ _ HR9.out
            rw [HXT.out]
            exact bodyPost_ret (v := .tuple #[.string ⟨#[]⟩, .agg #[.bool false, .slice none 0 0, .slice none 0 0, .int .i64 F.k, .int .i64 F.n, .string F.s, .slice q9 F.args.length k9], .bool false]) (results_tct Tryd.results54 _ _ (w.heap.size + 1) _ _ _ _ _ _ rfl rfl rfl hz Tryd.underlying35 rfl (by kernel_rfl)) rfl ⟨below_row HB9.out (by omega), HOK.out, _, rfl, HI9.out.imp (fun _ _ => trivial) (by simp) (fun b hb _ => setRow_other w9 (w.heap.size + 1) b _ hb.2)⟩
      · have hnb : badItem true T = if T.k = 2 then (if T.n < 0 ∨ 255 < T.n then some (formalE 3 (⟨#[99, 104, 97, 114, 97, 99, 116, 101, 114, 95, 99, 111, 100, 101]⟩ : ByteArray) zeroT0) else none) else some (formalE 13 (⟨#[105, 110, 116, 101, 103, 101, 114]⟩ : ByteArray) T) := by unfold badItem; rw [if_neg hk1, if_pos rfl]
        by_cases hk2 : T.k = 2
        · rw [if_pos hk2] at hnb
          have c2 : (T.k != 2) = false := by rw [hk2]; rfl
          by_cases hr : T.n < 0 ∨ 255 < T.n
          · rw [if_pos hr] at hnb
            have HFB := Lib.hid (find_bad hin HBA.out (b := formalE 3 (⟨#[99, 104, 97, 114, 97, 99, 116, 101, 114, 95, 99, 111, 100, 101]⟩ : ByteArray) T) (by rw [← HTT.out, formal3 T zeroT0]; exact hnb))
            by_cases hr1 : T.n < 0
            · have c3 : decide (T.n < 0) = true := by simpa using hr1
              clear hr hr1 hk2
              go_wp2_with fail
              refine (r16_Wrong 3 (⟨#[99, 104, 97, 114, 97, 99, 116, 101, 114, 95, 99, 111, 100, 101]⟩ : ByteArray) T _ AnyB _ (by omega) HIT.out).mono ?_
              rintro e9 w9 ⟨v9, rfl, hd9, hb9⟩
              have h9 := HWT.out.trans (hb9.mono HWT.out.size)
              have HR9 := Lib.hid (row_on HRL.out.res h9)
              have HB9 := Lib.hid (HRL.out.bel.trans (h9.mono HRL.out.bel.size))
              have HOK := Lib.hid (form_ok16 3 (⟨#[99, 104, 97, 114, 97, 99, 116, 101, 114, 95, 99, 111, 100, 101]⟩ : ByteArray) T (HTO.out))
              have HI9 := Lib.hid (IsDd.avoidW (g := w.heap.size + 1) (zrow_did HR9.out) HOK.out hd9)
              obtain ⟨q9, k9, rfl⟩ := hd9.wr_cells
              have HXT := Lib.hid (show textT true L = (some (formalE 3 (⟨#[99, 104, 97, 114, 97, 99, 116, 101, 114, 95, 99, 111, 100, 101]⟩ : ByteArray) T), []) by unfold textT; rw [← HUS.out.1, HFB.out])
              clear hd9 hb9 h9
              generalize hF : formalE 3 (⟨#[99, 104, 97, 114, 97, 99, 116, 101, 114, 95, 99, 111, 100, 101]⟩ : ByteArray) T = F at *
              clear hF
              go_wp2_with (with_reducible show wpList _ _ _ (⟨none, .store _ (.tmp 5) _, _, _, _, _⟩ :: _) _ _
                           go_must (refine wpList_store_row rfl 35 (.tmp 5) (.tmp 76) rfl (w.heap.size + 1) #[.bool false, .slice none 0 0, .slice none 0 0, .int .i64 F.k, .int .i64 F.n, .string F.s, .slice q9 F.args.length k9] rfl rfl _ _ HR9.out size_did rfl (by simp [Value.oneCell']) ?_))
              have hz := setRow_heap w9 (w.heap.size + 1) _ (#[.bool false, .slice none 0 0, .slice none 0 0, .int .i64 F.k, .int .i64 F.n, .string F.s, .slice q9 F.args.length k9] : Array Value) _ _ HR9.out
              rw [HXT.out]
              exact bodyPost_ret (v := .tuple #[.string ⟨#[]⟩, .agg #[.bool false, .slice none 0 0, .slice none 0 0, .int .i64 F.k, .int .i64 F.n, .string F.s, .slice q9 F.args.length k9], .bool false]) (results_tct Tryd.results54 _ _ (w.heap.size + 1) _ _ _ _ _ _ rfl rfl rfl hz Tryd.underlying35 rfl (by kernel_rfl)) rfl ⟨below_row HB9.out (by omega), HOK.out, _, rfl, HI9.out.imp (fun _ _ => trivial) (by simp) (fun b hb _ => setRow_other w9 (w.heap.size + 1) b _ hb.2)⟩
            · have c3 : decide (T.n < 0) = false := by simpa using hr1
              have c4 : decide (255 < T.n) = true := by simp; omega
              clear hr hr1 hk2
              go_wp2_with fail
              refine (r16_Wrong 3 (⟨#[99, 104, 97, 114, 97, 99, 116, 101, 114, 95, 99, 111, 100, 101]⟩ : ByteArray) T _ AnyB _ (by omega) HIT.out).mono ?_
              rintro e9 w9 ⟨v9, rfl, hd9, hb9⟩
              have h9 := HWT.out.trans (hb9.mono HWT.out.size)
              have HR9 := Lib.hid (row_on HRL.out.res h9)
              have HB9 := Lib.hid (HRL.out.bel.trans (h9.mono HRL.out.bel.size))
              have HOK := Lib.hid (form_ok16 3 (⟨#[99, 104, 97, 114, 97, 99, 116, 101, 114, 95, 99, 111, 100, 101]⟩ : ByteArray) T (HTO.out))
              have HI9 := Lib.hid (IsDd.avoidW (g := w.heap.size + 1) (zrow_did HR9.out) HOK.out hd9)
              obtain ⟨q9, k9, rfl⟩ := hd9.wr_cells
              have HXT := Lib.hid (show textT true L = (some (formalE 3 (⟨#[99, 104, 97, 114, 97, 99, 116, 101, 114, 95, 99, 111, 100, 101]⟩ : ByteArray) T), []) by unfold textT; rw [← HUS.out.1, HFB.out])
              clear hd9 hb9 h9
              generalize hF : formalE 3 (⟨#[99, 104, 97, 114, 97, 99, 116, 101, 114, 95, 99, 111, 100, 101]⟩ : ByteArray) T = F at *
              clear hF
              go_wp2_with (with_reducible show wpList _ _ _ (⟨none, .store _ (.tmp 5) _, _, _, _, _⟩ :: _) _ _
                           go_must (refine wpList_store_row rfl 35 (.tmp 5) (.tmp 76) rfl (w.heap.size + 1) #[.bool false, .slice none 0 0, .slice none 0 0, .int .i64 F.k, .int .i64 F.n, .string F.s, .slice q9 F.args.length k9] rfl rfl _ _ HR9.out size_did rfl (by simp [Value.oneCell']) ?_))
              have hz := setRow_heap w9 (w.heap.size + 1) _ (#[.bool false, .slice none 0 0, .slice none 0 0, .int .i64 F.k, .int .i64 F.n, .string F.s, .slice q9 F.args.length k9] : Array Value) _ _ HR9.out
              rw [HXT.out]
              exact bodyPost_ret (v := .tuple #[.string ⟨#[]⟩, .agg #[.bool false, .slice none 0 0, .slice none 0 0, .int .i64 F.k, .int .i64 F.n, .string F.s, .slice q9 F.args.length k9], .bool false]) (results_tct Tryd.results54 _ _ (w.heap.size + 1) _ _ _ _ _ _ rfl rfl rfl hz Tryd.underlying35 rfl (by kernel_rfl)) rfl ⟨below_row HB9.out (by omega), HOK.out, _, rfl, HI9.out.imp (fun _ _ => trivial) (by simp) (fun b hb _ => setRow_other w9 (w.heap.size + 1) b _ hb.2)⟩
          · rw [if_neg hr] at hnb
            have HNO := Lib.hid hnb
            obtain ⟨m, hm⟩ : ∃ m : Nat, T.n = (m : Int) := ⟨T.n.toNat, by omega⟩
            have hm2 : m ≤ 255 := by omega
            rw [hm] at x1
            have HBY := Lib.hid (show ((byteT true T).toNat : Int) = (m : Int) by
              unfold byteT
              rw [if_pos rfl, hm, Int.toNat_natCast]
              have : (UInt8.ofNat m).toNat = m := by simp; omega
              rw [this])
            have c3 : decide ((m : Int) < 0) = false := by simp
            have c4 : decide (255 < (m : Int)) = false := by simp; omega
            have c5 : decide (255 < m) = false := by simp; omega
            have HM := Lib.hid hm
            clear hr hk2 hm
            have HWX := Lib.hid (HWT.out.trans (((Below.refl WT.heap.size WT).alloc (Nat.le_refl _) (.cells #[.int .u8 (m : Int)] 5 (0, 0))).mono HWT.out.size))
            have HNB := Lib.hid (show (WT.alloc (.cells #[.int .u8 (m : Int)] 5 (0, 0))).heap[WT.heap.size]? = some (.cells ([byteT true T].map Byt.cellB).toArray 5 (0, 0)) by rw [show [byteT true T].map Byt.cellB = [.int .u8 (m : Int)] from by simp only [List.map_cons, List.map_nil, Byt.cellB]; rw [HBY.out]]; exact heap_alloc_new WT _)
            go_wp2_with (with_reducible show wpList _ _ _ (⟨some 28, _, _, _, _, _⟩ :: _) _ _
                         go_must (
                           refine Byt.wpList_appL rfl (.tmp 23) (.tmp 27) rfl (w5.heap.size + 1) (.slice q8 i k8) ((us.take i).map (byteT true)) [byteT true T] WT.heap.size 1 _ _ rfl (HOW.out.below HWX.out) rfl HNB.out (by simp; omega) (by have := HWX.out.size; omega) ?_
                           intro v' w9 ho9 hb9
                           have HRL9 := Lib.hid (HRL.out.next (by omega) hin HBA.out HTT.out HNO.out HWX.out ho9 hb9)
                           clear ho9 hb9))
            go_roundw
            case measure => simp [intOf]; omega
            case rel => exact HRL9.out
        · rw [if_neg hk2] at hnb
          have HFB := Lib.hid (find_bad hin HBA.out (b := formalE 13 (⟨#[105, 110, 116, 101, 103, 101, 114]⟩ : ByteArray) T) (by rw [← HTT.out]; exact hnb))
          have c2 : (T.k != 2) = true := by simpa using hk2
          clear hk2
          go_wp2_with fail
          refine (r16_Wrong 13 (⟨#[105, 110, 116, 101, 103, 101, 114]⟩ : ByteArray) T _ AnyB _ (by omega) HIT.out).mono ?_
          rintro e9 w9 ⟨v9, rfl, hd9, hb9⟩
          have h9 := HWT.out.trans (hb9.mono HWT.out.size)
          have HR9 := Lib.hid (row_on HRL.out.res h9)
          have HB9 := Lib.hid (HRL.out.bel.trans (h9.mono HRL.out.bel.size))
          have HOK := Lib.hid (form_ok16 13 (⟨#[105, 110, 116, 101, 103, 101, 114]⟩ : ByteArray) T (HTO.out))
          have HI9 := Lib.hid (IsDd.avoidW (g := w.heap.size + 1) (zrow_did HR9.out) HOK.out hd9)
          obtain ⟨q9, k9, rfl⟩ := hd9.wr_cells
          have HXT := Lib.hid (show textT true L = (some (formalE 13 (⟨#[105, 110, 116, 101, 103, 101, 114]⟩ : ByteArray) T), []) by unfold textT; rw [← HUS.out.1, HFB.out])
          clear hd9 hb9 h9
          generalize hF : formalE 13 (⟨#[105, 110, 116, 101, 103, 101, 114]⟩ : ByteArray) T = F at *
          clear hF
          go_wp2_with (with_reducible show wpList _ _ _ (⟨none, .store _ (.tmp 5) _, _, _, _, _⟩ :: _) _ _
                       go_must (refine wpList_store_row rfl 35 (.tmp 5) (.tmp 65) rfl (w.heap.size + 1) #[.bool false, .slice none 0 0, .slice none 0 0, .int .i64 F.k, .int .i64 F.n, .string F.s, .slice q9 F.args.length k9] rfl rfl _ _ HR9.out size_did rfl (by simp [Value.oneCell']) ?_))
          have hz := setRow_heap w9 (w.heap.size + 1) _ (#[.bool false, .slice none 0 0, .slice none 0 0, .int .i64 F.k, .int .i64 F.n, .string F.s, .slice q9 F.args.length k9] : Array Value) _ _ HR9.out
          rw [HXT.out]
          exact bodyPost_ret (v := .tuple #[.string ⟨#[]⟩, .agg #[.bool false, .slice none 0 0, .slice none 0 0, .int .i64 F.k, .int .i64 F.n, .string F.s, .slice q9 F.args.length k9], .bool false]) (results_tct Tryd.results54 _ _ (w.heap.size + 1) _ _ _ _ _ _ rfl rfl rfl hz Tryd.underlying35 rfl (by kernel_rfl)) rfl ⟨below_row HB9.out (by omega), HOK.out, _, rfl, HI9.out.imp (fun _ _ => trivial) (by simp) (fun b hb _ => setRow_other w9 (w.heap.size + 1) b _ hb.2)⟩
    · have b1 : decide ((i : Int) < (us.length : Int)) = false := by simp; omega
      have b2 : decide (i < us.length) = false := by simpa using hin
      obtain rfl : i = us.length := by omega
      have HFN := Lib.hid (find_none (fun j hj => hbad j hj hj))
      rw [List.take_length] at hown
      have HOW := Lib.hid hown
      obtain ⟨la, lc, lr, lt⟩ := hrel.lst
      obtain ⟨ua, uc, ur, ut⟩ := hrel.tl
      have HLT := Lib.hid (lt.imp (P' := AnyB) (fun _ _ => trivial) fun _ _ _ => rfl)
      have HUT := Lib.hid (ut.imp (P' := AnyB) (fun _ _ => trivial) fun _ _ _ => rfl)
      have hUs : U.size ≤ 1000000 := by omega
      obtain ⟨z0, z1, z2, z3⟩ := row4 lr
      obtain ⟨u0, u1, u2, u3⟩ := row4 ur
      have hlr := hrel.bel.size
      have hlo := hrel.lo
      have hlt5 := hrel.tlt
      clear hown hrel lt ut lr ur hbad
      by_cases hk1 : U.k = 1
      · have c1' : (U.k == 1) = true := by rw [hk1]; rfl
        have HK1 := Lib.hid hk1
        clear hk1
        go_wp2_with fail
        refine (r16_Wrong 12 ⟨#[]⟩ U _ AnyB _ (by omega) HUT.out).mono ?_
        rintro e9 w9 ⟨v9, rfl, hd9, hb9⟩
        have h9 := hb9
        have HR9 := Lib.hid (row_on HRL.out.res h9)
        have HB9 := Lib.hid (HRL.out.bel.trans (h9.mono HRL.out.bel.size))
        have HOK := Lib.hid (form_ok16 12 ⟨#[]⟩ U (HOU.out.2))
        have HI9 := Lib.hid (IsDd.avoidW (g := w.heap.size + 1) (zrow_did HR9.out) HOK.out hd9)
        obtain ⟨q9, k9, rfl⟩ := hd9.wr_cells
        have HXT := Lib.hid (show textT codes L = (some (formalE 12 ⟨#[]⟩ U), []) by unfold textT; rw [← HUS.out.1, HFN.out, ← HUS.out.2]; simp only []; rw [if_pos HK1.out, formal12 zeroT0 U])
        clear hd9 hb9 h9
        generalize hF : formalE 12 ⟨#[]⟩ U = F at *
        clear hF
        go_wp2_with (with_reducible show wpList _ _ _ (⟨none, .store _ (.tmp 5) _, _, _, _, _⟩ :: _) _ _
                     go_must (refine wpList_store_row rfl 35 (.tmp 5) (.tmp 82) rfl (w.heap.size + 1) #[.bool false, .slice none 0 0, .slice none 0 0, .int .i64 F.k, .int .i64 F.n, .string F.s, .slice q9 F.args.length k9] rfl rfl _ _ HR9.out size_did rfl (by simp [Value.oneCell']) ?_))
        have hz := setRow_heap w9 (w.heap.size + 1) _ (#[.bool false, .slice none 0 0, .slice none 0 0, .int .i64 F.k, .int .i64 F.n, .string F.s, .slice q9 F.args.length k9] : Array Value) _ _ HR9.out
        rw [HXT.out]
        exact bodyPost_ret (v := .tuple #[.string ⟨#[]⟩, .agg #[.bool false, .slice none 0 0, .slice none 0 0, .int .i64 F.k, .int .i64 F.n, .string F.s, .slice q9 F.args.length k9], .bool false]) (results_tct Tryd.results54 _ _ (w.heap.size + 1) _ _ _ _ _ _ rfl rfl rfl hz Tryd.underlying35 rfl (by kernel_rfl)) rfl ⟨below_row HB9.out (by omega), HOK.out, _, rfl, HI9.out.imp (fun _ _ => trivial) (by simp) (fun b hb _ => setRow_other w9 (w.heap.size + 1) b _ hb.2)⟩
      have c1' : (U.k == 1) = false := by simpa using hk1
      have HK1 := Lib.hid hk1
      clear hk1
      by_cases hk3 : U.k = 3
      · have c2 : (U.k != 3) = false := by rw [hk3]; rfl
        have HK3 := Lib.hid hk3
        clear hk3
        by_cases hs : U.s.toList = [91, 93]
        · have c3 : (U.s.toList == [91, 93]) = true := by rw [hs]; rfl
          have c4 : (U.s.toList != [91, 93]) = false := by rw [hs]; rfl
          have HS := Lib.hid hs
          clear hs
          have HXT := Lib.hid (show textT codes L = (none, us.map (byteT codes)) by unfold textT; rw [← HUS.out.1, HFN.out, ← HUS.out.2]; simp only []; rw [if_neg HK1.out, if_pos ⟨HK3.out, HS.out⟩])
          go_wp2_with (first
            | (with_reducible show wpList _ _ _ (⟨some 94, _, _, _, _, _⟩ :: _) _ _
               go_must (refine Byt.wpList_strB rfl (.tmp 93) rfl (w5.heap.size + 1) _ (us.map (byteT codes)) rfl HOW.out ?_))
            | (with_reducible show wpList _ _ _ (⟨none, .store _ (.tmp 5) _, _, _, _, _⟩ :: _) _ _
               go_must (refine wpList_store_row rfl 35 (.tmp 5) (.tmp 95) rfl (w.heap.size + 1) #[.bool false, .slice none 0 0, .slice none 0 0, .int .i64 0, .int .i64 0, .string ⟨#[]⟩, .slice none 0 0] rfl (by kernel_rfl) _ _ HRL.out.res size_did rfl (by simp [Value.oneCell']) ?_)))
          have hz := setRow_heap wr (w.heap.size + 1) _ (#[.bool false, .slice none 0 0, .slice none 0 0, .int .i64 0, .int .i64 0, .string ⟨#[]⟩, .slice none 0 0] : Array Value) _ _ HRL.out.res
          rw [HXT.out]
          exact bodyPost_ret (v := .tuple #[.string ⟨(us.map (byteT codes)).toArray⟩, .agg #[.bool false, .slice none 0 0, .slice none 0 0, .int .i64 0, .int .i64 0, .string ⟨#[]⟩, .slice none 0 0], .bool true]) (results_tct Tryd.results54 _ _ (w.heap.size + 1) _ _ _ _ _ _ rfl rfl rfl hz Tryd.underlying35 rfl (by kernel_rfl)) rfl ⟨below_row HRL.out.bel (by omega), rfl⟩
        · have c3 : (U.s.toList == [91, 93]) = false := by simpa using hs
          have c4 : (U.s.toList != [91, 93]) = true := by simpa using hs
          have HS := Lib.hid hs
          clear hs
          go_wp2_with fail
          refine (r16_Wrong 13 (⟨#[108, 105, 115, 116]⟩ : ByteArray) L _ AnyB _ (by omega) HLT.out).mono ?_
          rintro e9 w9 ⟨v9, rfl, hd9, hb9⟩
          have h9 := hb9
          have HR9 := Lib.hid (row_on HRL.out.res h9)
          have HB9 := Lib.hid (HRL.out.bel.trans (h9.mono HRL.out.bel.size))
          have HOK := Lib.hid (form_ok16 13 (⟨#[108, 105, 115, 116]⟩ : ByteArray) L (HLO.out))
          have HI9 := Lib.hid (IsDd.avoidW (g := w.heap.size + 1) (zrow_did HR9.out) HOK.out hd9)
          obtain ⟨q9, k9, rfl⟩ := hd9.wr_cells
          have HXT := Lib.hid (show textT codes L = (some (formalE 13 (⟨#[108, 105, 115, 116]⟩ : ByteArray) L), []) by unfold textT; rw [← HUS.out.1, HFN.out, ← HUS.out.2]; simp only []; rw [if_neg HK1.out, if_neg fun h => HS.out h.2])
          clear hd9 hb9 h9
          generalize hF : formalE 13 (⟨#[108, 105, 115, 116]⟩ : ByteArray) L = F at *
          clear hF
          go_wp2_with (with_reducible show wpList _ _ _ (⟨none, .store _ (.tmp 5) _, _, _, _, _⟩ :: _) _ _
                       go_must (refine wpList_store_row rfl 35 (.tmp 5) (.tmp 92) rfl (w.heap.size + 1) #[.bool false, .slice none 0 0, .slice none 0 0, .int .i64 F.k, .int .i64 F.n, .string F.s, .slice q9 F.args.length k9] rfl rfl _ _ HR9.out size_did rfl (by simp [Value.oneCell']) ?_))
          have hz := setRow_heap w9 (w.heap.size + 1) _ (#[.bool false, .slice none 0 0, .slice none 0 0, .int .i64 F.k, .int .i64 F.n, .string F.s, .slice q9 F.args.length k9] : Array Value) _ _ HR9.out
          rw [HXT.out]
          exact bodyPost_ret (v := .tuple #[.string ⟨#[]⟩, .agg #[.bool false, .slice none 0 0, .slice none 0 0, .int .i64 F.k, .int .i64 F.n, .string F.s, .slice q9 F.args.length k9], .bool false]) (results_tct Tryd.results54 _ _ (w.heap.size + 1) _ _ _ _ _ _ rfl rfl rfl hz Tryd.underlying35 rfl (by kernel_rfl)) rfl ⟨below_row HB9.out (by omega), HOK.out, _, rfl, HI9.out.imp (fun _ _ => trivial) (by simp) (fun b hb _ => setRow_other w9 (w.heap.size + 1) b _ hb.2)⟩
      · have c2 : (U.k != 3) = true := by simpa using hk3
        have HK3 := Lib.hid hk3
        clear hk3
        go_wp2_with fail
        refine (r16_Wrong 13 (⟨#[108, 105, 115, 116]⟩ : ByteArray) L _ AnyB _ (by omega) HLT.out).mono ?_
        rintro e9 w9 ⟨v9, rfl, hd9, hb9⟩
        have h9 := hb9
        have HR9 := Lib.hid (row_on HRL.out.res h9)
        have HB9 := Lib.hid (HRL.out.bel.trans (h9.mono HRL.out.bel.size))
        have HOK := Lib.hid (form_ok16 13 (⟨#[108, 105, 115, 116]⟩ : ByteArray) L (HLO.out))
        have HI9 := Lib.hid (IsDd.avoidW (g := w.heap.size + 1) (zrow_did HR9.out) HOK.out hd9)
        obtain ⟨q9, k9, rfl⟩ := hd9.wr_cells
        have HXT := Lib.hid (show textT codes L = (some (formalE 13 (⟨#[108, 105, 115, 116]⟩ : ByteArray) L), []) by unfold textT; rw [← HUS.out.1, HFN.out, ← HUS.out.2]; simp only []; rw [if_neg HK1.out, if_neg fun h => HK3.out h.1])
        clear hd9 hb9 h9
        generalize hF : formalE 13 (⟨#[108, 105, 115, 116]⟩ : ByteArray) L = F at *
        clear hF
        go_wp2_with (with_reducible show wpList _ _ _ (⟨none, .store _ (.tmp 5) _, _, _, _, _⟩ :: _) _ _
                     go_must (refine wpList_store_row rfl 35 (.tmp 5) (.tmp 92) rfl (w.heap.size + 1) #[.bool false, .slice none 0 0, .slice none 0 0, .int .i64 F.k, .int .i64 F.n, .string F.s, .slice q9 F.args.length k9] rfl rfl _ _ HR9.out size_did rfl (by simp [Value.oneCell']) ?_))
        have hz := setRow_heap w9 (w.heap.size + 1) _ (#[.bool false, .slice none 0 0, .slice none 0 0, .int .i64 F.k, .int .i64 F.n, .string F.s, .slice q9 F.args.length k9] : Array Value) _ _ HR9.out
        rw [HXT.out]
        exact bodyPost_ret (v := .tuple #[.string ⟨#[]⟩, .agg #[.bool false, .slice none 0 0, .slice none 0 0, .int .i64 F.k, .int .i64 F.n, .string F.s, .slice q9 F.args.length k9], .bool false]) (results_tct Tryd.results54 _ _ (w.heap.size + 1) _ _ _ _ _ _ rfl rfl rfl hz Tryd.underlying35 rfl (by kernel_rfl)) rfl ⟨below_row HB9.out (by omega), HOK.out, _, rfl, HI9.out.imp (fun _ _ => trivial) (by simp) (fun b hb _ => setRow_other w9 (w.heap.size + 1) b _ hb.2)⟩
end Go.Proofs.YtkhchmgdaolojaaDoor.Tms
namespace Go.Proofs.YtkhchmgdaolojaaDoor.Tms
open Go Go.RowKit Go.Proofs.YtkhchmgdaolojaaDoor.Reg Go.Proofs.YtkhchmgdaolojaaDoor.Rws Go.Proofs.YtkhchmgdaolojaaDoor.Maps Go.Instr
set_option linter.unusedVariables false
set_option linter.unusedSimpArgs false

/-- what number answers: whether it is one, and if so which -/
def NrPost (r : Int × Bool) (w : World) (e : Ending) (w' : World) : Prop := ∃ m, e = .returned (.tuple #[.int .i64 m, .bool r.2]) ∧ (r.2 = true → m = r.1) ∧ Below w.heap.size w w'
theorem sort_digit (c : UInt8) : Nam.sort c = 4 ↔ Num.dig c < 10 := by
  have := c.toNat_lt
  have hall : ∀ n : Fin 256, Nam.sortN n.val = 4 ↔ Num.digN n.val < 10 := by decide +kernel
  exact hall ⟨c.toNat, this⟩
theorem bad_digit {l : List UInt8} {i : Nat} (h : i < l.length) (hs : Nam.sort l[i] ≠ 4) : Num.badB 10 l = true := by
  unfold Num.badB
  rw [List.any_eq_true]
  refine ⟨l[i], List.getElem_mem h, ?_⟩
  have := mt (sort_digit l[i]).2 hs
  simp; omega
def NbRel (r : ByteArray) (w : World) (v : Value) (wr : World) : Prop := ∃ i : Nat, i ≤ r.size ∧ v = .int .i64 i ∧ (∀ j (h : j < r.size), j < i → Nam.sort r[j] = 4) ∧ Below w.heap.size w wr
theorem parse_neg {l : List UInt8} (h : (Num.parseT l 10).1 < 0) : (Num.parseT l 10).1 = -9223372036854775808 := by
  unfold Num.parseT at *
  split at h
  · simp at h
  · split at h
    · simp at h
    · split at h
      · simp at h
      · rename_i h1 h2 h3
        rw [if_neg h1, if_neg h2, if_neg h3]
        have h4 : Num.val (10 : Int).toNat l ≤ 9223372036854775808 := by omega
        generalize Num.val (10 : Int).toNat l = u at *
        by_cases hu : u = 9223372036854775808
        · subst hu; rw [Num.wrap_eq]; decide
        · have hw : wrap64 (u : Int) = u := Num.wrap_in (by unfold Num.Fit; omega)
          simp only [hw] at h
          omega
set_option maxRecDepth 100000 in
set_option maxHeartbeats 4000000 in
theorem r16_numB (s : ByteArray) (minus : Bool) (hs : s.size ≤ 1000000) (w : World) (hm : isMinus s.data.toList = minus) :
    Calls Tryd.prog 57 #[.string s] w (NrPost (numberT s.data.toList) w) := by
  unfold numberT
  rw [hm]
  have hpf := parse_fit (if minus then s.data.toList.drop 1 else s.data.toList) 10
  obtain ⟨r, hr⟩ : ∃ r, r = Num.parseT (if minus then s.data.toList.drop 1 else s.data.toList) 10 := ⟨_, rfl⟩
  rw [← hr] at hpf ⊢
  obtain ⟨x, y⟩ := r
  unfold Num.Fit at hpf
  obtain ⟨hx1, hx2⟩ := hpf
  simp only at hx1 hx2
  have HM := Lib.hid hm
  clear hm
  obtain ⟨n, hn⟩ : ∃ n, n = numB minus (x, y) := ⟨_, rfl⟩
  rw [← hn]
  have HNQ := Lib.hid hn
  clear hn
  have hy : (y = 0 ∧ (y != 0) = false) ∨ (y ≠ 0 ∧ (y != 0) = true) := by by_cases h : y = 0 <;> simp [h]
  have hx : (x < 0 ∧ decide (x < 0) = true) ∨ (¬ x < 0 ∧ decide (x < 0) = false) := by by_cases h : x < 0 <;> simp [h]
  cases minus
  · rw [if_neg (by decide)] at hr
    have HR := Lib.hid hr
    clear hr
    have hs0 : (s.size = 0 ∧ decide (0 < (s.size : Int)) = false ∧ decide (0 < s.size) = false) ∨ (∃ h : 0 < s.size, decide (0 < (s.size : Int)) = true ∧ decide (0 < s.size) = true ∧ (((s[0]'h).toNat : Int) == 45) = false) := by
      by_cases h : s.size = 0
      · exact .inl ⟨h, by rw [h]; rfl, by rw [h]; rfl⟩
      · refine .inr ⟨by omega, by simp; omega, by simp; omega, ?_⟩
        have hm := HM.out
        unfold isMinus at hm
        have : s.data.toList.head? = some (s[0]'(by omega)) := by
          obtain ⟨d⟩ := s
          obtain ⟨l⟩ := d
          cases l with
          | nil => exact absurd rfl h
          | cons c l => rfl
        rw [this] at hm
        simp at hm ⊢
        intro e
        apply hm
        exact UInt8.toNat_inj.1 (by show _ = 45; omega)
    rcases hs0 with ⟨-, c0, c1⟩ | ⟨h0, c0, c1, c2⟩
    all_goals
      go_enter Tryd.func57, Tryd.ntmps57
      go_wp2
      go_loopw [5] (fun v5 wr => NbRel s w v5 wr) (fun v5 _ => s.size - (intOf v5).toNat)
      case atStart => exact ⟨0, by omega, rfl, fun j _ h => by omega, Below.refl _ _⟩
      case round =>
        obtain ⟨i, hi, rfl, hall, hbw⟩ := hrel
        have HB := Lib.hid hbw
        have HA := Lib.hid hall
        clear hbw hall
        by_cases hin : i < s.size
        · have b1 : decide ((i : Int) < (s.size : Int)) = true := by simp; omega
          have b2 : decide (i < s.size) = true := by simpa using hin
          go_wp2_with fail
          refine (Nam.ref_Sort s[i] _).mono ?_
          rintro e2 w2 ⟨rfl, rfl⟩
          by_cases h4 : Nam.sort s[i] = 4
          · have H4 := Lib.hid h4
            have c1 : ((Nam.sort s[i] : Int) != 4) = false := by rw [h4]; rfl
            have c2 : (Nam.sort s[i] != 4) = false := by rw [h4]; rfl
            have c3 : (Nam.sort s[i] == 4) = true := by rw [h4]; rfl
            clear h4
            go_wp2
            go_roundw
            case measure => simp [intOf]; omega
            case rel => exact ⟨i + 1, by omega, rfl, fun j hj hji => by
              rcases Nat.lt_or_ge j i with h1 | h1
              · exact HA.out j hj h1
              · obtain rfl : j = i := by omega
                exact H4.out, HB.out⟩
          · have c1 : ((Nam.sort s[i] : Int) != 4) = true := by simp; omega
            have c2 : (Nam.sort s[i] != 4) = true := by simpa using h4
            have c3 : (Nam.sort s[i] == 4) = false := by simpa using h4
            have hbad : Num.badB 10 s.data.toList = true := bad_digit (i := i) (by simpa using hin) h4
            have hpt := Num.parse_form (l := s.data.toList) (b := 10) (by decide) (.inr hbad)
            have HN := Lib.hid (show n.2 = false by rw [HNQ.out]; have := HR.out; rw [hpt] at this; rw [show (x, y) = (0, 6) from this]; rfl)
            clear hbad hpt h4
            go_wp2
            go_ret2
            unfold NrPost
            rw [HN.out]
            exact ⟨_, rfl, fun h => (by cases h), HB.out⟩
        · have b1 : decide ((i : Int) < (s.size : Int)) = false := by simp; omega
          have b2 : decide (i < s.size) = false := by simpa using hin
          clear HA
          have HPP := Lib.hid (Num.ref_Parse s (by unfold maxLen; omega) 10 (by decide) wr)
          rw [← HR.out] at HPP
          clear hin
          rcases hy with ⟨hy0, c3⟩ | ⟨hy0, c3⟩
          · rcases hx with ⟨hx0, c4⟩ | ⟨hx0, c4⟩
            · have HN := Lib.hid (show n = (x, false) by rw [HNQ.out]; unfold numB; simp [hy0, hx0])
              clear hy0 hx0
              go_wp2_with (go_at_call 69; refine HPP.out.mono ?_; rintro e1 w1 ⟨rfl, hb1⟩; have HB1 := Lib.hid (HB.out.trans (hb1.mono HB.out.size)); clear hb1)
              go_ret2
              rw [HN.out]
              exact ⟨_, rfl, fun h => (by cases h), HB1.out⟩
            · have HN := Lib.hid (show n = (x, true) by rw [HNQ.out]; unfold numB; simp [hy0, hx0])
              clear hy0 hx0
              go_wp2_with (go_at_call 69; refine HPP.out.mono ?_; rintro e1 w1 ⟨rfl, hb1⟩; have HB1 := Lib.hid (HB.out.trans (hb1.mono HB.out.size)); clear hb1)
              go_ret2
              rw [HN.out]
              exact ⟨_, rfl, fun _ => rfl, HB1.out⟩
          · have HN := Lib.hid (show n = (0, false) by rw [HNQ.out]; unfold numB; simp [hy0])
            clear hy0 hx
            go_wp2_with (go_at_call 69; refine HPP.out.mono ?_; rintro e1 w1 ⟨rfl, hb1⟩; have HB1 := Lib.hid (HB.out.trans (hb1.mono HB.out.size)); clear hb1)
            go_ret2
            rw [HN.out]
            exact ⟨_, rfl, fun h => (by cases h), HB1.out⟩
  · rw [if_pos rfl] at hr
    have HR := Lib.hid hr
    clear hr
    have h0 : 0 < s.size := by
      have hm := HM.out
      unfold isMinus at hm
      by_cases h : s.size = 0
      · obtain ⟨d⟩ := s
        obtain ⟨l⟩ := d
        cases l with
        | nil => cases hm
        | cons c l => cases h
      · omega
    have c2 : (((s[0]'h0).toNat : Int) == 45) = true := by
      have hm := HM.out
      unfold isMinus at hm
      have : s.data.toList.head? = some (s[0]'h0) := by
        obtain ⟨d⟩ := s
        obtain ⟨l⟩ := d
        cases l with
        | nil => cases h0
        | cons c l => rfl
      rw [this] at hm
      simp at hm ⊢
      rw [hm]
      rfl
    have c0 : decide (0 < (s.size : Int)) = true := by simp; omega
    have c1 : decide (0 < s.size) = true := by simp; omega
    have hsl : ∀ W : World, (Instr.slice 9 (.string s) (some (.int .i64 1)) none none).run Tryd.prog W = .ok (.string (s.extract 1 s.size)) W := fun W => by
      rw [run_slice_string_l (P := Tryd.prog) W 9 s Tryd.underlying9 .i64 1 (by decide) (by omega)]
      rfl
    go_enter Tryd.func57, Tryd.ntmps57
    go_wp2
    have hrs : (s.extract 1 s.size).size ≤ 1000000 := by rw [ByteArray.size_extract]; omega
    have hrl : (s.extract 1 s.size).data.toList = s.data.toList.drop 1 := drop_one s
    generalize s.extract 1 s.size = q at *
    rw [← hrl] at HR
    clear hrl
    go_loopw [5] (fun v5 wr => NbRel q w v5 wr) (fun v5 _ => q.size - (intOf v5).toNat)
    case atStart => exact ⟨0, by omega, rfl, fun j _ h => by omega, Below.refl _ _⟩
    case round =>
      obtain ⟨i, hi, rfl, hall, hbw⟩ := hrel
      have HB := Lib.hid hbw
      have HA := Lib.hid hall
      clear hbw hall
      by_cases hin : i < q.size
      · have b1 : decide ((i : Int) < (q.size : Int)) = true := by simp; omega
        have b2 : decide (i < q.size) = true := by simpa using hin
        go_wp2_with fail
        refine (Nam.ref_Sort q[i] _).mono ?_
        rintro e2 w2 ⟨rfl, rfl⟩
        by_cases h4 : Nam.sort q[i] = 4
        · have H4 := Lib.hid h4
          have c1 : ((Nam.sort q[i] : Int) != 4) = false := by rw [h4]; rfl
          have c2 : (Nam.sort q[i] != 4) = false := by rw [h4]; rfl
          have c3 : (Nam.sort q[i] == 4) = true := by rw [h4]; rfl
          clear h4
          go_wp2
          go_roundw
          case measure => simp [intOf]; omega
          case rel => exact ⟨i + 1, by omega, rfl, fun j hj hji => by
            rcases Nat.lt_or_ge j i with h1 | h1
            · exact HA.out j hj h1
            · obtain rfl : j = i := by omega
              exact H4.out, HB.out⟩
        · have c1 : ((Nam.sort q[i] : Int) != 4) = true := by simp; omega
          have c2 : (Nam.sort q[i] != 4) = true := by simpa using h4
          have c3 : (Nam.sort q[i] == 4) = false := by simpa using h4
          have hbad : Num.badB 10 q.data.toList = true := bad_digit (i := i) (by simpa using hin) h4
          have hpt := Num.parse_form (l := q.data.toList) (b := 10) (by decide) (.inr hbad)
          have HN := Lib.hid (show n.2 = false by rw [HNQ.out]; have := HR.out; rw [hpt] at this; rw [show (x, y) = (0, 6) from this]; rfl)
          clear hbad hpt h4
          go_wp2
          go_ret2
          unfold NrPost
          rw [HN.out]
          exact ⟨_, rfl, fun h => (by cases h), HB.out⟩
      · have b1 : decide ((i : Int) < (q.size : Int)) = false := by simp; omega
        have b2 : decide (i < q.size) = false := by simpa using hin
        clear HA
        have HPP := Lib.hid (Num.ref_Parse q (by unfold maxLen; omega) 10 (by decide) wr)
        rw [← HR.out] at HPP
        clear hin
        rcases hy with ⟨hy0, c3⟩ | ⟨hy0, c3⟩
        · rcases hx with ⟨hx0, c4⟩ | ⟨hx0, c4⟩
          · have HN := Lib.hid (show n = (x, true) by rw [HNQ.out]; unfold numB; simp [hy0, hx0])
            have hx8 : x = -9223372036854775808 := by have h := HR.out; have h1 : x = (Num.parseT q.data.toList 10).1 := (by rw [← h]); rw [h1]; exact parse_neg (by rw [← h1]; exact hx0)
            have HX8 := Lib.hid hx8
            clear hy0 hx0 hx8
            go_wp2_with (go_at_call 69; refine HPP.out.mono ?_; rintro e1 w1 ⟨rfl, hb1⟩; have HB1 := Lib.hid (HB.out.trans (hb1.mono HB.out.size)); clear hb1)
            go_ret2
            rw [HN.out]
            refine ⟨_, rfl, fun _ => ?_, HB1.out⟩
            show wrap64 (-x) = x
            rw [HX8.out, Num.wrap_eq]; decide
          · have HN := Lib.hid (show n = (-x, true) by rw [HNQ.out]; unfold numB; rw [if_neg (by simp [hy0]), if_neg (by show ¬ x < 0; omega), if_pos rfl])
            have HX3 := Lib.hid (show Num.Fit (-x) by unfold Num.Fit; omega)
            clear hy0 hx0
            go_wp2_with (go_at_call 69; refine HPP.out.mono ?_; rintro e1 w1 ⟨rfl, hb1⟩; have HB1 := Lib.hid (HB.out.trans (hb1.mono HB.out.size)); clear hb1)
            go_ret2
            rw [HN.out]
            refine ⟨_, rfl, fun _ => ?_, HB1.out⟩
            show wrap64 (-x) = -x
            exact Num.wrap_in HX3.out
        · have HN := Lib.hid (show n = (0, false) by rw [HNQ.out]; unfold numB; simp [hy0])
          clear hy0 hx
          go_wp2_with (go_at_call 69; refine HPP.out.mono ?_; rintro e1 w1 ⟨rfl, hb1⟩; have HB1 := Lib.hid (HB.out.trans (hb1.mono HB.out.size)); clear hb1)
          go_ret2
          rw [HN.out]
          exact ⟨_, rfl, fun h => (by cases h), HB1.out⟩
theorem r16_number (s : ByteArray) (hs : s.size ≤ 1000000) (w : World) : Calls Tryd.prog 57 #[.string s] w (NrPost (numberT s.data.toList) w) := r16_numB s _ hs w rfl
end Go.Proofs.YtkhchmgdaolojaaDoor.Tms
