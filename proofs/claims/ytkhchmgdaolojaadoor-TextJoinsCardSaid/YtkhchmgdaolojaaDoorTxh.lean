
/-
  Layer 16: chars, codes, code of a call, walked.
-/
import Derived.Test.YtkhchmgdaolojaaDoorTxg
import Derived.Test.YtkhchmgdaolojaaDoorByt
namespace Go.Proofs.YtkhchmgdaolojaaDoor.Tms
open Go Go.RowKit Go.Proofs.YtkhchmgdaolojaaDoor.Reg Go.Proofs.YtkhchmgdaolojaaDoor.Rws Go.Proofs.YtkhchmgdaolojaaDoor.Maps Go.Instr
set_option linter.unusedVariables false
set_option linter.unusedSimpArgs false
set_option maxRecDepth 100000 in
set_option maxHeartbeats 4000000 in
theorem tx_chars (x y : Tm) (P : Nat → Prop) (w : World) (a : Option Addr) (c : Nat) (h : IsSl w P (.slice a 2 c) [x, y]) (hM : x.size ≤ 1000000) (hM' : y.size ≤ 1000000) (hf : Num.Fit x.n) (hf' : Num.Fit y.n) (hs1 : x.s.size ≤ 100000) (hs2 : y.s.size ≤ 100000) (ht : Num.Tab w) : Calls Tryd.prog 25 #[.agg #[.slice a 2 c]] w (TellsM (spellD false x y) P w) := by
  have HTB := Lib.hid ht
  have HF := Lib.hid (And.intro hf hf')
  clear ht hf hf'
  obtain ⟨w1, w2, w3, w4⟩ := two w (.cells #[.slice a 2 c] 59 (0, 0)) (.cells #[.bool false, .slice none 0 0, .slice none 0 0, .int .i64 0, .int .i64 0, .string ⟨#[]⟩, .slice none 0 0] 35 (0, 0))
  have HR := Lib.hid w2
  have HB := Lib.hid w4
  have H := Lib.hid (h.lt2.below w4)
  have x0 := cell_of_row _ _ 0 _ _ _ w1
  have hs : w.heap.size + 2 ≤ ((w.alloc (.cells #[.slice a 2 c] 59 (0, 0))).alloc (.cells #[.bool false, .slice none 0 0, .slice none 0 0, .int .i64 0, .int .i64 0, .string ⟨#[]⟩, .slice none 0 0] 35 (0, 0))).heap.size := by simp
  clear h w1 w2 w3 w4
  go_enter Tryd.func25, Tryd.ntmps25
  go_wp2_with fail
  generalize ((w.alloc (.cells #[.slice a 2 c] 59 (0, 0))).alloc (.cells #[.bool false, .slice none 0 0, .slice none 0 0, .int .i64 0, .int .i64 0, .string ⟨#[]⟩, .slice none 0 0] 35 (0, 0))) = wc at *
  refine (tx_spell false x y _ wc a c H.out hM hM' HF.out.1 HF.out.2 hs1 hs2 (HTB.out.on HB.out)).mono ?_
  rintro e9 w9 ⟨v9, rfl, hd9, hb9⟩
  obtain ⟨cb, u1, u2, u3, n1, k1, n2, k2, n3, k3, cx, cy, cs, rfl⟩ := hd9.cells
  have HD9 := Lib.hid (hd9.imp (P' := fun b => P b ∧ b < w.heap.size ∨ w.heap.size + 2 ≤ b) (fun b hb => by rcases hb with hb | hb; (· exact Or.inl hb.1); (· exact Or.inr (by omega))) (Nat.le_refl _) (fun _ _ _ => rfl))
  have HR9 := Lib.hid (row_on HR.out hb9)
  have HB9 := Lib.hid (HB.out.trans (hb9.mono HB.out.size))
  clear hd9 hb9
  go_wp2_with (with_reducible show wpList _ _ _ (⟨none, .store _ (.tmp 2) _, _, _, _, _⟩ :: _) _ _
               go_must (refine wpList_store_row rfl 35 (.tmp 2) (.tmp 4) rfl (w.heap.size + 1) #[.bool cb, .slice u1 n1 k1, .slice u2 n2 k2, .int .i64 cx, .int .i64 cy, .string cs, .slice u3 n3 k3] rfl rfl _ _ HR9.out size_did rfl (by simp [Value.oneCell']) ?_))
  have hz := setRow_heap w9 (w.heap.size + 1) _ (#[.bool cb, .slice u1 n1 k1, .slice u2 n2 k2, .int .i64 cx, .int .i64 cy, .string cs, .slice u3 n3 k3] : Array Value) _ _ HR9.out
  exact bodyPost_ret (v := .agg #[.bool cb, .slice u1 n1 k1, .slice u2 n2 k2, .int .i64 cx, .int .i64 cy, .string cs, .slice u3 n3 k3]) (results_cell_row Tryd.results25 _ _ (w.heap.size + 1) _ _ _ _ rfl hz Tryd.underlying35 rfl (by kernel_rfl)) rfl ⟨_, rfl, HD9.out.imp (fun _ h => h) (by simp) (fun b hb _ => setRow_other w9 (w.heap.size + 1) b _ (by rcases hb with h | h; (· have := h.2; omega); (· omega))), below_row HB9.out (by omega)⟩
set_option maxRecDepth 100000 in
set_option maxHeartbeats 4000000 in
theorem tx_codes (x y : Tm) (P : Nat → Prop) (w : World) (a : Option Addr) (c : Nat) (h : IsSl w P (.slice a 2 c) [x, y]) (hM : x.size ≤ 1000000) (hM' : y.size ≤ 1000000) (hf : Num.Fit x.n) (hf' : Num.Fit y.n) (hs1 : x.s.size ≤ 100000) (hs2 : y.s.size ≤ 100000) (ht : Num.Tab w) : Calls Tryd.prog 26 #[.agg #[.slice a 2 c]] w (TellsM (spellD true x y) P w) := by
  have HTB := Lib.hid ht
  have HF := Lib.hid (And.intro hf hf')
  clear ht hf hf'
  obtain ⟨w1, w2, w3, w4⟩ := two w (.cells #[.slice a 2 c] 59 (0, 0)) (.cells #[.bool false, .slice none 0 0, .slice none 0 0, .int .i64 0, .int .i64 0, .string ⟨#[]⟩, .slice none 0 0] 35 (0, 0))
  have HR := Lib.hid w2
  have HB := Lib.hid w4
  have H := Lib.hid (h.lt2.below w4)
  have x0 := cell_of_row _ _ 0 _ _ _ w1
  have hs : w.heap.size + 2 ≤ ((w.alloc (.cells #[.slice a 2 c] 59 (0, 0))).alloc (.cells #[.bool false, .slice none 0 0, .slice none 0 0, .int .i64 0, .int .i64 0, .string ⟨#[]⟩, .slice none 0 0] 35 (0, 0))).heap.size := by simp
  clear h w1 w2 w3 w4
  go_enter Tryd.func26, Tryd.ntmps26
  go_wp2_with fail
  generalize ((w.alloc (.cells #[.slice a 2 c] 59 (0, 0))).alloc (.cells #[.bool false, .slice none 0 0, .slice none 0 0, .int .i64 0, .int .i64 0, .string ⟨#[]⟩, .slice none 0 0] 35 (0, 0))) = wc at *
  refine (tx_spell true x y _ wc a c H.out hM hM' HF.out.1 HF.out.2 hs1 hs2 (HTB.out.on HB.out)).mono ?_
  rintro e9 w9 ⟨v9, rfl, hd9, hb9⟩
  obtain ⟨cb, u1, u2, u3, n1, k1, n2, k2, n3, k3, cx, cy, cs, rfl⟩ := hd9.cells
  have HD9 := Lib.hid (hd9.imp (P' := fun b => P b ∧ b < w.heap.size ∨ w.heap.size + 2 ≤ b) (fun b hb => by rcases hb with hb | hb; (· exact Or.inl hb.1); (· exact Or.inr (by omega))) (Nat.le_refl _) (fun _ _ _ => rfl))
  have HR9 := Lib.hid (row_on HR.out hb9)
  have HB9 := Lib.hid (HB.out.trans (hb9.mono HB.out.size))
  clear hd9 hb9
  go_wp2_with (with_reducible show wpList _ _ _ (⟨none, .store _ (.tmp 2) _, _, _, _, _⟩ :: _) _ _
               go_must (refine wpList_store_row rfl 35 (.tmp 2) (.tmp 4) rfl (w.heap.size + 1) #[.bool cb, .slice u1 n1 k1, .slice u2 n2 k2, .int .i64 cx, .int .i64 cy, .string cs, .slice u3 n3 k3] rfl rfl _ _ HR9.out size_did rfl (by simp [Value.oneCell']) ?_))
  have hz := setRow_heap w9 (w.heap.size + 1) _ (#[.bool cb, .slice u1 n1 k1, .slice u2 n2 k2, .int .i64 cx, .int .i64 cy, .string cs, .slice u3 n3 k3] : Array Value) _ _ HR9.out
  exact bodyPost_ret (v := .agg #[.bool cb, .slice u1 n1 k1, .slice u2 n2 k2, .int .i64 cx, .int .i64 cy, .string cs, .slice u3 n3 k3]) (results_cell_row Tryd.results26 _ _ (w.heap.size + 1) _ _ _ _ rfl hz Tryd.underlying35 rfl (by kernel_rfl)) rfl ⟨_, rfl, HD9.out.imp (fun _ h => h) (by simp) (fun b hb _ => setRow_other w9 (w.heap.size + 1) b _ (by rcases hb with h | h; (· have := h.2; omega); (· omega))), below_row HB9.out (by omega)⟩
end Go.Proofs.YtkhchmgdaolojaaDoor.Tms
