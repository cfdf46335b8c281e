
/-
  Layer 16: chars, codes, code of a call, walked.
  Layer 16: chars, codes, code of a call, walked.
  Layer 16: chars, codes, code of a call, walked.
  Layer 16: chars, codes, code of a call, walked.
-/
import Derived.Test.YtkhchmgdaolojaaDoorTxg
import Derived.Test.YtkhchmgdaolojaaDoorByt
namespace Go.Proofs.YtkhchmgdaolojaaDoor.Tms
open Go Go.RowKit Go.Proofs.YtkhchmgdaolojaaDoor.Reg Go.Proofs.YtkhchmgdaolojaaDoor.Rws Go.Proofs.YtkhchmgdaolojaaDoor.Maps Go.Instr
set_option linter.unusedVariables false
set_option linter.unusedSimpArgs false
set_option maxRecDepth 100000 in
set_option maxHeartbeats 4000000 in
theorem tx_chars (x y : Tm) (P : Nat → Prop) (w : World) (a : Option Addr) (c : Nat) (h : IsSl w P (.slice a 2 c) [x, y]) (hM : x.size ≤ 1000000) (hM' : y.size ≤ 1000000) (hf : Num.Fit x.n) (hf' : Num.Fit y.n) (hs1 : x.s.size ≤ 100000) (hs2 : y.s.size ≤ 100000) (ht : Num.Tab w) : Calls Tryd.prog 25 #[.agg #[.slice a 2 c]] w (TellsM (spellD false x y) P w) := by
  have HTB := Lib.hid ht
  have HF := Lib.hid (And.intro hf hf')
  clear ht hf hf'
  obtain ⟨w1, w2, w3, w4⟩ := two w (.cells #[.slice a 2 c] 59 (0, 0)) (.cells #[.bool false, .slice none 0 0, .slice none 0 0, .int .i64 0, .int .i64 0, .string ⟨#[]⟩, .slice none 0 0] 35 (0, 0))
  have HR := Lib.hid w2
  have HB := Lib.hid w4
  have H := Lib.hid (h.lt2.below w4)
  have x0 := cell_of_row _ _ 0 _ _ _ w1
  have hs : w.heap.size + 2 ≤ ((w.alloc (.cells #[.slice a 2 c] 59 (0, 0))).alloc (.cells #[.bool false, .slice none 0 0, .slice none 0 0, .int .i64 0, .int .i64 0, .string ⟨#[]⟩, .slice none 0 0] 35 (0, 0))).heap.size := by simp
  clear h w1 w2 w3 w4
  go_enter Tryd.func25, Tryd.ntmps25
  go_wp2_with fail
  generalize ((w.alloc (.cells #[.slice a 2 c] 59 (0, 0))).alloc (.cells #[.bool false, .slice none 0 0, .slice none 0 0, .int .i64 0, .int .i64 0, .string ⟨#[]⟩, .slice none 0 0] 35 (0, 0))) = wc at *
  refine (tx_spell false x y _ wc a c H.out hM hM' HF.out.1 HF.out.2 hs1 hs2 (HTB.out.on HB.out)).mono ?_
  rintro e9 w9 ⟨v9, rfl, hd9, hb9⟩
  obtain ⟨cb, u1, u2, u3, n1, k1, n2, k2, n3, k3, cx, cy, cs, rfl⟩ := hd9.cells
  have HD9 := Lib.hid (hd9.imp (P' := fun b => P b ∧ b < w.heap.size ∨ w.heap.size + 2 ≤ b) (fun b hb => by rcases hb with hb | hb; (· exact Or.inl hb.1); (· exact Or.inr (by omega))) (Nat.le_refl _) (fun _ _ _ => rfl))
  have HR9 := Lib.hid (row_on HR.out hb9)
  have HB9 := Lib.hid (HB.out.trans (hb9.mono HB.out.size))
  clear hd9 hb9
  go_wp2_with (with_reducible show wpList _ _ _ (⟨none, .store _ (.tmp 2) _, _, _, _, _⟩ :: _) _ _
               go_must (refine wpList_store_row rfl 35 (.tmp 2) (.tmp 4) rfl (w.heap.size + 1) #[.bool cb, .slice u1 n1 k1, .slice u2 n2 k2, .int .i64 cx, .int .i64 cy, .string cs, .slice u3 n3 k3] rfl rfl _ _ HR9.out size_did rfl (by simp [Value.oneCell']) ?_))
  have hz := setRow_heap w9 (w.heap.size + 1) _ (#[.bool cb, .slice u1 n1 k1, .slice u2 n2 k2, .int .i64 cx, .int .i64 cy, .string cs, .slice u3 n3 k3] : Array Value) _ _ HR9.out
  exact bodyPost_ret (v := .agg #[.bool cb, .slice u1 n1 k1, .slice u2 n2 k2, .int .i64 cx, .int .i64 cy, .string cs, .slice u3 n3 k3]) (results_cell_row Tryd.results25 _ _ (w.heap.size + 1) _ _ _ _ rfl hz Tryd.underlying35 rfl (by kernel_rfl)) rfl ⟨_, rfl, HD9.out.imp (fun _ h => h) (by simp) (fun b hb _ => setRow_other w9 (w.heap.size + 1) b _ (by rcases hb with h | h; (· have := h.2; omega); (· omega))), below_row HB9.out (by omega)⟩
set_option maxRecDepth 100000 in
set_option maxHeartbeats 4000000 in
theorem tx_codes (x y : Tm) (P : Nat → Prop) (w : World) (a : Option Addr) (c : Nat) (h : IsSl w P (.slice a 2 c) [x, y]) (hM : x.size ≤ 1000000) (hM' : y.size ≤ 1000000) (hf : Num.Fit x.n) (hf' : Num.Fit y.n) (hs1 : x.s.size ≤ 100000) (hs2 : y.s.size ≤ 100000) (ht : Num.Tab w) : Calls Tryd.prog 26 #[.agg #[.slice a 2 c]] w (TellsM (spellD true x y) P w) := by
  have HTB := Lib.hid ht
  have HF := Lib.hid (And.intro hf hf')
  clear ht hf hf'
  obtain ⟨w1, w2, w3, w4⟩ := two w (.cells #[.slice a 2 c] 59 (0, 0)) (.cells #[.bool false, .slice none 0 0, .slice none 0 0, .int .i64 0, .int .i64 0, .string ⟨#[]⟩, .slice none 0 0] 35 (0, 0))
  have HR := Lib.hid w2
  have HB := Lib.hid w4
  have H := Lib.hid (h.lt2.below w4)
  have x0 := cell_of_row _ _ 0 _ _ _ w1
  have hs : w.heap.size + 2 ≤ ((w.alloc (.cells #[.slice a 2 c] 59 (0, 0))).alloc (.cells #[.bool false, .slice none 0 0, .slice none 0 0, .int .i64 0, .int .i64 0, .string ⟨#[]⟩, .slice none 0 0] 35 (0, 0))).heap.size := by simp
  clear h w1 w2 w3 w4
  go_enter Tryd.func26, Tryd.ntmps26
  go_wp2_with fail
  generalize ((w.alloc (.cells #[.slice a 2 c] 59 (0, 0))).alloc (.cells #[.bool false, .slice none 0 0, .slice none 0 0, .int .i64 0, .int .i64 0, .string ⟨#[]⟩, .slice none 0 0] 35 (0, 0))) = wc at *
  refine (tx_spell true x y _ wc a c H.out hM hM' HF.out.1 HF.out.2 hs1 hs2 (HTB.out.on HB.out)).mono ?_
  rintro e9 w9 ⟨v9, rfl, hd9, hb9⟩
  obtain ⟨cb, u1, u2, u3, n1, k1, n2, k2, n3, k3, cx, cy, cs, rfl⟩ := hd9.cells
  have HD9 := Lib.hid (hd9.imp (P' := fun b => P b ∧ b < w.heap.size ∨ w.heap.size + 2 ≤ b) (fun b hb => by rcases hb with hb | hb; (· exact Or.inl hb.1); (· exact Or.inr (by omega))) (Nat.le_refl _) (fun _ _ _ => rfl))
  have HR9 := Lib.hid (row_on HR.out hb9)
  have HB9 := Lib.hid (HB.out.trans (hb9.mono HB.out.size))
  clear hd9 hb9
  go_wp2_with (with_reducible show wpList _ _ _ (⟨none, .store _ (.tmp 2) _, _, _, _, _⟩ :: _) _ _
               go_must (refine wpList_store_row rfl 35 (.tmp 2) (.tmp 4) rfl (w.heap.size + 1) #[.bool cb, .slice u1 n1 k1, .slice u2 n2 k2, .int .i64 cx, .int .i64 cy, .string cs, .slice u3 n3 k3] rfl rfl _ _ HR9.out size_did rfl (by simp [Value.oneCell']) ?_))
  have hz := setRow_heap w9 (w.heap.size + 1) _ (#[.bool cb, .slice u1 n1 k1, .slice u2 n2 k2, .int .i64 cx, .int .i64 cy, .string cs, .slice u3 n3 k3] : Array Value) _ _ HR9.out
  exact bodyPost_ret (v := .agg #[.bool cb, .slice u1 n1 k1, .slice u2 n2 k2, .int .i64 cx, .int .i64 cy, .string cs, .slice u3 n3 k3]) (results_cell_row Tryd.results26 _ _ (w.heap.size + 1) _ _ _ _ rfl hz Tryd.underlying35 rfl (by kernel_rfl)) rfl ⟨_, rfl, HD9.out.imp (fun _ h => h) (by simp) (fun b hb _ => setRow_other w9 (w.heap.size + 1) b _ (by rcases hb with h | h; (· have := h.2; omega); (· omega))), below_row HB9.out (by omega)⟩
end Go.Proofs.YtkhchmgdaolojaaDoor.Tms
namespace Go.Proofs.YtkhchmgdaolojaaDoor.Tms
open Go Go.RowKit Go.Proofs.YtkhchmgdaolojaaDoor.Reg Go.Proofs.YtkhchmgdaolojaaDoor.Rws Go.Proofs.YtkhchmgdaolojaaDoor.Maps Go.Instr
set_option linter.unusedVariables false
set_option linter.unusedSimpArgs false

/-- char_code -/
def codeD (a b : Tm) : Dd := if a.k = 3 ∧ a.s.size = 1 then .is 1 (intT (match a.s.data[0]? with | some x => x.toNat | none => 0)) else if a.k ≠ 1 then .wr (formalE 13 (⟨#[99, 104, 97, 114, 97, 99, 116, 101, 114]⟩ : ByteArray) a) else if b.k = 1 then .wr (formalE 12 ⟨#[]⟩ b) else if b.k ≠ 2 then .wr (formalE 13 (⟨#[105, 110, 116, 101, 103, 101, 114]⟩ : ByteArray) b) else if b.n < 0 ∨ 255 < b.n then .wr (formalE 3 (⟨#[99, 104, 97, 114, 97, 99, 116, 101, 114, 95, 99, 111, 100, 101]⟩ : ByteArray) b) else .is 0 (atomT ⟨#[UInt8.ofNat b.n.toNat]⟩)
set_option maxRecDepth 100000 in
set_option maxHeartbeats 4000000 in
theorem tx_code (x y : Tm) (P : Nat → Prop) (w : World) (a : Option Addr) (c : Nat) (h : IsSl w P (.slice a 2 c) [x, y]) (hM : x.size ≤ 1000000) (hM' : y.size ≤ 1000000) (hf : Num.Fit x.n) (hf' : Num.Fit y.n) (hs1 : x.s.size ≤ 100000) (hs2 : y.s.size ≤ 100000) (ht : Num.Tab w) : Calls Tryd.prog 27 #[.agg #[.slice a 2 c]] w (TellsM (codeD x y) P w) := by
  have HTB := Lib.hid ht
  clear ht
  obtain ⟨w1, w2, w3, w4⟩ := two w (.cells #[.slice a 2 c] 59 (0, 0)) (.cells #[.bool false, .slice none 0 0, .slice none 0 0, .int .i64 0, .int .i64 0, .string ⟨#[]⟩, .slice none 0 0] 35 (0, 0))
  have x0 := cell_of_row _ _ 0 _ _ _ w1
  have HR := Lib.hid w2
  have HC := Lib.hid w1
  have HB := Lib.hid w4
  have HZ := Lib.hid w3
  have H := Lib.hid (h.lt2.below w4)
  obtain ⟨b, off, e1, -⟩ := H.out.at 0 (by simp)
  subst e1
  clear h w1 w2 w3 w4
  have HF := Lib.hid (And.intro hf hf')
  clear hf hf'
  go_enter Tryd.func27, Tryd.ntmps27
  go_upto_region 1 with fail
  generalize ((w.alloc (.cells #[.slice (some ⟨b, off, none⟩) 2 c] 59 (0, 0))).alloc (.cells #[.bool false, .slice none 0 0, .slice none 0 0, .int .i64 0, .int .i64 0, .string ⟨#[]⟩, .slice none 0 0] 35 (0, 0))) = W1 at *
  go_cut [3, 4] from 5 to 12 (fun v3 v4 wx => Args2 x y (fun b => P b ∧ b < w.heap.size) W1 v3 v4 wx)
  case first =>
    refine wp_region_rest (by kernel_rfl) ?_
    have hd := (Below.refl W1.heap.size W1).drew
    have hs2 : W1.drew.heap.size = w.heap.size + 2 := HZ.out
    have h0 := H.out.below hd
    have hc2 := (hd.block _ (Array.getElem?_eq_some_iff.1 HC.out).1).trans HC.out
    have HD := Lib.hid hd
    have hlt2 : w.heap.size < W1.drew.heap.size := by rw [hs2]; omega
    clear hs2
    clear x0 HR HC HB H hd HZ
    generalize W1.drew = W2 at *
    have x0 := cell_of_row _ _ 0 _ _ _ hc2
    clear hc2
    obtain ⟨qa, qc, y0, y1, y2, y3, hit, hl1⟩ := (h0.atb 0 (by simp)).read
    obtain ⟨za, zc, z0, z1, z2, z3, hit', hl2⟩ := (h0.atb 1 (by simp)).read
    simp only [List.getElem_cons_zero, List.getElem_cons_succ, Nat.zero_mul, Nat.add_zero, Nat.one_mul] at y0 y1 y2 y3 z0 z1 z2 z3 hit hit'
    have HI1 := Lib.hid hit.args
    have HI2 := Lib.hid hit'.args
    have HQ := Lib.hid (show ∀ b, (P b ∧ b < w.heap.size) → b < W2.heap.size from fun b hb => by have := hb.2; omega)
    clear hit hit' h0
    refine rest_chainP (fun u => Below W2.heap.size W2 u) 0 12 (.soft 0 (.soft 1 (.soft 2 (.soft 3 (.soft 4 (.soft 5 (.soft 6 (.soft 7 (.two 8 9 (.one 9 (.one 10 (.one 11 .nil))) (.one 8 (.one 10 (.one 11 .nil)))))))))))) (.soft _ (.soft _ (.soft _ (.soft _ (.soft _ (.soft _ (.soft _ (.soft _ (.two _ _ (.one _ (.one _ (.one _ .nil))) (.one _ (.one _ (.one _ .nil)))))))))))) ⟨rfl, ⟨rfl, ⟨rfl, ⟨rfl, ⟨rfl, ⟨rfl, ⟨rfl, ⟨rfl, ⟨rfl, rfl, ⟨rfl, ⟨rfl, ⟨rfl, trivial⟩⟩⟩, ⟨rfl, ⟨rfl, ⟨rfl, trivial⟩⟩⟩⟩⟩⟩⟩⟩⟩⟩⟩⟩ (by kernel_rfl) (by kernel_rfl) (by kernel_rfl) (by kernel_rfl) (.inl rfl) (Below.refl _ _) ?_
    refine chainP_soft (a1 := ?ma1) (by kernel_rfl) (by kernel_rfl) ?mh1 ?mr1
    case mh1 =>
      intro u hu E hE
      go_wp2
      rfl
    refine chainP_soft (a1 := ?ma2) (by kernel_rfl) (by kernel_rfl) ?mh2 ?mr2
    case mh2 =>
      intro u hu E hE
      have c0 := (hu.cell (p := ⟨w.heap.size, 0, none⟩) hlt2).trans x0
      go_wp2
      rfl
    refine chainP_soft (a1 := ?ma3) (by kernel_rfl) (by kernel_rfl) ?mh3 ?mr3
    case mh3 =>
      intro u hu E hE
      go_wp2
      rfl
    refine chainP_soft (a1 := ?ma4) (by kernel_rfl) (by kernel_rfl) ?mh4 ?mr4
    case mh4 =>
      intro u hu E hE
      have c0 := (hu.cell (p := ⟨b, off, none⟩) hl1).trans y0
      have c1 := (hu.cell (p := ⟨b, off + 1, none⟩) hl1).trans y1
      have c2 := (hu.cell (p := ⟨b, off + 2, none⟩) hl1).trans y2
      have c3 := (hu.cell (p := ⟨b, off + 3, none⟩) hl1).trans y3
      go_wp2
      rfl
    refine chainP_soft (a1 := ?ma5) (by kernel_rfl) (by kernel_rfl) ?mh5 ?mr5
    case mh5 =>
      intro u hu E hE
      go_wp2
      rfl
    refine chainP_soft (a1 := ?ma6) (by kernel_rfl) (by kernel_rfl) ?mh6 ?mr6
    case mh6 =>
      intro u hu E hE
      have c0 := (hu.cell (p := ⟨w.heap.size, 0, none⟩) hlt2).trans x0
      go_wp2
      rfl
    refine chainP_soft (a1 := ?ma7) (by kernel_rfl) (by kernel_rfl) ?mh7 ?mr7
    case mh7 =>
      intro u hu E hE
      go_wp2
      rfl
    refine chainP_soft (a1 := ?ma8) (by kernel_rfl) (by kernel_rfl) ?mh8 ?mr8
    case mh8 =>
      intro u hu E hE
      have c0 := (hu.cell (p := ⟨b, off + 4, none⟩) hl1).trans z0
      have c1 := (hu.cell (p := ⟨b, off + 4 + 1, none⟩) hl1).trans z1
      have c2 := (hu.cell (p := ⟨b, off + 4 + 2, none⟩) hl1).trans z2
      have c3 := (hu.cell (p := ⟨b, off + 4 + 3, none⟩) hl1).trans z3
      go_wp2
      rfl
    clear x0 y0 y1 y2 y3 z0 z1 z2 z3
    refine chainP_two ?_ ?_
    · intro E hE
      go_wp2
      refine ⟨(Below.refl W2.heap.size W2).alloc (Nat.le_refl _) _, ?_⟩
      refine chainP_one ?_
      intro E hE
      go_wp2
      have HK := Lib.hid (two W2 (.cells #[.int .i64 0, .int .i64 0, .string ⟨#[]⟩, .slice none 0 0] 28 (0, 0)) (.cells #[.int .i64 0, .int .i64 0, .string ⟨#[]⟩, .slice none 0 0] 28 (0, 0)))
      refine ⟨HK.out.2.2.2, ?_⟩
      refine chainP_one ?_
      intro E hE
      go_wp2_with (refine wpList_store_row rfl 28 (.tmp 3) (.tmp 8) rfl W2.heap.size #[.int .i64 x.k, .int .i64 x.n, .string x.s, .slice qa x.args.length qc] rfl rfl _ _ HK.out.1 size_term rfl (one4 _ _ _ _ _ _) ?_)
      refine ⟨(below_row HK.out.2.2.2 (by omega)), ?_⟩
      refine chainP_one ?_
      intro E hE
      go_wp2_with (refine wpList_store_row rfl 28 (.tmp 4) (.tmp 12) rfl (W2.heap.size + 1) #[.int .i64 y.k, .int .i64 y.n, .string y.s, .slice za y.args.length zc] rfl rfl _ _ ((setRow_other _ _ _ _ (by omega)).trans HK.out.2.1) size_term rfl (one4 _ _ _ _ _ _) ?_)
      refine ⟨(below_row (below_row HK.out.2.2.2 (by omega)) (by omega)), ?_⟩
      have HFIN := Lib.hid (args_two (g := W2.heap.size) (g' := (W2.heap.size + 1)) HK.out.2.2.2 (by omega) (by omega) (by omega) HQ.out HK.out.1 HK.out.2.1 (HI1.out.below HK.out.2.2.2) (HI2.out.below HK.out.2.2.2))
      clear HK
      refine chainP_nil (rest_end (by decide) ?_)
      go_wp2
      go_meet
      exact Args2.lift HD.out HFIN.out
    · intro E hE
      go_wp2
      refine ⟨(Below.refl W2.heap.size W2).alloc (Nat.le_refl _) _, ?_⟩
      refine chainP_one ?_
      intro E hE
      go_wp2
      have HK := Lib.hid (two W2 (.cells #[.int .i64 0, .int .i64 0, .string ⟨#[]⟩, .slice none 0 0] 28 (0, 0)) (.cells #[.int .i64 0, .int .i64 0, .string ⟨#[]⟩, .slice none 0 0] 28 (0, 0)))
      refine ⟨HK.out.2.2.2, ?_⟩
      refine chainP_one ?_
      intro E hE
      go_wp2_with (refine wpList_store_row rfl 28 (.tmp 3) (.tmp 8) rfl (W2.heap.size + 1) #[.int .i64 x.k, .int .i64 x.n, .string x.s, .slice qa x.args.length qc] rfl rfl _ _ HK.out.2.1 size_term rfl (one4 _ _ _ _ _ _) ?_)
      refine ⟨(below_row HK.out.2.2.2 (by omega)), ?_⟩
      refine chainP_one ?_
      intro E hE
      go_wp2_with (refine wpList_store_row rfl 28 (.tmp 4) (.tmp 12) rfl W2.heap.size #[.int .i64 y.k, .int .i64 y.n, .string y.s, .slice za y.args.length zc] rfl rfl _ _ ((setRow_other _ _ _ _ (by omega)).trans HK.out.1) size_term rfl (one4 _ _ _ _ _ _) ?_)
      refine ⟨(below_row (below_row HK.out.2.2.2 (by omega)) (by omega)), ?_⟩
      have HFIN := Lib.hid (args_two (g := (W2.heap.size + 1)) (g' := W2.heap.size) HK.out.2.2.2 (by omega) (by omega) (by omega) HQ.out HK.out.2.1 HK.out.1 (HI1.out.below HK.out.2.2.2) (HI2.out.below HK.out.2.2.2))
      clear HK
      refine chainP_nil (rest_end (by decide) ?_)
      go_wp2
      go_meet
      exact Args2.lift HD.out HFIN.out
  case rest =>
    obtain ⟨b3, b4, rfl, rfl, ⟨a3, c3, r3, i3⟩, ⟨a4, c4, r4, i4⟩, hbc⟩ := hcut
    have HR3 := Lib.hid (row_on HR.out hbc)
    have hb3 := HB.out.trans (hbc.mono HB.out.size)
    have hs3 : w.heap.size + 2 ≤ wc.heap.size := by have := HZ.out; have := hbc.size; omega
    have HB3 := Lib.hid hb3
    have HX := Lib.hid (show IsTm wc (fun b => P b ∧ b < w.heap.size ∨ w.heap.size + 2 ≤ b) (.agg #[.int .i64 x.k, .int .i64 x.n, .string x.s, .slice a3 x.args.length c3]) x from (IsTm.mk' i3).imp (fun b hb => Or.inl hb) fun _ _ _ => rfl)
    have HY := Lib.hid (show IsTm wc (fun b => P b ∧ b < w.heap.size ∨ w.heap.size + 2 ≤ b) (.agg #[.int .i64 y.k, .int .i64 y.n, .string y.s, .slice a4 y.args.length c4]) y from (IsTm.mk' i4).imp (fun b hb => Or.inl hb) fun _ _ _ => rfl)
    have HT3 := Lib.hid (HTB.out.on hb3)
    have R3 := Lib.hid r3
    have R4 := Lib.hid r4
    obtain ⟨y0, y1, y2, y3⟩ := row4 r3
    obtain ⟨z0, z1, z2, z3⟩ := row4 r4
    have hl3 := (Array.getElem?_eq_some_iff.1 r3).1
    have hl4 := (Array.getElem?_eq_some_iff.1 r4).1
    clear i3 i4 HR HC HZ H HB hbc x0 hb3 r3 r4 HTB
    by_cases h1 : x.k = 3 ∧ x.s.size = 1
    · have c1 : (x.k == 3) = true := by rw [h1.1]; rfl
      have c2 : ((x.s.size : Int) == 1) = true := by rw [h1.2]; rfl
      have HK := Lib.hid h1
      obtain ⟨b0, hx0⟩ : ∃ b0, x.s.data[0]? = some b0 := ⟨_, Array.getElem?_eq_getElem (by have := h1.2; show 0 < x.s.size; omega)⟩
      have HDD := Lib.hid (show codeD x y = .is 1 (intT b0.toNat) by unfold codeD; rw [if_pos HK.out, hx0])
      clear h1
      go_wp2_with fail
      case isFalse h => exact absurd (show 0 < x.s.size by have := HK.out.2; omega) h
      rename_i h0 _ _ _ _ _ _
      have hwr : wrap64 (((x.s[0]'(by have := HK.out.2; omega)).toNat : Nat) : Int) = (b0.toNat : Int) := by
        have h1 : x.s[0]'(by have := HK.out.2; omega) = b0 := (Array.getElem?_eq_some_iff.1 hx0).2
        have := b0.toNat_lt
        rw [h1, Num.wrap_in (by unfold Num.Fit; omega)]
      rw [hwr]
      refine (tx_whole _ _).mono ?_
      rintro e6 w6 ⟨rfl, hb6⟩
      have HR6 := Lib.hid (row_on HR3.out hb6)
      have HB6 := Lib.hid (HB3.out.trans (hb6.mono HB3.out.size))
      have hs6 : w.heap.size + 2 ≤ w6.heap.size := by have := hb6.size; omega
      clear hb6
      go_wp2_with fail
      refine (tx_is 1 (intT b0.toNat) _ (fun b => P b ∧ b < w.heap.size ∨ w.heap.size + 2 ≤ b) _ (int_is _ _ _)).mono ?_
      rintro e9 w9 ⟨v9, rfl, hd9, hb9⟩
      obtain ⟨cb, u1, u2, u3, n1, k1, n2, k2, n3, k3, cx, cy, cs, rfl⟩ := hd9.cells
      have HD9 := Lib.hid (hd9.imp (P' := fun b => P b ∧ b < w.heap.size ∨ w.heap.size + 2 ≤ b) (fun b hb => by rcases hb with hb | hb; (· exact hb); (· exact Or.inr (by omega))) (Nat.le_refl _) (fun _ _ _ => rfl))
      have HR9 := Lib.hid (row_on HR6.out hb9)
      have HB9 := Lib.hid (HB6.out.trans (hb9.mono HB6.out.size))
      clear hd9 hb9
      go_wp2_with (with_reducible show wpList _ _ _ (⟨none, .store _ (.tmp 2) _, _, _, _, _⟩ :: _) _ _
                   go_must (refine wpList_store_row rfl 35 (.tmp 2) (.tmp 28) rfl (w.heap.size + 1) #[.bool cb, .slice u1 n1 k1, .slice u2 n2 k2, .int .i64 cx, .int .i64 cy, .string cs, .slice u3 n3 k3] rfl rfl _ _ HR9.out size_did rfl (by simp [Value.oneCell']) ?_))
      have hz := setRow_heap w9 (w.heap.size + 1) _ (#[.bool cb, .slice u1 n1 k1, .slice u2 n2 k2, .int .i64 cx, .int .i64 cy, .string cs, .slice u3 n3 k3] : Array Value) _ _ HR9.out
      rw [HDD.out]
      exact bodyPost_ret (v := .agg #[.bool cb, .slice u1 n1 k1, .slice u2 n2 k2, .int .i64 cx, .int .i64 cy, .string cs, .slice u3 n3 k3]) (results_cell_row Tryd.results27 _ _ (w.heap.size + 1) _ _ _ _ rfl hz Tryd.underlying35 rfl (by kernel_rfl)) rfl ⟨_, rfl, HD9.out.imp (fun _ h => h) (by simp) (fun b hb _ => setRow_other w9 (w.heap.size + 1) b _ (by rcases hb with h | h; (· have := h.2; omega); (· omega))), below_row HB9.out (by omega)⟩
    · have HK := Lib.hid h1
      by_cases h3 : x.k = 3
      · have c1 : (x.k == 3) = true := by rw [h3]; rfl
        have c2 : ((x.s.size : Int) == 1) = false := by
          have h4 : x.s.size ≠ 1 := fun h => h1 ⟨h3, h⟩
          simp; omega
        have c3 : (x.k != 1) = true := by rw [h3]; rfl
        have HK1 := Lib.hid (show x.k ≠ 1 by omega)
        clear h1 h3
        have HDD := Lib.hid (show codeD x y = .wr (formalE 13 (⟨#[99, 104, 97, 114, 97, 99, 116, 101, 114]⟩ : ByteArray) x) by unfold codeD; rw [if_neg HK.out, if_pos HK1.out])
        go_wp2_with fail
        refine (tx_wrong 13 (⟨#[99, 104, 97, 114, 97, 99, 116, 101, 114]⟩ : ByteArray) x _ (fun b => P b ∧ b < w.heap.size ∨ w.heap.size + 2 ≤ b) _ (by omega) HX.out).mono ?_
        rintro e9 w9 ⟨v9, rfl, hd9, hb9⟩
        obtain ⟨cb, u1, u2, u3, n1, k1, n2, k2, n3, k3, cx, cy, cs, rfl⟩ := hd9.cells
        have HD9 := Lib.hid (hd9.imp (P' := fun b => P b ∧ b < w.heap.size ∨ w.heap.size + 2 ≤ b) (fun b hb => by rcases hb with hb | hb; (· exact hb); (· exact Or.inr (by omega))) (Nat.le_refl _) (fun _ _ _ => rfl))
        have HR9 := Lib.hid (row_on HR3.out hb9)
        have HB9 := Lib.hid (HB3.out.trans (hb9.mono HB3.out.size))
        clear hd9 hb9
        go_wp2_with (with_reducible show wpList _ _ _ (⟨none, .store _ (.tmp 2) _, _, _, _, _⟩ :: _) _ _
                     go_must (refine wpList_store_row rfl 35 (.tmp 2) (.tmp 34) rfl (w.heap.size + 1) #[.bool cb, .slice u1 n1 k1, .slice u2 n2 k2, .int .i64 cx, .int .i64 cy, .string cs, .slice u3 n3 k3] rfl rfl _ _ HR9.out size_did rfl (by simp [Value.oneCell']) ?_))
        have hz := setRow_heap w9 (w.heap.size + 1) _ (#[.bool cb, .slice u1 n1 k1, .slice u2 n2 k2, .int .i64 cx, .int .i64 cy, .string cs, .slice u3 n3 k3] : Array Value) _ _ HR9.out
        rw [HDD.out]
        exact bodyPost_ret (v := .agg #[.bool cb, .slice u1 n1 k1, .slice u2 n2 k2, .int .i64 cx, .int .i64 cy, .string cs, .slice u3 n3 k3]) (results_cell_row Tryd.results27 _ _ (w.heap.size + 1) _ _ _ _ rfl hz Tryd.underlying35 rfl (by kernel_rfl)) rfl ⟨_, rfl, HD9.out.imp (fun _ h => h) (by simp) (fun b hb _ => setRow_other w9 (w.heap.size + 1) b _ (by rcases hb with h | h; (· have := h.2; omega); (· omega))), below_row HB9.out (by omega)⟩
      · have c1 : (x.k == 3) = false := by simpa using h3
        clear h1 h3
        by_cases h3 : x.k = 1
        · have c2 : (x.k != 1) = false := by rw [h3]; rfl
          have HK1 := Lib.hid h3
          clear h3
          by_cases hy1 : y.k = 1
          · have c3 : (y.k == 1) = true := by rw [hy1]; rfl
            have HY1 := Lib.hid hy1
            clear hy1
            have HDD := Lib.hid (show codeD x y = .wr (formalE 12 ⟨#[]⟩ y) by unfold codeD; rw [if_neg HK.out, if_neg (fun h => h HK1.out), if_pos HY1.out])
            go_wp2_with fail
            refine (tx_wrong 12 ⟨#[]⟩ y _ (fun b => P b ∧ b < w.heap.size ∨ w.heap.size + 2 ≤ b) _ (by omega) HY.out).mono ?_
            rintro e9 w9 ⟨v9, rfl, hd9, hb9⟩
            obtain ⟨cb, u1, u2, u3, n1, k1, n2, k2, n3, k3, cx, cy, cs, rfl⟩ := hd9.cells
            have HD9 := Lib.hid (hd9.imp (P' := fun b => P b ∧ b < w.heap.size ∨ w.heap.size + 2 ≤ b) (fun b hb => by rcases hb with hb | hb; (· exact hb); (· exact Or.inr (by omega))) (Nat.le_refl _) (fun _ _ _ => rfl))
            have HR9 := Lib.hid (row_on HR3.out hb9)
            have HB9 := Lib.hid (HB3.out.trans (hb9.mono HB3.out.size))
            clear hd9 hb9
            go_wp2_with (with_reducible show wpList _ _ _ (⟨none, .store _ (.tmp 2) _, _, _, _, _⟩ :: _) _ _
                         go_must (refine wpList_store_row rfl 35 (.tmp 2) (.tmp 40) rfl (w.heap.size + 1) #[.bool cb, .slice u1 n1 k1, .slice u2 n2 k2, .int .i64 cx, .int .i64 cy, .string cs, .slice u3 n3 k3] rfl rfl _ _ HR9.out size_did rfl (by simp [Value.oneCell']) ?_))
            have hz := setRow_heap w9 (w.heap.size + 1) _ (#[.bool cb, .slice u1 n1 k1, .slice u2 n2 k2, .int .i64 cx, .int .i64 cy, .string cs, .slice u3 n3 k3] : Array Value) _ _ HR9.out
            rw [HDD.out]
            exact bodyPost_ret (v := .agg #[.bool cb, .slice u1 n1 k1, .slice u2 n2 k2, .int .i64 cx, .int .i64 cy, .string cs, .slice u3 n3 k3]) (results_cell_row Tryd.results27 _ _ (w.heap.size + 1) _ _ _ _ rfl hz Tryd.underlying35 rfl (by kernel_rfl)) rfl ⟨_, rfl, HD9.out.imp (fun _ h => h) (by simp) (fun b hb _ => setRow_other w9 (w.heap.size + 1) b _ (by rcases hb with h | h; (· have := h.2; omega); (· omega))), below_row HB9.out (by omega)⟩
          · have c3 : (y.k == 1) = false := by simpa using hy1
            have HY1 := Lib.hid hy1
            clear hy1
            by_cases hy2 : y.k = 2
            · have c4 : (y.k != 2) = false := by rw [hy2]; rfl
              have HY2 := Lib.hid hy2
              clear hy2
              by_cases hn : y.n < 0
              · have c5 : decide (y.n < 0) = true := by simpa using hn
                have HN := Lib.hid hn
                clear hn
                have HDD := Lib.hid (show codeD x y = .wr (formalE 3 (⟨#[99, 104, 97, 114, 97, 99, 116, 101, 114, 95, 99, 111, 100, 101]⟩ : ByteArray) y) by unfold codeD; rw [if_neg HK.out, if_neg (fun h => h HK1.out), if_neg HY1.out, if_neg (fun h => h HY2.out), if_pos (Or.inl HN.out)])
                go_wp2_with fail
                refine (tx_wrong 3 (⟨#[99, 104, 97, 114, 97, 99, 116, 101, 114, 95, 99, 111, 100, 101]⟩ : ByteArray) y _ (fun b => P b ∧ b < w.heap.size ∨ w.heap.size + 2 ≤ b) _ (by omega) HY.out).mono ?_
                rintro e9 w9 ⟨v9, rfl, hd9, hb9⟩
                obtain ⟨cb, u1, u2, u3, n1, k1, n2, k2, n3, k3, cx, cy, cs, rfl⟩ := hd9.cells
                have HD9 := Lib.hid (hd9.imp (P' := fun b => P b ∧ b < w.heap.size ∨ w.heap.size + 2 ≤ b) (fun b hb => by rcases hb with hb | hb; (· exact hb); (· exact Or.inr (by omega))) (Nat.le_refl _) (fun _ _ _ => rfl))
                have HR9 := Lib.hid (row_on HR3.out hb9)
                have HB9 := Lib.hid (HB3.out.trans (hb9.mono HB3.out.size))
                clear hd9 hb9
                go_wp2_with (with_reducible show wpList _ _ _ (⟨none, .store _ (.tmp 2) _, _, _, _, _⟩ :: _) _ _
                             go_must (refine wpList_store_row rfl 35 (.tmp 2) (.tmp 57) rfl (w.heap.size + 1) #[.bool cb, .slice u1 n1 k1, .slice u2 n2 k2, .int .i64 cx, .int .i64 cy, .string cs, .slice u3 n3 k3] rfl rfl _ _ HR9.out size_did rfl (by simp [Value.oneCell']) ?_))
                have hz := setRow_heap w9 (w.heap.size + 1) _ (#[.bool cb, .slice u1 n1 k1, .slice u2 n2 k2, .int .i64 cx, .int .i64 cy, .string cs, .slice u3 n3 k3] : Array Value) _ _ HR9.out
                rw [HDD.out]
                exact bodyPost_ret (v := .agg #[.bool cb, .slice u1 n1 k1, .slice u2 n2 k2, .int .i64 cx, .int .i64 cy, .string cs, .slice u3 n3 k3]) (results_cell_row Tryd.results27 _ _ (w.heap.size + 1) _ _ _ _ rfl hz Tryd.underlying35 rfl (by kernel_rfl)) rfl ⟨_, rfl, HD9.out.imp (fun _ h => h) (by simp) (fun b hb _ => setRow_other w9 (w.heap.size + 1) b _ (by rcases hb with h | h; (· have := h.2; omega); (· omega))), below_row HB9.out (by omega)⟩
              · have c5 : decide (y.n < 0) = false := by simpa using hn
                by_cases hn2 : 255 < y.n
                · have c6 : decide (255 < y.n) = true := by simpa using hn2
                  have HN := Lib.hid hn2
                  clear hn hn2
                  have HDD := Lib.hid (show codeD x y = .wr (formalE 3 (⟨#[99, 104, 97, 114, 97, 99, 116, 101, 114, 95, 99, 111, 100, 101]⟩ : ByteArray) y) by unfold codeD; rw [if_neg HK.out, if_neg (fun h => h HK1.out), if_neg HY1.out, if_neg (fun h => h HY2.out), if_pos (Or.inr HN.out)])
                  go_wp2_with fail
                  refine (tx_wrong 3 (⟨#[99, 104, 97, 114, 97, 99, 116, 101, 114, 95, 99, 111, 100, 101]⟩ : ByteArray) y _ (fun b => P b ∧ b < w.heap.size ∨ w.heap.size + 2 ≤ b) _ (by omega) HY.out).mono ?_
                  rintro e9 w9 ⟨v9, rfl, hd9, hb9⟩
                  obtain ⟨cb, u1, u2, u3, n1, k1, n2, k2, n3, k3, cx, cy, cs, rfl⟩ := hd9.cells
                  have HD9 := Lib.hid (hd9.imp (P' := fun b => P b ∧ b < w.heap.size ∨ w.heap.size + 2 ≤ b) (fun b hb => by rcases hb with hb | hb; (· exact hb); (· exact Or.inr (by omega))) (Nat.le_refl _) (fun _ _ _ => rfl))
                  have HR9 := Lib.hid (row_on HR3.out hb9)
                  have HB9 := Lib.hid (HB3.out.trans (hb9.mono HB3.out.size))
                  clear hd9 hb9
                  go_wp2_with (with_reducible show wpList _ _ _ (⟨none, .store _ (.tmp 2) _, _, _, _, _⟩ :: _) _ _
                               go_must (refine wpList_store_row rfl 35 (.tmp 2) (.tmp 57) rfl (w.heap.size + 1) #[.bool cb, .slice u1 n1 k1, .slice u2 n2 k2, .int .i64 cx, .int .i64 cy, .string cs, .slice u3 n3 k3] rfl rfl _ _ HR9.out size_did rfl (by simp [Value.oneCell']) ?_))
                  have hz := setRow_heap w9 (w.heap.size + 1) _ (#[.bool cb, .slice u1 n1 k1, .slice u2 n2 k2, .int .i64 cx, .int .i64 cy, .string cs, .slice u3 n3 k3] : Array Value) _ _ HR9.out
                  rw [HDD.out]
                  exact bodyPost_ret (v := .agg #[.bool cb, .slice u1 n1 k1, .slice u2 n2 k2, .int .i64 cx, .int .i64 cy, .string cs, .slice u3 n3 k3]) (results_cell_row Tryd.results27 _ _ (w.heap.size + 1) _ _ _ _ rfl hz Tryd.underlying35 rfl (by kernel_rfl)) rfl ⟨_, rfl, HD9.out.imp (fun _ h => h) (by simp) (fun b hb _ => setRow_other w9 (w.heap.size + 1) b _ (by rcases hb with h | h; (· have := h.2; omega); (· omega))), below_row HB9.out (by omega)⟩
                · have c6 : decide (255 < y.n) = false := by simpa using hn2
                  have HN := Lib.hid hn
                  have HN2 := Lib.hid hn2
                  have HDD := Lib.hid (show codeD x y = .is 0 (atomT ⟨#[UInt8.ofNat y.n.toNat]⟩) by unfold codeD; rw [if_neg HK.out, if_neg (fun h => h HK1.out), if_neg HY1.out, if_neg (fun h => h HY2.out), if_neg (fun h => h.elim HN.out HN2.out)])
                  clear hn hn2
                  obtain ⟨by0, hby⟩ : ∃ by0, by0 = UInt8.ofNat y.n.toNat := ⟨_, rfl⟩
                  have hbn : ((by0.toNat : Nat) : Int) = y.n % 256 := by
                    have h1 := HN.out
                    have h2 := HN2.out
                    rw [hby]; simp only [UInt8.toNat_ofNat']; omega
                  rw [← hby] at HDD
                  have hW := heap_alloc_new wc (.cells #[.int .u8 (y.n % 256)] 5 (0, 0))
                  have hbW := (Below.refl wc.heap.size wc).alloc (Nat.le_refl _) (.cells #[.int .u8 (y.n % 256)] 5 (0, 0))
                  have HOB := Lib.hid (show Byt.OwnB (wc.alloc (.cells #[.int .u8 (y.n % 256)] 5 (0, 0))) wc.heap.size (.slice (some ⟨wc.heap.size, 0, none⟩) 1 1) [by0] from by unfold Byt.OwnB; rw [show [by0].map Byt.cellB = (#[.int .u8 (y.n % 256)] : Array Value).toList from by simp only [List.map_cons, List.map_nil, Byt.cellB]; rw [hbn]]; exact World.ownsRow_lit wc #[.int .u8 (y.n % 256)] 1 (Nat.le_refl _) (by decide) rfl)
                  have HR4' := Lib.hid (row_on HR3.out hbW)
                  have HB4 := Lib.hid (HB3.out.trans (hbW.mono HB3.out.size))
                  have hs4 : w.heap.size + 2 ≤ (wc.alloc (.cells #[.int .u8 (y.n % 256)] 5 (0, 0))).heap.size := by have := hbW.size; omega
                  clear hbW hW hby
                  go_wp2_with (with_reducible show wpList _ _ _ (⟨_, .convert 73 9 _, _, _, _, _⟩ :: _) _ _
                               go_must (refine Byt.wpList_strB rfl (.tmp 61) rfl wc.heap.size _ [by0] rfl HOB.out ?_))
                  generalize (wc.alloc (.cells #[.int .u8 (y.n % 256)] 5 (0, 0))) = w4 at *
                  refine (tx_atom ⟨#[by0]⟩ _).mono ?_
                  rintro e8 w8 ⟨rfl, hb8⟩
                  have HR8 := Lib.hid (row_on HR4'.out hb8)
                  have HB8 := Lib.hid (HB4.out.trans (hb8.mono HB4.out.size))
                  have hs8 : w.heap.size + 2 ≤ w8.heap.size := by have := hb8.size; omega
                  clear hb8
                  go_wp2_with fail
                  refine (tx_is 0 (atomT ⟨#[by0]⟩) _ (fun b => P b ∧ b < w.heap.size ∨ w.heap.size + 2 ≤ b) _ (atom_is _ _ _)).mono ?_
                  rintro e9 w9 ⟨v9, rfl, hd9, hb9⟩
                  obtain ⟨cb, u1, u2, u3, n1, k1, n2, k2, n3, k3, cx, cy, cs, rfl⟩ := hd9.cells
                  have HD9 := Lib.hid (hd9.imp (P' := fun b => P b ∧ b < w.heap.size ∨ w.heap.size + 2 ≤ b) (fun b hb => by rcases hb with hb | hb; (· exact hb); (· exact Or.inr (by omega))) (Nat.le_refl _) (fun _ _ _ => rfl))
                  have HR9 := Lib.hid (row_on HR8.out hb9)
                  have HB9 := Lib.hid (HB8.out.trans (hb9.mono HB8.out.size))
                  clear hd9 hb9
                  go_wp2_with (with_reducible show wpList _ _ _ (⟨none, .store _ (.tmp 2) _, _, _, _, _⟩ :: _) _ _
                               go_must (refine wpList_store_row rfl 35 (.tmp 2) (.tmp 64) rfl (w.heap.size + 1) #[.bool cb, .slice u1 n1 k1, .slice u2 n2 k2, .int .i64 cx, .int .i64 cy, .string cs, .slice u3 n3 k3] rfl rfl _ _ HR9.out size_did rfl (by simp [Value.oneCell']) ?_))
                  have hz := setRow_heap w9 (w.heap.size + 1) _ (#[.bool cb, .slice u1 n1 k1, .slice u2 n2 k2, .int .i64 cx, .int .i64 cy, .string cs, .slice u3 n3 k3] : Array Value) _ _ HR9.out
                  rw [HDD.out]
                  exact bodyPost_ret (v := .agg #[.bool cb, .slice u1 n1 k1, .slice u2 n2 k2, .int .i64 cx, .int .i64 cy, .string cs, .slice u3 n3 k3]) (results_cell_row Tryd.results27 _ _ (w.heap.size + 1) _ _ _ _ rfl hz Tryd.underlying35 rfl (by kernel_rfl)) rfl ⟨_, rfl, HD9.out.imp (fun _ h => h) (by simp) (fun b hb _ => setRow_other w9 (w.heap.size + 1) b _ (by rcases hb with h | h; (· have := h.2; omega); (· omega))), below_row HB9.out (by omega)⟩
            · have c4 : (y.k != 2) = true := by simpa using hy2
              have HY2 := Lib.hid hy2
              clear hy2
              have HDD := Lib.hid (show codeD x y = .wr (formalE 13 (⟨#[105, 110, 116, 101, 103, 101, 114]⟩ : ByteArray) y) by unfold codeD; rw [if_neg HK.out, if_neg (fun h => h HK1.out), if_neg HY1.out, if_pos HY2.out])
              go_wp2_with fail
              refine (tx_wrong 13 (⟨#[105, 110, 116, 101, 103, 101, 114]⟩ : ByteArray) y _ (fun b => P b ∧ b < w.heap.size ∨ w.heap.size + 2 ≤ b) _ (by omega) HY.out).mono ?_
              rintro e9 w9 ⟨v9, rfl, hd9, hb9⟩
              obtain ⟨cb, u1, u2, u3, n1, k1, n2, k2, n3, k3, cx, cy, cs, rfl⟩ := hd9.cells
              have HD9 := Lib.hid (hd9.imp (P' := fun b => P b ∧ b < w.heap.size ∨ w.heap.size + 2 ≤ b) (fun b hb => by rcases hb with hb | hb; (· exact hb); (· exact Or.inr (by omega))) (Nat.le_refl _) (fun _ _ _ => rfl))
              have HR9 := Lib.hid (row_on HR3.out hb9)
              have HB9 := Lib.hid (HB3.out.trans (hb9.mono HB3.out.size))
              clear hd9 hb9
              go_wp2_with (with_reducible show wpList _ _ _ (⟨none, .store _ (.tmp 2) _, _, _, _, _⟩ :: _) _ _
                           go_must (refine wpList_store_row rfl 35 (.tmp 2) (.tmp 46) rfl (w.heap.size + 1) #[.bool cb, .slice u1 n1 k1, .slice u2 n2 k2, .int .i64 cx, .int .i64 cy, .string cs, .slice u3 n3 k3] rfl rfl _ _ HR9.out size_did rfl (by simp [Value.oneCell']) ?_))
              have hz := setRow_heap w9 (w.heap.size + 1) _ (#[.bool cb, .slice u1 n1 k1, .slice u2 n2 k2, .int .i64 cx, .int .i64 cy, .string cs, .slice u3 n3 k3] : Array Value) _ _ HR9.out
              rw [HDD.out]
              exact bodyPost_ret (v := .agg #[.bool cb, .slice u1 n1 k1, .slice u2 n2 k2, .int .i64 cx, .int .i64 cy, .string cs, .slice u3 n3 k3]) (results_cell_row Tryd.results27 _ _ (w.heap.size + 1) _ _ _ _ rfl hz Tryd.underlying35 rfl (by kernel_rfl)) rfl ⟨_, rfl, HD9.out.imp (fun _ h => h) (by simp) (fun b hb _ => setRow_other w9 (w.heap.size + 1) b _ (by rcases hb with h | h; (· have := h.2; omega); (· omega))), below_row HB9.out (by omega)⟩
        · have c2 : (x.k != 1) = true := by simpa using h3
          have HK1 := Lib.hid h3
          clear h3
          have HDD := Lib.hid (show codeD x y = .wr (formalE 13 (⟨#[99, 104, 97, 114, 97, 99, 116, 101, 114]⟩ : ByteArray) x) by unfold codeD; rw [if_neg HK.out, if_pos HK1.out])
          go_wp2_with fail
          refine (tx_wrong 13 (⟨#[99, 104, 97, 114, 97, 99, 116, 101, 114]⟩ : ByteArray) x _ (fun b => P b ∧ b < w.heap.size ∨ w.heap.size + 2 ≤ b) _ (by omega) HX.out).mono ?_
          rintro e9 w9 ⟨v9, rfl, hd9, hb9⟩
          obtain ⟨cb, u1, u2, u3, n1, k1, n2, k2, n3, k3, cx, cy, cs, rfl⟩ := hd9.cells
          have HD9 := Lib.hid (hd9.imp (P' := fun b => P b ∧ b < w.heap.size ∨ w.heap.size + 2 ≤ b) (fun b hb => by rcases hb with hb | hb; (· exact hb); (· exact Or.inr (by omega))) (Nat.le_refl _) (fun _ _ _ => rfl))
          have HR9 := Lib.hid (row_on HR3.out hb9)
          have HB9 := Lib.hid (HB3.out.trans (hb9.mono HB3.out.size))
          clear hd9 hb9
          go_wp2_with (with_reducible show wpList _ _ _ (⟨none, .store _ (.tmp 2) _, _, _, _, _⟩ :: _) _ _
                       go_must (refine wpList_store_row rfl 35 (.tmp 2) (.tmp 34) rfl (w.heap.size + 1) #[.bool cb, .slice u1 n1 k1, .slice u2 n2 k2, .int .i64 cx, .int .i64 cy, .string cs, .slice u3 n3 k3] rfl rfl _ _ HR9.out size_did rfl (by simp [Value.oneCell']) ?_))
          have hz := setRow_heap w9 (w.heap.size + 1) _ (#[.bool cb, .slice u1 n1 k1, .slice u2 n2 k2, .int .i64 cx, .int .i64 cy, .string cs, .slice u3 n3 k3] : Array Value) _ _ HR9.out
          rw [HDD.out]
          exact bodyPost_ret (v := .agg #[.bool cb, .slice u1 n1 k1, .slice u2 n2 k2, .int .i64 cx, .int .i64 cy, .string cs, .slice u3 n3 k3]) (results_cell_row Tryd.results27 _ _ (w.heap.size + 1) _ _ _ _ rfl hz Tryd.underlying35 rfl (by kernel_rfl)) rfl ⟨_, rfl, HD9.out.imp (fun _ h => h) (by simp) (fun b hb _ => setRow_other w9 (w.heap.size + 1) b _ (by rcases hb with h | h; (· have := h.2; omega); (· omega))), below_row HB9.out (by omega)⟩
end Go.Proofs.YtkhchmgdaolojaaDoor.Tms
namespace Go.Proofs.YtkhchmgdaolojaaDoor.Tms
open Go Go.RowKit Go.Proofs.YtkhchmgdaolojaaDoor.Reg Go.Proofs.YtkhchmgdaolojaaDoor.Rws Go.Proofs.YtkhchmgdaolojaaDoor.Maps Go.Instr
set_option linter.unusedVariables false
set_option linter.unusedSimpArgs false

/-- number_codes -/
def numberD (a b : Tm) : Dd := if a.k = 2 then .is 1 (listT (charsT true (Lib.itoa a.n)) nilT) else if a.k ≠ 1 then .wr (formalE 13 (⟨#[105, 110, 116, 101, 103, 101, 114]⟩ : ByteArray) a) else match textT true b with
  | (some x, _) => .wr x
  | (none, l) => if (numberT l).2 = true then .is 0 (intT (numberT l).1) else .wr (compT (⟨#[115, 121, 110, 116, 97, 120, 95, 101, 114, 114, 111, 114]⟩ : ByteArray) [atomT (⟨#[105, 108, 108, 101, 103, 97, 108, 95, 110, 117, 109, 98, 101, 114]⟩ : ByteArray)])
theorem atom_in {w : World} {P : Nat → Prop} {g : Nat} {T : TypeId} {fz : Nat × Nat} (s : ByteArray) (h : w.heap[g]? = some (.cells #[.int .i64 3, .int .i64 0, .string s, .slice none 0 0] T fz)) (hP : P g) : IsSl w P (.slice (some ⟨g, 0, none⟩) 1 1) [atomT s] := by
  refine IsSl.mk' (ts := [atomT s]) fun i hi => ?_
  have h0 : i = 0 := by simp at hi; omega
  subst h0
  exact ⟨g, 0, rfl, hP, TmAt.mk' (a := none) (cap := 0) (cell_of_row w g _ _ _ _ h) (cell_of_row w g _ _ _ _ h) (cell_of_row w g _ _ _ _ h) (cell_of_row w g _ _ _ _ h) (IsSl.nil _ _ none 0)⟩
set_option maxRecDepth 100000 in
set_option maxHeartbeats 4000000 in
theorem tx_number (x y : Tm) (P : Nat → Prop) (w : World) (a : Option Addr) (c : Nat) (h : IsSl w P (.slice a 2 c) [x, y]) (hM : x.size ≤ 1000000) (hM' : y.size ≤ 1000000) (hf : Num.Fit x.n) (hf' : Num.Fit y.n) (hs1 : x.s.size ≤ 100000) (hs2 : y.s.size ≤ 100000) (ht : Num.Tab w) : Calls Tryd.prog 28 #[.agg #[.slice a 2 c]] w (TellsM (numberD x y) P w) := by
  have HTB := Lib.hid ht
  clear ht
  obtain ⟨w1, w2, w3, w4⟩ := two w (.cells #[.slice a 2 c] 59 (0, 0)) (.cells #[.bool false, .slice none 0 0, .slice none 0 0, .int .i64 0, .int .i64 0, .string ⟨#[]⟩, .slice none 0 0] 35 (0, 0))
  have x0 := cell_of_row _ _ 0 _ _ _ w1
  have HR := Lib.hid w2
  have HC := Lib.hid w1
  have HB := Lib.hid w4
  have HZ := Lib.hid w3
  have H := Lib.hid (h.lt2.below w4)
  obtain ⟨b, off, e1, -⟩ := H.out.at 0 (by simp)
  subst e1
  clear h w1 w2 w3 w4
  have HF := Lib.hid (And.intro hf hf')
  clear hf hf'
  go_enter Tryd.func28, Tryd.ntmps28
  go_upto_region 1 with fail
  generalize ((w.alloc (.cells #[.slice (some ⟨b, off, none⟩) 2 c] 59 (0, 0))).alloc (.cells #[.bool false, .slice none 0 0, .slice none 0 0, .int .i64 0, .int .i64 0, .string ⟨#[]⟩, .slice none 0 0] 35 (0, 0))) = W1 at *
  go_cut [3, 4] from 9 to 16 (fun v3 v4 wx => Args2 x y (fun b => P b ∧ b < w.heap.size) W1 v3 v4 wx)
  case first =>
    refine wp_region_rest (by kernel_rfl) ?_
    have hd := (Below.refl W1.heap.size W1).drew
    have hs2 : W1.drew.heap.size = w.heap.size + 2 := HZ.out
    have h0 := H.out.below hd
    have hc2 := (hd.block _ (Array.getElem?_eq_some_iff.1 HC.out).1).trans HC.out
    have HD := Lib.hid hd
    have hlt2 : w.heap.size < W1.drew.heap.size := by rw [hs2]; omega
    clear hs2
    clear x0 HR HC HB H hd HZ
    generalize W1.drew = W2 at *
    have x0 := cell_of_row _ _ 0 _ _ _ hc2
    clear hc2
    obtain ⟨qa, qc, y0, y1, y2, y3, hit, hl1⟩ := (h0.atb 0 (by simp)).read
    obtain ⟨za, zc, z0, z1, z2, z3, hit', hl2⟩ := (h0.atb 1 (by simp)).read
    simp only [List.getElem_cons_zero, List.getElem_cons_succ, Nat.zero_mul, Nat.add_zero, Nat.one_mul] at y0 y1 y2 y3 z0 z1 z2 z3 hit hit'
    have HI1 := Lib.hid hit.args
    have HI2 := Lib.hid hit'.args
    have HQ := Lib.hid (show ∀ b, (P b ∧ b < w.heap.size) → b < W2.heap.size from fun b hb => by have := hb.2; omega)
    clear hit hit' h0
    refine rest_chainP (fun u => Below W2.heap.size W2 u) 0 12 (.soft 0 (.soft 1 (.soft 2 (.soft 3 (.soft 4 (.soft 5 (.soft 6 (.soft 7 (.two 8 9 (.one 9 (.one 10 (.one 11 .nil))) (.one 8 (.one 10 (.one 11 .nil)))))))))))) (.soft _ (.soft _ (.soft _ (.soft _ (.soft _ (.soft _ (.soft _ (.soft _ (.two _ _ (.one _ (.one _ (.one _ .nil))) (.one _ (.one _ (.one _ .nil)))))))))))) ⟨rfl, ⟨rfl, ⟨rfl, ⟨rfl, ⟨rfl, ⟨rfl, ⟨rfl, ⟨rfl, ⟨rfl, rfl, ⟨rfl, ⟨rfl, ⟨rfl, trivial⟩⟩⟩, ⟨rfl, ⟨rfl, ⟨rfl, trivial⟩⟩⟩⟩⟩⟩⟩⟩⟩⟩⟩⟩ (by kernel_rfl) (by kernel_rfl) (by kernel_rfl) (by kernel_rfl) (.inl rfl) (Below.refl _ _) ?_
    refine chainP_soft (a1 := ?ma9) (by kernel_rfl) (by kernel_rfl) ?mh9 ?mr9
    case mh9 =>
      intro u hu E hE
      go_wp2
      rfl
    refine chainP_soft (a1 := ?ma10) (by kernel_rfl) (by kernel_rfl) ?mh10 ?mr10
    case mh10 =>
      intro u hu E hE
      have c0 := (hu.cell (p := ⟨w.heap.size, 0, none⟩) hlt2).trans x0
      go_wp2
      rfl
    refine chainP_soft (a1 := ?ma11) (by kernel_rfl) (by kernel_rfl) ?mh11 ?mr11
    case mh11 =>
      intro u hu E hE
      go_wp2
      rfl
    refine chainP_soft (a1 := ?ma12) (by kernel_rfl) (by kernel_rfl) ?mh12 ?mr12
    case mh12 =>
      intro u hu E hE
      have c0 := (hu.cell (p := ⟨b, off, none⟩) hl1).trans y0
      have c1 := (hu.cell (p := ⟨b, off + 1, none⟩) hl1).trans y1
      have c2 := (hu.cell (p := ⟨b, off + 2, none⟩) hl1).trans y2
      have c3 := (hu.cell (p := ⟨b, off + 3, none⟩) hl1).trans y3
      go_wp2
      rfl
    refine chainP_soft (a1 := ?ma13) (by kernel_rfl) (by kernel_rfl) ?mh13 ?mr13
    case mh13 =>
      intro u hu E hE
      go_wp2
      rfl
    refine chainP_soft (a1 := ?ma14) (by kernel_rfl) (by kernel_rfl) ?mh14 ?mr14
    case mh14 =>
      intro u hu E hE
      have c0 := (hu.cell (p := ⟨w.heap.size, 0, none⟩) hlt2).trans x0
      go_wp2
      rfl
    refine chainP_soft (a1 := ?ma15) (by kernel_rfl) (by kernel_rfl) ?mh15 ?mr15
    case mh15 =>
      intro u hu E hE
      go_wp2
      rfl
    refine chainP_soft (a1 := ?ma16) (by kernel_rfl) (by kernel_rfl) ?mh16 ?mr16
    case mh16 =>
      intro u hu E hE
      have c0 := (hu.cell (p := ⟨b, off + 4, none⟩) hl1).trans z0
      have c1 := (hu.cell (p := ⟨b, off + 4 + 1, none⟩) hl1).trans z1
      have c2 := (hu.cell (p := ⟨b, off + 4 + 2, none⟩) hl1).trans z2
      have c3 := (hu.cell (p := ⟨b, off + 4 + 3, none⟩) hl1).trans z3
      go_wp2
      rfl
    clear x0 y0 y1 y2 y3 z0 z1 z2 z3
    refine chainP_two ?_ ?_
    · intro E hE
      go_wp2
      refine ⟨(Below.refl W2.heap.size W2).alloc (Nat.le_refl _) _, ?_⟩
      refine chainP_one ?_
      intro E hE
      go_wp2
      have HK := Lib.hid (two W2 (.cells #[.int .i64 0, .int .i64 0, .string ⟨#[]⟩, .slice none 0 0] 28 (0, 0)) (.cells #[.int .i64 0, .int .i64 0, .string ⟨#[]⟩, .slice none 0 0] 28 (0, 0)))
      refine ⟨HK.out.2.2.2, ?_⟩
      refine chainP_one ?_
      intro E hE
      go_wp2_with (refine wpList_store_row rfl 28 (.tmp 3) (.tmp 12) rfl W2.heap.size #[.int .i64 x.k, .int .i64 x.n, .string x.s, .slice qa x.args.length qc] rfl rfl _ _ HK.out.1 size_term rfl (one4 _ _ _ _ _ _) ?_)
      refine ⟨(below_row HK.out.2.2.2 (by omega)), ?_⟩
      refine chainP_one ?_
      intro E hE
      go_wp2_with (refine wpList_store_row rfl 28 (.tmp 4) (.tmp 16) rfl (W2.heap.size + 1) #[.int .i64 y.k, .int .i64 y.n, .string y.s, .slice za y.args.length zc] rfl rfl _ _ ((setRow_other _ _ _ _ (by omega)).trans HK.out.2.1) size_term rfl (one4 _ _ _ _ _ _) ?_)
      refine ⟨(below_row (below_row HK.out.2.2.2 (by omega)) (by omega)), ?_⟩
      have HFIN := Lib.hid (args_two (g := W2.heap.size) (g' := (W2.heap.size + 1)) HK.out.2.2.2 (by omega) (by omega) (by omega) HQ.out HK.out.1 HK.out.2.1 (HI1.out.below HK.out.2.2.2) (HI2.out.below HK.out.2.2.2))
      clear HK
      refine chainP_nil (rest_end (by decide) ?_)
      go_wp2
      go_meet
      exact Args2.lift HD.out HFIN.out
    · intro E hE
      go_wp2
      refine ⟨(Below.refl W2.heap.size W2).alloc (Nat.le_refl _) _, ?_⟩
      refine chainP_one ?_
      intro E hE
      go_wp2
      have HK := Lib.hid (two W2 (.cells #[.int .i64 0, .int .i64 0, .string ⟨#[]⟩, .slice none 0 0] 28 (0, 0)) (.cells #[.int .i64 0, .int .i64 0, .string ⟨#[]⟩, .slice none 0 0] 28 (0, 0)))
      refine ⟨HK.out.2.2.2, ?_⟩
      refine chainP_one ?_
      intro E hE
      go_wp2_with (refine wpList_store_row rfl 28 (.tmp 3) (.tmp 12) rfl (W2.heap.size + 1) #[.int .i64 x.k, .int .i64 x.n, .string x.s, .slice qa x.args.length qc] rfl rfl _ _ HK.out.2.1 size_term rfl (one4 _ _ _ _ _ _) ?_)
      refine ⟨(below_row HK.out.2.2.2 (by omega)), ?_⟩
      refine chainP_one ?_
      intro E hE
      go_wp2_with (refine wpList_store_row rfl 28 (.tmp 4) (.tmp 16) rfl W2.heap.size #[.int .i64 y.k, .int .i64 y.n, .string y.s, .slice za y.args.length zc] rfl rfl _ _ ((setRow_other _ _ _ _ (by omega)).trans HK.out.1) size_term rfl (one4 _ _ _ _ _ _) ?_)
      refine ⟨(below_row (below_row HK.out.2.2.2 (by omega)) (by omega)), ?_⟩
      have HFIN := Lib.hid (args_two (g := (W2.heap.size + 1)) (g' := W2.heap.size) HK.out.2.2.2 (by omega) (by omega) (by omega) HQ.out HK.out.2.1 HK.out.1 (HI1.out.below HK.out.2.2.2) (HI2.out.below HK.out.2.2.2))
      clear HK
      refine chainP_nil (rest_end (by decide) ?_)
      go_wp2
      go_meet
      exact Args2.lift HD.out HFIN.out
  case rest =>
    obtain ⟨b3, b4, rfl, rfl, ⟨a3, c3, r3, i3⟩, ⟨a4, c4, r4, i4⟩, hbc⟩ := hcut
    have HR3 := Lib.hid (row_on HR.out hbc)
    have hb3 := HB.out.trans (hbc.mono HB.out.size)
    have hs3 : w.heap.size + 2 ≤ wc.heap.size := by have := HZ.out; have := hbc.size; omega
    have HB3 := Lib.hid hb3
    have HX := Lib.hid (show IsTm wc (fun b => P b ∧ b < w.heap.size ∨ w.heap.size + 2 ≤ b) (.agg #[.int .i64 x.k, .int .i64 x.n, .string x.s, .slice a3 x.args.length c3]) x from (IsTm.mk' i3).imp (fun b hb => Or.inl hb) fun _ _ _ => rfl)
    have HY := Lib.hid (show IsTm wc (fun b => P b ∧ b < w.heap.size ∨ w.heap.size + 2 ≤ b) (.agg #[.int .i64 y.k, .int .i64 y.n, .string y.s, .slice a4 y.args.length c4]) y from (IsTm.mk' i4).imp (fun b hb => Or.inl hb) fun _ _ _ => rfl)
    have HT3 := Lib.hid (HTB.out.on hb3)
    have R3 := Lib.hid r3
    have R4 := Lib.hid r4
    obtain ⟨y0, y1, y2, y3⟩ := row4 r3
    obtain ⟨z0, z1, z2, z3⟩ := row4 r4
    have hl3 := (Array.getElem?_eq_some_iff.1 r3).1
    have hl4 := (Array.getElem?_eq_some_iff.1 r4).1
    clear i3 i4 HR HC HZ H HB hbc x0 hb3 r3 r4 HTB
    by_cases h2 : x.k = 2
    · have c1 : (x.k == 2) = true := by rw [h2]; rfl
      have HK := Lib.hid h2
      have hsn : (⟨(Lib.itoa x.n).toArray⟩ : ByteArray).size ≤ 100000 := by have := Num.itoa_len HF.out.1; show (Lib.itoa x.n).toArray.size ≤ 100000; simp; omega
      have HDD := Lib.hid (show numberD x y = .is 1 (listT (charsT true (Lib.itoa x.n)) nilT) by unfold numberD; rw [if_pos HK.out])
      clear h2
      go_wp2_with (go_at_call 42; refine (Num.go_Print x.n HF.out.1 _ HT3.out).mono ?_; rintro e5 w5 ⟨rfl, hb5⟩; have HR5 := Lib.hid (row_on HR3.out hb5); have HB5 := Lib.hid (HB3.out.trans (hb5.mono HB3.out.size)); have hs5 : w.heap.size + 2 ≤ w5.heap.size := (by have := hb5.size; omega); clear hb5)
      refine (tx_listOf ⟨(Lib.itoa x.n).toArray⟩ true _ hsn).mono ?_
      rintro e6 w6 ⟨v6, rfl, hi6, hb6⟩
      have HR6 := Lib.hid (row_on HR5.out hb6)
      have HB6 := Lib.hid (HB5.out.trans (hb6.mono HB5.out.size))
      have hs6 : w.heap.size + 2 ≤ w6.heap.size := by have := hb6.size; omega
      have HI6 := Lib.hid (hi6.imp (P' := fun b => P b ∧ b < w.heap.size ∨ w.heap.size + 2 ≤ b) (fun b hb => by rcases hb with hb | hb; (· exact hb.elim); (· exact Or.inr (by omega))) fun _ _ _ => rfl)
      obtain ⟨q6, k6, rfl⟩ := hi6.form
      clear hb6 hi6
      go_wp2_with fail
      refine (tx_is 1 _ _ (fun b => P b ∧ b < w.heap.size ∨ w.heap.size + 2 ≤ b) _ HI6.out).mono ?_
      rintro e9 w9 ⟨v9, rfl, hd9, hb9⟩
      obtain ⟨cb, u1, u2, u3, n1, k1, n2, k2, n3, k3, cx, cy, cs, rfl⟩ := hd9.cells
      have HD9 := Lib.hid (hd9.imp (P' := fun b => P b ∧ b < w.heap.size ∨ w.heap.size + 2 ≤ b) (fun b hb => by rcases hb with hb | hb; (· exact hb); (· exact Or.inr (by omega))) (Nat.le_refl _) (fun _ _ _ => rfl))
      have HR9 := Lib.hid (row_on HR6.out hb9)
      have HB9 := Lib.hid (HB6.out.trans (hb9.mono HB6.out.size))
      clear hd9 hb9
      go_wp2_with (with_reducible show wpList _ _ _ (⟨none, .store _ (.tmp 2) _, _, _, _, _⟩ :: _) _ _
                   go_must (refine wpList_store_row rfl 35 (.tmp 2) (.tmp 27) rfl (w.heap.size + 1) #[.bool cb, .slice u1 n1 k1, .slice u2 n2 k2, .int .i64 cx, .int .i64 cy, .string cs, .slice u3 n3 k3] rfl rfl _ _ HR9.out size_did rfl (by simp [Value.oneCell']) ?_))
      have hz := setRow_heap w9 (w.heap.size + 1) _ (#[.bool cb, .slice u1 n1 k1, .slice u2 n2 k2, .int .i64 cx, .int .i64 cy, .string cs, .slice u3 n3 k3] : Array Value) _ _ HR9.out
      rw [HDD.out]
      exact bodyPost_ret (v := .agg #[.bool cb, .slice u1 n1 k1, .slice u2 n2 k2, .int .i64 cx, .int .i64 cy, .string cs, .slice u3 n3 k3]) (results_cell_row Tryd.results28 _ _ (w.heap.size + 1) _ _ _ _ rfl hz Tryd.underlying35 rfl (by kernel_rfl)) rfl ⟨_, rfl, HD9.out.imp (fun _ h => h) (by simp) (fun b hb _ => setRow_other w9 (w.heap.size + 1) b _ (by rcases hb with h | h; (· have := h.2; omega); (· omega))), below_row HB9.out (by omega)⟩
    · have c1 : (x.k == 2) = false := by simpa using h2
      have HK := Lib.hid h2
      clear h2
      by_cases hk1 : x.k = 1
      · have c2 : (x.k == 1) = true := by rw [hk1]; rfl
        have HK1 := Lib.hid hk1
        clear hk1
        go_wp2_with fail
        refine (tx_textOf y true _ _ _ hM' HY.out).mono ?_
        rintro e6 w6 ⟨v6, rfl, hi6, hb6⟩
        have HR6 := Lib.hid (row_on HR3.out hb6)
        have HB6 := Lib.hid (HB3.out.trans (hb6.mono HB3.out.size))
        have hs6 : w.heap.size + 2 ≤ w6.heap.size := by have := hb6.size; omega
        have hi6' := hi6.imp (P' := fun b => P b ∧ b < w.heap.size ∨ w.heap.size + 2 ≤ b) (fun b hb => by rcases hb with hb | hb; (· exact Or.inr (by omega)); (· exact hb.1)) fun _ _ _ => rfl
        clear hb6 hi6
        cases hr : textT true y with
        | mk bo l =>
        rw [hr] at hi6'
        have hll := textT_len hr
        cases bo with
        | some bx =>
          have hbk := textT_some hr
          have HDD := Lib.hid (show numberD x y = .wr bx by unfold numberD; rw [if_neg HK.out, if_neg (fun h => h HK1.out), hr])
          obtain ⟨bq, bc, e7⟩ := hi6'.form
          have e7' : v6 = .agg #[.int .i64 bx.k, .int .i64 bx.n, .string bx.s, .slice bq bx.args.length bc] := e7
          clear e7
          subst e7'
          have hbt := (Below.refl w6.heap.size w6).alloc (Nat.le_refl _) (.cells #[.int .i64 bx.k, .int .i64 bx.n, .string bx.s, .slice bq bx.args.length bc] 28 (0, 0))
          have HBX := Lib.hid (show IsTm _ (fun b => P b ∧ b < w.heap.size ∨ w.heap.size + 2 ≤ b) (.agg #[.int .i64 bx.k, .int .i64 bx.n, .string bx.s, .slice bq bx.args.length bc]) bx from hi6'.below hbt)
          have HBF := Lib.hid (HB6.out.trans (hbt.mono HB6.out.size))
          have HRF := Lib.hid (row_on HR6.out hbt)
          have c3 : (bx.k != 0) = true := by simpa using hbk
          clear hr hbk hi6' hbt y0 y1 y2 y3 z0 z1 z2 z3
          go_wp2_with (with_reducible show wpList _ _ _ (⟨none, .store _ (.tmp 2) _, _, _, _, _⟩ :: _) _ _
                       go_must (refine wpList_store_row rfl 35 (.tmp 2) (.tmp 39) rfl (w.heap.size + 1) #[.bool false, .slice none 0 0, .slice none 0 0, .int .i64 bx.k, .int .i64 bx.n, .string bx.s, .slice bq bx.args.length bc] rfl (by kernel_rfl) _ _ HRF.out size_did rfl (by simp [Value.oneCell']) ?_))
          have hz := setRow_heap _ (w.heap.size + 1) _ (#[.bool false, .slice none 0 0, .slice none 0 0, .int .i64 bx.k, .int .i64 bx.n, .string bx.s, .slice bq bx.args.length bc] : Array Value) _ _ HRF.out
          rw [HDD.out]
          exact bodyPost_ret (v := .agg #[.bool false, .slice none 0 0, .slice none 0 0, .int .i64 bx.k, .int .i64 bx.n, .string bx.s, .slice bq bx.args.length bc]) (results_cell_row Tryd.results28 _ _ (w.heap.size + 1) _ _ _ _ rfl hz Tryd.underlying35 rfl (by kernel_rfl)) rfl ⟨_, rfl, ⟨bq, bc, rfl, HBX.out.imp (fun _ h => h) (fun b hb _ => setRow_other _ (w.heap.size + 1) b _ (by rcases hb with h | h; (· have := h.2; omega); (· omega)))⟩, below_row HBF.out (by omega)⟩
        | none =>
          obtain ⟨bq, bc, e7⟩ := hi6'.form
          have e7' : v6 = .agg #[.int .i64 0, .int .i64 0, .string ⟨#[]⟩, .slice bq 0 bc] := e7
          clear e7
          subst e7'
          have hbt := (Below.refl w6.heap.size w6).alloc (Nat.le_refl _) (.cells #[.int .i64 0, .int .i64 0, .string ⟨#[]⟩, .slice bq 0 bc] 28 (0, 0))
          have HBF := Lib.hid (HB6.out.trans (hbt.mono HB6.out.size))
          have HRF := Lib.hid (row_on HR6.out hbt)
          have hsF : w.heap.size + 2 ≤ (w6.alloc (.cells #[.int .i64 0, .int .i64 0, .string ⟨#[]⟩, .slice bq 0 bc] 28 (0, 0))).heap.size := by simp; omega
          have HR := Lib.hid hr
          have hll2 : (⟨l.toArray⟩ : ByteArray).size ≤ 1000000 := by show l.toArray.size ≤ _; simp; omega
          simp only []
          clear hr hi6' hbt y0 y1 y2 y3 z0 z1 z2 z3
          go_wp2_with fail
          generalize (w6.alloc (.cells #[.int .i64 0, .int .i64 0, .string ⟨#[]⟩, .slice bq 0 bc] 28 (0, 0))) = w5 at *
          refine (tx_numberOf ⟨l.toArray⟩ hll2 w5).mono ?_
          rintro e7 w7 ⟨rfl, hb7⟩
          have HR7 := Lib.hid (row_on HRF.out hb7)
          have HB7 := Lib.hid (HBF.out.trans (hb7.mono HBF.out.size))
          have hs7 : w.heap.size + 2 ≤ w7.heap.size := by have := hb7.size; omega
          clear hb7
          rw [show (⟨l.toArray⟩ : ByteArray).data.toList = l from by simp]
          by_cases hok : (numberT l).2 = true
          · have HOK := Lib.hid hok
            rw [hok]
            have HDD := Lib.hid (show numberD x y = .is 0 (intT (numberT l).1) by unfold numberD; rw [if_neg HK.out, if_neg (fun h => h HK1.out), HR.out]; simp only []; rw [if_pos HOK.out])
            clear hok
            go_wp2_with fail
            refine (tx_whole _ _).mono ?_
            rintro e8 w8 ⟨rfl, hb8⟩
            have HR8 := Lib.hid (row_on HR7.out hb8)
            have HB8 := Lib.hid (HB7.out.trans (hb8.mono HB7.out.size))
            have hs8 : w.heap.size + 2 ≤ w8.heap.size := by have := hb8.size; omega
            clear hb8
            go_wp2_with fail
            refine (tx_is 0 (intT (numberT l).1) _ (fun b => P b ∧ b < w.heap.size ∨ w.heap.size + 2 ≤ b) _ (int_is _ _ _)).mono ?_
            rintro e9 w9 ⟨v9, rfl, hd9, hb9⟩
            obtain ⟨cb, u1, u2, u3, n1, k1, n2, k2, n3, k3, cx, cy, cs, rfl⟩ := hd9.cells
            have HD9 := Lib.hid (hd9.imp (P' := fun b => P b ∧ b < w.heap.size ∨ w.heap.size + 2 ≤ b) (fun b hb => by rcases hb with hb | hb; (· exact hb); (· exact Or.inr (by omega))) (Nat.le_refl _) (fun _ _ _ => rfl))
            have HR9 := Lib.hid (row_on HR8.out hb9)
            have HB9 := Lib.hid (HB8.out.trans (hb9.mono HB8.out.size))
            clear hd9 hb9
            go_wp2_with (with_reducible show wpList _ _ _ (⟨none, .store _ (.tmp 2) _, _, _, _, _⟩ :: _) _ _
                         go_must (refine wpList_store_row rfl 35 (.tmp 2) (.tmp 53) rfl (w.heap.size + 1) #[.bool cb, .slice u1 n1 k1, .slice u2 n2 k2, .int .i64 cx, .int .i64 cy, .string cs, .slice u3 n3 k3] rfl rfl _ _ HR9.out size_did rfl (by simp [Value.oneCell']) ?_))
            have hz := setRow_heap w9 (w.heap.size + 1) _ (#[.bool cb, .slice u1 n1 k1, .slice u2 n2 k2, .int .i64 cx, .int .i64 cy, .string cs, .slice u3 n3 k3] : Array Value) _ _ HR9.out
            rw [HDD.out]
            exact bodyPost_ret (v := .agg #[.bool cb, .slice u1 n1 k1, .slice u2 n2 k2, .int .i64 cx, .int .i64 cy, .string cs, .slice u3 n3 k3]) (results_cell_row Tryd.results28 _ _ (w.heap.size + 1) _ _ _ _ rfl hz Tryd.underlying35 rfl (by kernel_rfl)) rfl ⟨_, rfl, HD9.out.imp (fun _ h => h) (by simp) (fun b hb _ => setRow_other w9 (w.heap.size + 1) b _ (by rcases hb with h | h; (· have := h.2; omega); (· omega))), below_row HB9.out (by omega)⟩
          · have hok' : (numberT l).2 = false := by simpa using hok
            have HOK := Lib.hid hok
            rw [hok']
            have HDD := Lib.hid (show numberD x y = .wr (compT (⟨#[115, 121, 110, 116, 97, 120, 95, 101, 114, 114, 111, 114]⟩ : ByteArray) [atomT (⟨#[105, 108, 108, 101, 103, 97, 108, 95, 110, 117, 109, 98, 101, 114]⟩ : ByteArray)]) by unfold numberD; rw [if_neg HK.out, if_neg (fun h => h HK1.out), HR.out]; simp only []; rw [if_neg HOK.out])
            clear hok hok'
            go_wp2_with fail
            refine (tx_atom _ _).mono ?_
            rintro e8 w8 ⟨rfl, hb8⟩
            have HR8 := Lib.hid (row_on HR7.out hb8)
            have HB8 := Lib.hid (HB7.out.trans (hb8.mono HB7.out.size))
            have hs8 : w.heap.size + 2 ≤ w8.heap.size := by have := hb8.size; omega
            clear hb8
            have hbt := (Below.refl w8.heap.size w8).alloc (Nat.le_refl _) (.cells #[.int .i64 3, .int .i64 0, .string (⟨#[105, 108, 108, 101, 103, 97, 108, 95, 110, 117, 109, 98, 101, 114]⟩ : ByteArray), .slice none 0 0] 28 (0, 0))
            have HIA := Lib.hid (atom_in (P := fun b => P b ∧ b < w.heap.size ∨ w.heap.size + 2 ≤ b) (⟨#[105, 108, 108, 101, 103, 97, 108, 95, 110, 117, 109, 98, 101, 114]⟩ : ByteArray) (heap_alloc_new w8 (.cells #[.int .i64 3, .int .i64 0, .string (⟨#[105, 108, 108, 101, 103, 97, 108, 95, 110, 117, 109, 98, 101, 114]⟩ : ByteArray), .slice none 0 0] 28 (0, 0))) (Or.inr hs8))
            have HRG := Lib.hid (row_on HR8.out hbt)
            have HBG := Lib.hid (HB8.out.trans (hbt.mono HB8.out.size))
            clear hbt
            have HBX := Lib.hid (show IsTm _ (fun b => P b ∧ b < w.heap.size ∨ w.heap.size + 2 ≤ b) (.agg #[.int .i64 4, .int .i64 0, .string (⟨#[115, 121, 110, 116, 97, 120, 95, 101, 114, 114, 111, 114]⟩ : ByteArray), .slice (some ⟨w8.heap.size, 0, none⟩) 1 1]) (compT (⟨#[115, 121, 110, 116, 97, 120, 95, 101, 114, 114, 111, 114]⟩ : ByteArray) [atomT (⟨#[105, 108, 108, 101, 103, 97, 108, 95, 110, 117, 109, 98, 101, 114]⟩ : ByteArray)]) from IsTm.mk' (t := compT (⟨#[115, 121, 110, 116, 97, 120, 95, 101, 114, 114, 111, 114]⟩ : ByteArray) [atomT (⟨#[105, 108, 108, 101, 103, 97, 108, 95, 110, 117, 109, 98, 101, 114]⟩ : ByteArray)]) HIA.out)
            go_wp2_with (with_reducible show wpList _ _ _ (⟨none, .store _ (.tmp 2) _, _, _, _, _⟩ :: _) _ _
                         go_must (refine wpList_store_row rfl 35 (.tmp 2) (.tmp 50) rfl (w.heap.size + 1) #[.bool false, .slice none 0 0, .slice none 0 0, .int .i64 4, .int .i64 0, .string (⟨#[115, 121, 110, 116, 97, 120, 95, 101, 114, 114, 111, 114]⟩ : ByteArray), .slice (some ⟨w8.heap.size, 0, none⟩) 1 1] rfl (by kernel_rfl) _ _ HRG.out size_did rfl (by simp [Value.oneCell']) ?_))
            have hz := setRow_heap _ (w.heap.size + 1) _ (#[.bool false, .slice none 0 0, .slice none 0 0, .int .i64 4, .int .i64 0, .string (⟨#[115, 121, 110, 116, 97, 120, 95, 101, 114, 114, 111, 114]⟩ : ByteArray), .slice (some ⟨w8.heap.size, 0, none⟩) 1 1] : Array Value) _ _ HRG.out
            rw [HDD.out]
            exact bodyPost_ret (v := .agg #[.bool false, .slice none 0 0, .slice none 0 0, .int .i64 4, .int .i64 0, .string (⟨#[115, 121, 110, 116, 97, 120, 95, 101, 114, 114, 111, 114]⟩ : ByteArray), .slice (some ⟨w8.heap.size, 0, none⟩) 1 1]) (results_cell_row Tryd.results28 _ _ (w.heap.size + 1) _ _ _ _ rfl hz Tryd.underlying35 rfl (by kernel_rfl)) rfl ⟨_, rfl, ⟨some ⟨w8.heap.size, 0, none⟩, 1, rfl, HBX.out.imp (fun _ h => h) (fun b hb _ => setRow_other _ (w.heap.size + 1) b _ (by rcases hb with h | h; (· have := h.2; omega); (· omega)))⟩, below_row HBG.out (by omega)⟩
      · have c2 : (x.k == 1) = false := by simpa using hk1
        have HK1 := Lib.hid hk1
        clear hk1
        have HDD := Lib.hid (show numberD x y = .wr (formalE 13 (⟨#[105, 110, 116, 101, 103, 101, 114]⟩ : ByteArray) x) by unfold numberD; rw [if_neg HK.out, if_pos HK1.out])
        go_wp2_with fail
        refine (tx_wrong 13 (⟨#[105, 110, 116, 101, 103, 101, 114]⟩ : ByteArray) x _ (fun b => P b ∧ b < w.heap.size ∨ w.heap.size + 2 ≤ b) _ (by omega) HX.out).mono ?_
        rintro e9 w9 ⟨v9, rfl, hd9, hb9⟩
        obtain ⟨cb, u1, u2, u3, n1, k1, n2, k2, n3, k3, cx, cy, cs, rfl⟩ := hd9.cells
        have HD9 := Lib.hid (hd9.imp (P' := fun b => P b ∧ b < w.heap.size ∨ w.heap.size + 2 ≤ b) (fun b hb => by rcases hb with hb | hb; (· exact hb); (· exact Or.inr (by omega))) (Nat.le_refl _) (fun _ _ _ => rfl))
        have HR9 := Lib.hid (row_on HR3.out hb9)
        have HB9 := Lib.hid (HB3.out.trans (hb9.mono HB3.out.size))
        clear hd9 hb9
        go_wp2_with (with_reducible show wpList _ _ _ (⟨none, .store _ (.tmp 2) _, _, _, _, _⟩ :: _) _ _
                     go_must (refine wpList_store_row rfl 35 (.tmp 2) (.tmp 20) rfl (w.heap.size + 1) #[.bool cb, .slice u1 n1 k1, .slice u2 n2 k2, .int .i64 cx, .int .i64 cy, .string cs, .slice u3 n3 k3] rfl rfl _ _ HR9.out size_did rfl (by simp [Value.oneCell']) ?_))
        have hz := setRow_heap w9 (w.heap.size + 1) _ (#[.bool cb, .slice u1 n1 k1, .slice u2 n2 k2, .int .i64 cx, .int .i64 cy, .string cs, .slice u3 n3 k3] : Array Value) _ _ HR9.out
        rw [HDD.out]
        exact bodyPost_ret (v := .agg #[.bool cb, .slice u1 n1 k1, .slice u2 n2 k2, .int .i64 cx, .int .i64 cy, .string cs, .slice u3 n3 k3]) (results_cell_row Tryd.results28 _ _ (w.heap.size + 1) _ _ _ _ rfl hz Tryd.underlying35 rfl (by kernel_rfl)) rfl ⟨_, rfl, HD9.out.imp (fun _ h => h) (by simp) (fun b hb _ => setRow_other w9 (w.heap.size + 1) b _ (by rcases hb with h | h; (· have := h.2; omega); (· omega))), below_row HB9.out (by omega)⟩
end Go.Proofs.YtkhchmgdaolojaaDoor.Tms
namespace Go.Proofs.YtkhchmgdaolojaaDoor.Tms
open Go Go.RowKit Go.Proofs.YtkhchmgdaolojaaDoor.Reg Go.Proofs.YtkhchmgdaolojaaDoor.Rws Go.Proofs.YtkhchmgdaolojaaDoor.Maps Go.Instr
set_option linter.unusedVariables false
set_option linter.unusedSimpArgs false

/-- atom_concat -/
def concatD (a b t : Tm) : Dd := if a.k = 1 ∨ b.k = 1 then .wr (formalE 12 ⟨#[]⟩ a) else match nameT a, nameT b with
  | none, _ => .wr (formalE 13 (⟨#[97, 116, 111, 109, 105, 99]⟩ : ByteArray) a)
  | some _, none => .wr (formalE 13 (⟨#[97, 116, 111, 109, 105, 99]⟩ : ByteArray) b)
  | some x, some y => if t.k ≠ 1 ∧ nameT t = none then .wr (formalE 13 (⟨#[97, 116, 111, 109, 105, 99]⟩ : ByteArray) t) else if 1000 < x.size + y.size then .wr (formalE 3 (⟨#[109, 97, 120, 95, 97, 116, 111, 109, 95, 108, 101, 110, 103, 116, 104]⟩ : ByteArray) t) else .is 2 (atomT (x ++ y))
set_option maxRecDepth 100000 in
set_option maxHeartbeats 4000000 in
theorem tx_concat (x y z : Tm) (P : Nat → Prop) (w : World) (a : Option Addr) (c : Nat) (h : IsSl w P (.slice a 3 c) [x, y, z]) (hM : x.size ≤ 1000000) (hM' : y.size ≤ 1000000) (hM'' : z.size ≤ 1000000) (hf : Num.Fit x.n) (hf' : Num.Fit y.n) (hf'' : Num.Fit z.n) (hs1 : x.s.size ≤ 100000) (hs2 : y.s.size ≤ 100000) (ht : Num.Tab w) : Calls Tryd.prog 29 #[.agg #[.slice a 3 c]] w (TellsM (concatD x y z) P w) := by
  have HTB := Lib.hid ht
  clear ht
  obtain ⟨w1, w2, w3, w4⟩ := two w (.cells #[.slice a 3 c] 59 (0, 0)) (.cells #[.bool false, .slice none 0 0, .slice none 0 0, .int .i64 0, .int .i64 0, .string ⟨#[]⟩, .slice none 0 0] 35 (0, 0))
  have x0 := cell_of_row _ _ 0 _ _ _ w1
  have HR := Lib.hid w2
  have HC := Lib.hid w1
  have HB := Lib.hid w4
  have HZ := Lib.hid w3
  have H := Lib.hid (h.lt2.below w4)
  obtain ⟨b, off, e1, -⟩ := H.out.at 0 (by simp)
  subst e1
  clear h w1 w2 w3 w4
  have HF := Lib.hid (And.intro hf (And.intro hf' hf''))
  clear hf hf' hf''
  go_enter Tryd.func29, Tryd.ntmps29
  go_upto_region 1 with fail
  generalize ((w.alloc (.cells #[.slice (some ⟨b, off, none⟩) 3 c] 59 (0, 0))).alloc (.cells #[.bool false, .slice none 0 0, .slice none 0 0, .int .i64 0, .int .i64 0, .string ⟨#[]⟩, .slice none 0 0] 35 (0, 0))) = W1 at *
  go_cut [3, 4, 5] from 12 to 23 (fun v3 v4 v5 wx => Args3 x y z (fun b => P b ∧ b < w.heap.size) W1 v3 v4 v5 wx)
  case first =>
    refine wp_region_rest (by kernel_rfl) ?_
    have hd := (Below.refl W1.heap.size W1).drew
    have hs2 : W1.drew.heap.size = w.heap.size + 2 := HZ.out
    have h0 := H.out.below hd
    have hc2 := (hd.block _ (Array.getElem?_eq_some_iff.1 HC.out).1).trans HC.out
    have HD := Lib.hid hd
    have hlt2 : w.heap.size < W1.drew.heap.size := by rw [hs2]; omega
    clear hs2
    clear x0 HR HC HB H hd HZ
    generalize W1.drew = W2 at *
    have x0 := cell_of_row _ _ 0 _ _ _ hc2
    clear hc2
    obtain ⟨qa, qc, y0, y1, y2, y3, hit, hl1⟩ := (h0.atb 0 (by simp)).read
    obtain ⟨za, zc, z0, z1, z2, z3, hit', hl2⟩ := (h0.atb 1 (by simp)).read
    obtain ⟨va, vc, t0, t1, t2, t3, hit'', hl3⟩ := (h0.atb 2 (by simp)).read
    simp only [List.getElem_cons_zero, List.getElem_cons_succ, Nat.zero_mul, Nat.add_zero, Nat.one_mul] at y0 y1 y2 y3 z0 z1 z2 z3 hit hit' t0 t1 t2 t3 hit''
    have HI1 := Lib.hid hit.args
    have HI2 := Lib.hid hit'.args
    have HI3 := Lib.hid hit''.args
    have HQ := Lib.hid (show ∀ b, (P b ∧ b < w.heap.size) → b < W2.heap.size from fun b hb => by have := hb.2; omega)
    clear hit hit' h0 hit''
    refine rest_chainP (fun u => Below W2.heap.size W2 u) 0 18 (.soft 0 (.soft 1 (.soft 2 (.soft 3 (.soft 4 (.soft 5 (.soft 6 (.soft 7 (.soft 8 (.soft 9 (.soft 10 (.soft 11 (.three 12 13 14 (.two 13 14 (.one 14 (.one 15 (.one 16 (.one 17 .nil)))) (.one 13 (.one 15 (.one 16 (.one 17 .nil))))) (.two 12 14 (.one 14 (.one 15 (.one 16 (.one 17 .nil)))) (.one 12 (.one 15 (.one 16 (.one 17 .nil))))) (.two 12 13 (.one 13 (.one 15 (.one 16 (.one 17 .nil)))) (.one 12 (.one 15 (.one 16 (.one 17 .nil)))))))))))))))))) (.soft _ (.soft _ (.soft _ (.soft _ (.soft _ (.soft _ (.soft _ (.soft _ (.soft _ (.soft _ (.soft _ (.soft _ (.three _ _ _ (.two _ _ (.one _ (.one _ (.one _ (.one _ .nil)))) (.one _ (.one _ (.one _ (.one _ .nil))))) (.two _ _ (.one _ (.one _ (.one _ (.one _ .nil)))) (.one _ (.one _ (.one _ (.one _ .nil))))) (.two _ _ (.one _ (.one _ (.one _ (.one _ .nil)))) (.one _ (.one _ (.one _ (.one _ .nil)))))))))))))))))) ⟨rfl, ⟨rfl, ⟨rfl, ⟨rfl, ⟨rfl, ⟨rfl, ⟨rfl, ⟨rfl, ⟨rfl, ⟨rfl, ⟨rfl, ⟨rfl, ⟨rfl, rfl, rfl, ⟨rfl, rfl, ⟨rfl, ⟨rfl, ⟨rfl, ⟨rfl, trivial⟩⟩⟩⟩, ⟨rfl, ⟨rfl, ⟨rfl, ⟨rfl, trivial⟩⟩⟩⟩⟩, ⟨rfl, rfl, ⟨rfl, ⟨rfl, ⟨rfl, ⟨rfl, trivial⟩⟩⟩⟩, ⟨rfl, ⟨rfl, ⟨rfl, ⟨rfl, trivial⟩⟩⟩⟩⟩, ⟨rfl, rfl, ⟨rfl, ⟨rfl, ⟨rfl, ⟨rfl, trivial⟩⟩⟩⟩, ⟨rfl, ⟨rfl, ⟨rfl, ⟨rfl, trivial⟩⟩⟩⟩⟩⟩⟩⟩⟩⟩⟩⟩⟩⟩⟩⟩⟩⟩ (by kernel_rfl) (by kernel_rfl) (by kernel_rfl) (by kernel_rfl) (.inl rfl) (Below.refl _ _) ?_
    refine chainP_soft (a1 := ?ma17) (by kernel_rfl) (by kernel_rfl) ?mh17 ?mr17
    case mh17 =>
      intro u hu E hE
      go_wp2
      rfl
    refine chainP_soft (a1 := ?ma18) (by kernel_rfl) (by kernel_rfl) ?mh18 ?mr18
    case mh18 =>
      intro u hu E hE
      have c0 := (hu.cell (p := ⟨w.heap.size, 0, none⟩) hlt2).trans x0
      go_wp2
      rfl
    refine chainP_soft (a1 := ?ma19) (by kernel_rfl) (by kernel_rfl) ?mh19 ?mr19
    case mh19 =>
      intro u hu E hE
      go_wp2
      rfl
    refine chainP_soft (a1 := ?ma20) (by kernel_rfl) (by kernel_rfl) ?mh20 ?mr20
    case mh20 =>
      intro u hu E hE
      have c0 := (hu.cell (p := ⟨b, off, none⟩) hl1).trans y0
      have c1 := (hu.cell (p := ⟨b, off + 1, none⟩) hl1).trans y1
      have c2 := (hu.cell (p := ⟨b, off + 2, none⟩) hl1).trans y2
      have c3 := (hu.cell (p := ⟨b, off + 3, none⟩) hl1).trans y3
      go_wp2
      rfl
    refine chainP_soft (a1 := ?ma21) (by kernel_rfl) (by kernel_rfl) ?mh21 ?mr21
    case mh21 =>
      intro u hu E hE
      go_wp2
      rfl
    refine chainP_soft (a1 := ?ma22) (by kernel_rfl) (by kernel_rfl) ?mh22 ?mr22
    case mh22 =>
      intro u hu E hE
      have c0 := (hu.cell (p := ⟨w.heap.size, 0, none⟩) hlt2).trans x0
      go_wp2
      rfl
    refine chainP_soft (a1 := ?ma23) (by kernel_rfl) (by kernel_rfl) ?mh23 ?mr23
    case mh23 =>
      intro u hu E hE
      go_wp2
      rfl
    refine chainP_soft (a1 := ?ma24) (by kernel_rfl) (by kernel_rfl) ?mh24 ?mr24
    case mh24 =>
      intro u hu E hE
      have c0 := (hu.cell (p := ⟨b, off + 4, none⟩) hl1).trans z0
      have c1 := (hu.cell (p := ⟨b, off + 4 + 1, none⟩) hl1).trans z1
      have c2 := (hu.cell (p := ⟨b, off + 4 + 2, none⟩) hl1).trans z2
      have c3 := (hu.cell (p := ⟨b, off + 4 + 3, none⟩) hl1).trans z3
      go_wp2
      rfl
    refine chainP_soft (a1 := ?ma25) (by kernel_rfl) (by kernel_rfl) ?mh25 ?mr25
    case mh25 =>
      intro u hu E hE
      go_wp2
      rfl
    refine chainP_soft (a1 := ?ma26) (by kernel_rfl) (by kernel_rfl) ?mh26 ?mr26
    case mh26 =>
      intro u hu E hE
      have c0 := (hu.cell (p := ⟨w.heap.size, 0, none⟩) hlt2).trans x0
      go_wp2
      rfl
    refine chainP_soft (a1 := ?ma27) (by kernel_rfl) (by kernel_rfl) ?mh27 ?mr27
    case mh27 =>
      intro u hu E hE
      go_wp2
      rfl
    refine chainP_soft (a1 := ?ma28) (by kernel_rfl) (by kernel_rfl) ?mh28 ?mr28
    case mh28 =>
      intro u hu E hE
      have c0 := (hu.cell (p := ⟨b, off + 2 * 4, none⟩) hl1).trans t0
      have c1 := (hu.cell (p := ⟨b, off + 2 * 4 + 1, none⟩) hl1).trans t1
      have c2 := (hu.cell (p := ⟨b, off + 2 * 4 + 2, none⟩) hl1).trans t2
      have c3 := (hu.cell (p := ⟨b, off + 2 * 4 + 3, none⟩) hl1).trans t3
      go_wp2
      rfl
    clear x0 y0 y1 y2 y3 z0 z1 z2 z3 t0 t1 t2 t3
    refine chainP_three ?_ ?_ ?_
    · intro E hE
      go_wp2
      refine ⟨(Below.refl W2.heap.size W2).alloc (Nat.le_refl _) _, ?_⟩
      refine chainP_two ?_ ?_
      · intro E hE
        go_wp2
        refine ⟨(two W2 (.cells #[.int .i64 0, .int .i64 0, .string ⟨#[]⟩, .slice none 0 0] 28 (0, 0)) (.cells #[.int .i64 0, .int .i64 0, .string ⟨#[]⟩, .slice none 0 0] 28 (0, 0))).2.2.2, ?_⟩
        refine chainP_one ?_
        intro E hE
        go_wp2
        have HK := Lib.hid (three W2 (.cells #[.int .i64 0, .int .i64 0, .string ⟨#[]⟩, .slice none 0 0] 28 (0, 0)) (.cells #[.int .i64 0, .int .i64 0, .string ⟨#[]⟩, .slice none 0 0] 28 (0, 0)) (.cells #[.int .i64 0, .int .i64 0, .string ⟨#[]⟩, .slice none 0 0] 28 (0, 0)))
        refine ⟨HK.out.2.2.2, ?_⟩
        refine chainP_one ?_
        intro E hE
        go_wp2_with (refine wpList_store_row rfl 28 (.tmp 3) (.tmp 15) rfl W2.heap.size #[.int .i64 x.k, .int .i64 x.n, .string x.s, .slice qa x.args.length qc] rfl rfl _ _ HK.out.1 size_term rfl (one4 _ _ _ _ _ _) ?_)
        refine ⟨(below_row HK.out.2.2.2 (by omega)), ?_⟩
        refine chainP_one ?_
        intro E hE
        go_wp2_with (refine wpList_store_row rfl 28 (.tmp 4) (.tmp 19) rfl (W2.heap.size + 1) #[.int .i64 y.k, .int .i64 y.n, .string y.s, .slice za y.args.length zc] rfl rfl _ _ ((setRow_other _ _ _ _ (by omega)).trans HK.out.2.1) size_term rfl (one4 _ _ _ _ _ _) ?_)
        refine ⟨(below_row (below_row HK.out.2.2.2 (by omega)) (by omega)), ?_⟩
        refine chainP_one ?_
        intro E hE
        go_wp2_with (refine wpList_store_row rfl 28 (.tmp 5) (.tmp 23) rfl (W2.heap.size + 2) #[.int .i64 z.k, .int .i64 z.n, .string z.s, .slice va z.args.length vc] rfl rfl _ _ ((setRow_other _ _ _ _ (by omega)).trans ((setRow_other _ _ _ _ (by omega)).trans HK.out.2.2.1)) size_term rfl (one4 _ _ _ _ _ _) ?_)
        refine ⟨(below_row (below_row (below_row HK.out.2.2.2 (by omega)) (by omega)) (by omega)), ?_⟩
        have HFIN := Lib.hid (args_three (g := W2.heap.size) (g' := (W2.heap.size + 1)) (g'' := (W2.heap.size + 2)) HK.out.2.2.2 (by omega) (by omega) (by omega) (by omega) (by omega) (by omega) HQ.out HK.out.1 HK.out.2.1 HK.out.2.2.1 (HI1.out.below HK.out.2.2.2) (HI2.out.below HK.out.2.2.2) (HI3.out.below HK.out.2.2.2))
        clear HK
        refine chainP_nil (rest_end (by decide) ?_)
        go_wp2
        go_meet
        exact Args3.lift HD.out HFIN.out
      · intro E hE
        go_wp2
        refine ⟨(two W2 (.cells #[.int .i64 0, .int .i64 0, .string ⟨#[]⟩, .slice none 0 0] 28 (0, 0)) (.cells #[.int .i64 0, .int .i64 0, .string ⟨#[]⟩, .slice none 0 0] 28 (0, 0))).2.2.2, ?_⟩
        refine chainP_one ?_
        intro E hE
        go_wp2
        have HK := Lib.hid (three W2 (.cells #[.int .i64 0, .int .i64 0, .string ⟨#[]⟩, .slice none 0 0] 28 (0, 0)) (.cells #[.int .i64 0, .int .i64 0, .string ⟨#[]⟩, .slice none 0 0] 28 (0, 0)) (.cells #[.int .i64 0, .int .i64 0, .string ⟨#[]⟩, .slice none 0 0] 28 (0, 0)))
        refine ⟨HK.out.2.2.2, ?_⟩
        refine chainP_one ?_
        intro E hE
        go_wp2_with (refine wpList_store_row rfl 28 (.tmp 3) (.tmp 15) rfl W2.heap.size #[.int .i64 x.k, .int .i64 x.n, .string x.s, .slice qa x.args.length qc] rfl rfl _ _ HK.out.1 size_term rfl (one4 _ _ _ _ _ _) ?_)
        refine ⟨(below_row HK.out.2.2.2 (by omega)), ?_⟩
        refine chainP_one ?_
        intro E hE
        go_wp2_with (refine wpList_store_row rfl 28 (.tmp 4) (.tmp 19) rfl (W2.heap.size + 2) #[.int .i64 y.k, .int .i64 y.n, .string y.s, .slice za y.args.length zc] rfl rfl _ _ ((setRow_other _ _ _ _ (by omega)).trans HK.out.2.2.1) size_term rfl (one4 _ _ _ _ _ _) ?_)
        refine ⟨(below_row (below_row HK.out.2.2.2 (by omega)) (by omega)), ?_⟩
        refine chainP_one ?_
        intro E hE
        go_wp2_with (refine wpList_store_row rfl 28 (.tmp 5) (.tmp 23) rfl (W2.heap.size + 1) #[.int .i64 z.k, .int .i64 z.n, .string z.s, .slice va z.args.length vc] rfl rfl _ _ ((setRow_other _ _ _ _ (by omega)).trans ((setRow_other _ _ _ _ (by omega)).trans HK.out.2.1)) size_term rfl (one4 _ _ _ _ _ _) ?_)
        refine ⟨(below_row (below_row (below_row HK.out.2.2.2 (by omega)) (by omega)) (by omega)), ?_⟩
        have HFIN := Lib.hid (args_three (g := W2.heap.size) (g' := (W2.heap.size + 2)) (g'' := (W2.heap.size + 1)) HK.out.2.2.2 (by omega) (by omega) (by omega) (by omega) (by omega) (by omega) HQ.out HK.out.1 HK.out.2.2.1 HK.out.2.1 (HI1.out.below HK.out.2.2.2) (HI2.out.below HK.out.2.2.2) (HI3.out.below HK.out.2.2.2))
        clear HK
        refine chainP_nil (rest_end (by decide) ?_)
        go_wp2
        go_meet
        exact Args3.lift HD.out HFIN.out
    · intro E hE
      go_wp2
      refine ⟨(Below.refl W2.heap.size W2).alloc (Nat.le_refl _) _, ?_⟩
      refine chainP_two ?_ ?_
      · intro E hE
        go_wp2
        refine ⟨(two W2 (.cells #[.int .i64 0, .int .i64 0, .string ⟨#[]⟩, .slice none 0 0] 28 (0, 0)) (.cells #[.int .i64 0, .int .i64 0, .string ⟨#[]⟩, .slice none 0 0] 28 (0, 0))).2.2.2, ?_⟩
        refine chainP_one ?_
        intro E hE
        go_wp2
        have HK := Lib.hid (three W2 (.cells #[.int .i64 0, .int .i64 0, .string ⟨#[]⟩, .slice none 0 0] 28 (0, 0)) (.cells #[.int .i64 0, .int .i64 0, .string ⟨#[]⟩, .slice none 0 0] 28 (0, 0)) (.cells #[.int .i64 0, .int .i64 0, .string ⟨#[]⟩, .slice none 0 0] 28 (0, 0)))
        refine ⟨HK.out.2.2.2, ?_⟩
        refine chainP_one ?_
        intro E hE
        go_wp2_with (refine wpList_store_row rfl 28 (.tmp 3) (.tmp 15) rfl (W2.heap.size + 1) #[.int .i64 x.k, .int .i64 x.n, .string x.s, .slice qa x.args.length qc] rfl rfl _ _ HK.out.2.1 size_term rfl (one4 _ _ _ _ _ _) ?_)
        refine ⟨(below_row HK.out.2.2.2 (by omega)), ?_⟩
        refine chainP_one ?_
        intro E hE
        go_wp2_with (refine wpList_store_row rfl 28 (.tmp 4) (.tmp 19) rfl W2.heap.size #[.int .i64 y.k, .int .i64 y.n, .string y.s, .slice za y.args.length zc] rfl rfl _ _ ((setRow_other _ _ _ _ (by omega)).trans HK.out.1) size_term rfl (one4 _ _ _ _ _ _) ?_)
        refine ⟨(below_row (below_row HK.out.2.2.2 (by omega)) (by omega)), ?_⟩
        refine chainP_one ?_
        intro E hE
        go_wp2_with (refine wpList_store_row rfl 28 (.tmp 5) (.tmp 23) rfl (W2.heap.size + 2) #[.int .i64 z.k, .int .i64 z.n, .string z.s, .slice va z.args.length vc] rfl rfl _ _ ((setRow_other _ _ _ _ (by omega)).trans ((setRow_other _ _ _ _ (by omega)).trans HK.out.2.2.1)) size_term rfl (one4 _ _ _ _ _ _) ?_)
        refine ⟨(below_row (below_row (below_row HK.out.2.2.2 (by omega)) (by omega)) (by omega)), ?_⟩
        have HFIN := Lib.hid (args_three (g := (W2.heap.size + 1)) (g' := W2.heap.size) (g'' := (W2.heap.size + 2)) HK.out.2.2.2 (by omega) (by omega) (by omega) (by omega) (by omega) (by omega) HQ.out HK.out.2.1 HK.out.1 HK.out.2.2.1 (HI1.out.below HK.out.2.2.2) (HI2.out.below HK.out.2.2.2) (HI3.out.below HK.out.2.2.2))
        clear HK
        refine chainP_nil (rest_end (by decide) ?_)
        go_wp2
        go_meet
        exact Args3.lift HD.out HFIN.out
      · intro E hE
        go_wp2
        refine ⟨(two W2 (.cells #[.int .i64 0, .int .i64 0, .string ⟨#[]⟩, .slice none 0 0] 28 (0, 0)) (.cells #[.int .i64 0, .int .i64 0, .string ⟨#[]⟩, .slice none 0 0] 28 (0, 0))).2.2.2, ?_⟩
        refine chainP_one ?_
        intro E hE
        go_wp2
        have HK := Lib.hid (three W2 (.cells #[.int .i64 0, .int .i64 0, .string ⟨#[]⟩, .slice none 0 0] 28 (0, 0)) (.cells #[.int .i64 0, .int .i64 0, .string ⟨#[]⟩, .slice none 0 0] 28 (0, 0)) (.cells #[.int .i64 0, .int .i64 0, .string ⟨#[]⟩, .slice none 0 0] 28 (0, 0)))
        refine ⟨HK.out.2.2.2, ?_⟩
        refine chainP_one ?_
        intro E hE
        go_wp2_with (refine wpList_store_row rfl 28 (.tmp 3) (.tmp 15) rfl (W2.heap.size + 2) #[.int .i64 x.k, .int .i64 x.n, .string x.s, .slice qa x.args.length qc] rfl rfl _ _ HK.out.2.2.1 size_term rfl (one4 _ _ _ _ _ _) ?_)
        refine ⟨(below_row HK.out.2.2.2 (by omega)), ?_⟩
        refine chainP_one ?_
        intro E hE
        go_wp2_with (refine wpList_store_row rfl 28 (.tmp 4) (.tmp 19) rfl W2.heap.size #[.int .i64 y.k, .int .i64 y.n, .string y.s, .slice za y.args.length zc] rfl rfl _ _ ((setRow_other _ _ _ _ (by omega)).trans HK.out.1) size_term rfl (one4 _ _ _ _ _ _) ?_)
        refine ⟨(below_row (below_row HK.out.2.2.2 (by omega)) (by omega)), ?_⟩
        refine chainP_one ?_
        intro E hE
        go_wp2_with (refine wpList_store_row rfl 28 (.tmp 5) (.tmp 23) rfl (W2.heap.size + 1) #[.int .i64 z.k, .int .i64 z.n, .string z.s, .slice va z.args.length vc] rfl rfl _ _ ((setRow_other _ _ _ _ (by omega)).trans ((setRow_other _ _ _ _ (by omega)).trans HK.out.2.1)) size_term rfl (one4 _ _ _ _ _ _) ?_)
        refine ⟨(below_row (below_row (below_row HK.out.2.2.2 (by omega)) (by omega)) (by omega)), ?_⟩
        have HFIN := Lib.hid (args_three (g := (W2.heap.size + 2)) (g' := W2.heap.size) (g'' := (W2.heap.size + 1)) HK.out.2.2.2 (by omega) (by omega) (by omega) (by omega) (by omega) (by omega) HQ.out HK.out.2.2.1 HK.out.1 HK.out.2.1 (HI1.out.below HK.out.2.2.2) (HI2.out.below HK.out.2.2.2) (HI3.out.below HK.out.2.2.2))
        clear HK
        refine chainP_nil (rest_end (by decide) ?_)
        go_wp2
        go_meet
        exact Args3.lift HD.out HFIN.out
    · intro E hE
      go_wp2
      refine ⟨(Below.refl W2.heap.size W2).alloc (Nat.le_refl _) _, ?_⟩
      refine chainP_two ?_ ?_
      · intro E hE
        go_wp2
        refine ⟨(two W2 (.cells #[.int .i64 0, .int .i64 0, .string ⟨#[]⟩, .slice none 0 0] 28 (0, 0)) (.cells #[.int .i64 0, .int .i64 0, .string ⟨#[]⟩, .slice none 0 0] 28 (0, 0))).2.2.2, ?_⟩
        refine chainP_one ?_
        intro E hE
        go_wp2
        have HK := Lib.hid (three W2 (.cells #[.int .i64 0, .int .i64 0, .string ⟨#[]⟩, .slice none 0 0] 28 (0, 0)) (.cells #[.int .i64 0, .int .i64 0, .string ⟨#[]⟩, .slice none 0 0] 28 (0, 0)) (.cells #[.int .i64 0, .int .i64 0, .string ⟨#[]⟩, .slice none 0 0] 28 (0, 0)))
        refine ⟨HK.out.2.2.2, ?_⟩
        refine chainP_one ?_
        intro E hE
        go_wp2_with (refine wpList_store_row rfl 28 (.tmp 3) (.tmp 15) rfl (W2.heap.size + 1) #[.int .i64 x.k, .int .i64 x.n, .string x.s, .slice qa x.args.length qc] rfl rfl _ _ HK.out.2.1 size_term rfl (one4 _ _ _ _ _ _) ?_)
        refine ⟨(below_row HK.out.2.2.2 (by omega)), ?_⟩
        refine chainP_one ?_
        intro E hE
        go_wp2_with (refine wpList_store_row rfl 28 (.tmp 4) (.tmp 19) rfl (W2.heap.size + 2) #[.int .i64 y.k, .int .i64 y.n, .string y.s, .slice za y.args.length zc] rfl rfl _ _ ((setRow_other _ _ _ _ (by omega)).trans HK.out.2.2.1) size_term rfl (one4 _ _ _ _ _ _) ?_)
        refine ⟨(below_row (below_row HK.out.2.2.2 (by omega)) (by omega)), ?_⟩
        refine chainP_one ?_
        intro E hE
        go_wp2_with (refine wpList_store_row rfl 28 (.tmp 5) (.tmp 23) rfl W2.heap.size #[.int .i64 z.k, .int .i64 z.n, .string z.s, .slice va z.args.length vc] rfl rfl _ _ ((setRow_other _ _ _ _ (by omega)).trans ((setRow_other _ _ _ _ (by omega)).trans HK.out.1)) size_term rfl (one4 _ _ _ _ _ _) ?_)
        refine ⟨(below_row (below_row (below_row HK.out.2.2.2 (by omega)) (by omega)) (by omega)), ?_⟩
        have HFIN := Lib.hid (args_three (g := (W2.heap.size + 1)) (g' := (W2.heap.size + 2)) (g'' := W2.heap.size) HK.out.2.2.2 (by omega) (by omega) (by omega) (by omega) (by omega) (by omega) HQ.out HK.out.2.1 HK.out.2.2.1 HK.out.1 (HI1.out.below HK.out.2.2.2) (HI2.out.below HK.out.2.2.2) (HI3.out.below HK.out.2.2.2))
        clear HK
        refine chainP_nil (rest_end (by decide) ?_)
        go_wp2
        go_meet
        exact Args3.lift HD.out HFIN.out
      · intro E hE
        go_wp2
        refine ⟨(two W2 (.cells #[.int .i64 0, .int .i64 0, .string ⟨#[]⟩, .slice none 0 0] 28 (0, 0)) (.cells #[.int .i64 0, .int .i64 0, .string ⟨#[]⟩, .slice none 0 0] 28 (0, 0))).2.2.2, ?_⟩
        refine chainP_one ?_
        intro E hE
        go_wp2
        have HK := Lib.hid (three W2 (.cells #[.int .i64 0, .int .i64 0, .string ⟨#[]⟩, .slice none 0 0] 28 (0, 0)) (.cells #[.int .i64 0, .int .i64 0, .string ⟨#[]⟩, .slice none 0 0] 28 (0, 0)) (.cells #[.int .i64 0, .int .i64 0, .string ⟨#[]⟩, .slice none 0 0] 28 (0, 0)))
        refine ⟨HK.out.2.2.2, ?_⟩
        refine chainP_one ?_
        intro E hE
        go_wp2_with (refine wpList_store_row rfl 28 (.tmp 3) (.tmp 15) rfl (W2.heap.size + 2) #[.int .i64 x.k, .int .i64 x.n, .string x.s, .slice qa x.args.length qc] rfl rfl _ _ HK.out.2.2.1 size_term rfl (one4 _ _ _ _ _ _) ?_)
        refine ⟨(below_row HK.out.2.2.2 (by omega)), ?_⟩
        refine chainP_one ?_
        intro E hE
        go_wp2_with (refine wpList_store_row rfl 28 (.tmp 4) (.tmp 19) rfl (W2.heap.size + 1) #[.int .i64 y.k, .int .i64 y.n, .string y.s, .slice za y.args.length zc] rfl rfl _ _ ((setRow_other _ _ _ _ (by omega)).trans HK.out.2.1) size_term rfl (one4 _ _ _ _ _ _) ?_)
        refine ⟨(below_row (below_row HK.out.2.2.2 (by omega)) (by omega)), ?_⟩
        refine chainP_one ?_
        intro E hE
        go_wp2_with (refine wpList_store_row rfl 28 (.tmp 5) (.tmp 23) rfl W2.heap.size #[.int .i64 z.k, .int .i64 z.n, .string z.s, .slice va z.args.length vc] rfl rfl _ _ ((setRow_other _ _ _ _ (by omega)).trans ((setRow_other _ _ _ _ (by omega)).trans HK.out.1)) size_term rfl (one4 _ _ _ _ _ _) ?_)
        refine ⟨(below_row (below_row (below_row HK.out.2.2.2 (by omega)) (by omega)) (by omega)), ?_⟩
        have HFIN := Lib.hid (args_three (g := (W2.heap.size + 2)) (g' := (W2.heap.size + 1)) (g'' := W2.heap.size) HK.out.2.2.2 (by omega) (by omega) (by omega) (by omega) (by omega) (by omega) HQ.out HK.out.2.2.1 HK.out.2.1 HK.out.1 (HI1.out.below HK.out.2.2.2) (HI2.out.below HK.out.2.2.2) (HI3.out.below HK.out.2.2.2))
        clear HK
        refine chainP_nil (rest_end (by decide) ?_)
        go_wp2
        go_meet
        exact Args3.lift HD.out HFIN.out
  case rest =>
    obtain ⟨b3, b4, b5, rfl, rfl, rfl, ⟨a3, c3, r3, i3⟩, ⟨a4, c4, r4, i4⟩, ⟨a5, c5, r5, i5⟩, hbc⟩ := hcut
    have HR3 := Lib.hid (row_on HR.out hbc)
    have hb3 := HB.out.trans (hbc.mono HB.out.size)
    have hs3 : w.heap.size + 2 ≤ wc.heap.size := by have := HZ.out; have := hbc.size; omega
    have HB3 := Lib.hid hb3
    have HX := Lib.hid (show IsTm wc (fun b => P b ∧ b < w.heap.size ∨ w.heap.size + 2 ≤ b) (.agg #[.int .i64 x.k, .int .i64 x.n, .string x.s, .slice a3 x.args.length c3]) x from (IsTm.mk' i3).imp (fun b hb => Or.inl hb) fun _ _ _ => rfl)
    have HY := Lib.hid (show IsTm wc (fun b => P b ∧ b < w.heap.size ∨ w.heap.size + 2 ≤ b) (.agg #[.int .i64 y.k, .int .i64 y.n, .string y.s, .slice a4 y.args.length c4]) y from (IsTm.mk' i4).imp (fun b hb => Or.inl hb) fun _ _ _ => rfl)
    have HZZ := Lib.hid (show IsTm wc (fun b => P b ∧ b < w.heap.size ∨ w.heap.size + 2 ≤ b) (.agg #[.int .i64 z.k, .int .i64 z.n, .string z.s, .slice a5 z.args.length c5]) z from (IsTm.mk' i5).imp (fun b hb => Or.inl hb) fun _ _ _ => rfl)
    have R5 := Lib.hid r5
    obtain ⟨t0, t1, t2, t3⟩ := row4 r5
    have hl5 := (Array.getElem?_eq_some_iff.1 r5).1
    have HT3 := Lib.hid (HTB.out.on hb3)
    have R3 := Lib.hid r3
    have R4 := Lib.hid r4
    obtain ⟨y0, y1, y2, y3⟩ := row4 r3
    obtain ⟨z0, z1, z2, z3⟩ := row4 r4
    have hl3 := (Array.getElem?_eq_some_iff.1 r3).1
    have hl4 := (Array.getElem?_eq_some_iff.1 r4).1
    clear i3 i4 HR HC HZ H HB hbc x0 hb3 r3 r4 HTB i5 r5
    have HX3 := Lib.hid HX.out
    have HY3 := Lib.hid HY.out
    have HZ3 := Lib.hid HZZ.out
    have RX3 := Lib.hid R3.out
    have RY3 := Lib.hid R4.out
    have RZ3 := Lib.hid R5.out
    clear HX HY HZZ R3 R4 R5 hl3 hl4 hl5
    go_wp2_with fail
    refine (tx_nameOf x _ _ _ HX3.out HF.out.1 HT3.out).mono ?_
    rintro e5 w5 ⟨rfl, hb5⟩
    have HR5 := Lib.hid (row_on HR3.out hb5)
    have HB5 := Lib.hid (HB3.out.trans (hb5.mono HB3.out.size))
    have hs5 : w.heap.size + 2 ≤ w5.heap.size := by have := hb5.size; omega
    have HX5 := Lib.hid (HX3.out.below hb5)
    have HY5 := Lib.hid (HY3.out.below hb5)
    have HZ5 := Lib.hid (HZ3.out.below hb5)
    have HT5 := Lib.hid (HT3.out.on hb5)
    have RX5 := Lib.hid (row_on RX3.out hb5)
    have RY5 := Lib.hid (row_on RY3.out hb5)
    have RZ5 := Lib.hid (row_on RZ3.out hb5)
    clear y0 y1 y2 y3 z0 z1 z2 z3 t0 t1 t2 t3
    obtain ⟨y0, y1, y2, y3⟩ := row4 RX5.out
    obtain ⟨z0, z1, z2, z3⟩ := row4 RY5.out
    obtain ⟨t0, t1, t2, t3⟩ := row4 RZ5.out
    clear hb5 HR3 HB3 hs3 HX3 HY3 HZ3 HT3 RX3 RY3 RZ3
    obtain ⟨sx, hsx⟩ : ∃ s, s = (nameT x).getD ⟨#[]⟩ := ⟨_, rfl⟩
    obtain ⟨ox, hox⟩ : ∃ s, s = (nameT x).isSome := ⟨_, rfl⟩
    rw [← hsx, ← hox]
    have HSX := Lib.hid hsx
    have HOX := Lib.hid hox
    clear hsx hox
    go_wp2_with fail
    refine (tx_nameOf y _ _ _ HY5.out HF.out.2.1 HT5.out).mono ?_
    rintro e6 w6 ⟨rfl, hb6⟩
    have HR6 := Lib.hid (row_on HR5.out hb6)
    have HB6 := Lib.hid (HB5.out.trans (hb6.mono HB5.out.size))
    have hs6 : w.heap.size + 2 ≤ w6.heap.size := by have := hb6.size; omega
    have HX6 := Lib.hid (HX5.out.below hb6)
    have HY6 := Lib.hid (HY5.out.below hb6)
    have HZ6 := Lib.hid (HZ5.out.below hb6)
    have HT6 := Lib.hid (HT5.out.on hb6)
    have RX6 := Lib.hid (row_on RX5.out hb6)
    have RY6 := Lib.hid (row_on RY5.out hb6)
    have RZ6 := Lib.hid (row_on RZ5.out hb6)
    clear y0 y1 y2 y3 z0 z1 z2 z3 t0 t1 t2 t3
    obtain ⟨y0, y1, y2, y3⟩ := row4 RX6.out
    obtain ⟨z0, z1, z2, z3⟩ := row4 RY6.out
    obtain ⟨t0, t1, t2, t3⟩ := row4 RZ6.out
    clear hb6 HR5 HB5 hs5 HX5 HY5 HZ5 HT5 RX5 RY5 RZ5
    obtain ⟨sy, hsy⟩ : ∃ s, s = (nameT y).getD ⟨#[]⟩ := ⟨_, rfl⟩
    obtain ⟨oy, hoy⟩ : ∃ s, s = (nameT y).isSome := ⟨_, rfl⟩
    rw [← hsy, ← hoy]
    have HSY := Lib.hid hsy
    have HOY := Lib.hid hoy
    clear hsy hoy
    go_wp2_with fail
    refine (tx_nameOf z _ _ _ HZ6.out HF.out.2.2 HT6.out).mono ?_
    rintro e7 w7 ⟨rfl, hb7⟩
    have HR7 := Lib.hid (row_on HR6.out hb7)
    have HB7 := Lib.hid (HB6.out.trans (hb7.mono HB6.out.size))
    have hs7 : w.heap.size + 2 ≤ w7.heap.size := by have := hb7.size; omega
    have HX7 := Lib.hid (HX6.out.below hb7)
    have HY7 := Lib.hid (HY6.out.below hb7)
    have HZ7 := Lib.hid (HZ6.out.below hb7)
    have HT7 := Lib.hid (HT6.out.on hb7)
    have RX7 := Lib.hid (row_on RX6.out hb7)
    have RY7 := Lib.hid (row_on RY6.out hb7)
    have RZ7 := Lib.hid (row_on RZ6.out hb7)
    clear y0 y1 y2 y3 z0 z1 z2 z3 t0 t1 t2 t3
    obtain ⟨y0, y1, y2, y3⟩ := row4 RX7.out
    obtain ⟨z0, z1, z2, z3⟩ := row4 RY7.out
    obtain ⟨t0, t1, t2, t3⟩ := row4 RZ7.out
    clear hb7 HR6 HB6 hs6 HX6 HY6 HZ6 HT6 RX6 RY6 RZ6
    obtain ⟨sz, hsz⟩ : ∃ s, s = (nameT z).getD ⟨#[]⟩ := ⟨_, rfl⟩
    obtain ⟨oz, hoz⟩ : ∃ s, s = (nameT z).isSome := ⟨_, rfl⟩
    rw [← hsz, ← hoz]
    have HSZ := Lib.hid hsz
    have HOZ := Lib.hid hoz
    clear hsz hoz
    by_cases hv : x.k = 1 ∨ y.k = 1
    · have HK := Lib.hid hv
      by_cases h1 : x.k = 1
      · have c1 : (x.k == 1) = true := by rw [h1]; rfl
        clear hv h1
        have HDD := Lib.hid (show concatD x y z = .wr (formalE 12 ⟨#[]⟩ x) by unfold concatD; rw [if_pos HK.out])
        go_wp2_with fail
        refine (tx_wrong 12 ⟨#[]⟩ x _ (fun b => P b ∧ b < w.heap.size ∨ w.heap.size + 2 ≤ b) _ (by omega) HX7.out).mono ?_
        rintro e9 w9 ⟨v9, rfl, hd9, hb9⟩
        obtain ⟨cb, u1, u2, u3, n1, k1, n2, k2, n3, k3, cx, cy, cs, rfl⟩ := hd9.cells
        have HD9 := Lib.hid (hd9.imp (P' := fun b => P b ∧ b < w.heap.size ∨ w.heap.size + 2 ≤ b) (fun b hb => by rcases hb with hb | hb; (· exact hb); (· exact Or.inr (by omega))) (Nat.le_refl _) (fun _ _ _ => rfl))
        have HR9 := Lib.hid (row_on HR7.out hb9)
        have HB9 := Lib.hid (HB7.out.trans (hb9.mono HB7.out.size))
        clear hd9 hb9
        go_wp2_with (with_reducible show wpList _ _ _ (⟨none, .store _ (.tmp 2) _, _, _, _, _⟩ :: _) _ _
                     go_must (refine wpList_store_row rfl 35 (.tmp 2) (.tmp 49) rfl (w.heap.size + 1) #[.bool cb, .slice u1 n1 k1, .slice u2 n2 k2, .int .i64 cx, .int .i64 cy, .string cs, .slice u3 n3 k3] rfl rfl _ _ HR9.out size_did rfl (by simp [Value.oneCell']) ?_))
        have hz := setRow_heap w9 (w.heap.size + 1) _ (#[.bool cb, .slice u1 n1 k1, .slice u2 n2 k2, .int .i64 cx, .int .i64 cy, .string cs, .slice u3 n3 k3] : Array Value) _ _ HR9.out
        rw [HDD.out]
        exact bodyPost_ret (v := .agg #[.bool cb, .slice u1 n1 k1, .slice u2 n2 k2, .int .i64 cx, .int .i64 cy, .string cs, .slice u3 n3 k3]) (results_cell_row Tryd.results29 _ _ (w.heap.size + 1) _ _ _ _ rfl hz Tryd.underlying35 rfl (by kernel_rfl)) rfl ⟨_, rfl, HD9.out.imp (fun _ h => h) (by simp) (fun b hb _ => setRow_other w9 (w.heap.size + 1) b _ (by rcases hb with h | h; (· have := h.2; omega); (· omega))), below_row HB9.out (by omega)⟩
      · have c1 : (x.k == 1) = false := by simpa using h1
        have c2 : (y.k == 1) = true := by rw [hv.resolve_left h1]; rfl
        clear hv h1
        have HDD := Lib.hid (show concatD x y z = .wr (formalE 12 ⟨#[]⟩ x) by unfold concatD; rw [if_pos HK.out])
        go_wp2_with fail
        refine (tx_wrong 12 ⟨#[]⟩ x _ (fun b => P b ∧ b < w.heap.size ∨ w.heap.size + 2 ≤ b) _ (by omega) HX7.out).mono ?_
        rintro e9 w9 ⟨v9, rfl, hd9, hb9⟩
        obtain ⟨cb, u1, u2, u3, n1, k1, n2, k2, n3, k3, cx, cy, cs, rfl⟩ := hd9.cells
        have HD9 := Lib.hid (hd9.imp (P' := fun b => P b ∧ b < w.heap.size ∨ w.heap.size + 2 ≤ b) (fun b hb => by rcases hb with hb | hb; (· exact hb); (· exact Or.inr (by omega))) (Nat.le_refl _) (fun _ _ _ => rfl))
        have HR9 := Lib.hid (row_on HR7.out hb9)
        have HB9 := Lib.hid (HB7.out.trans (hb9.mono HB7.out.size))
        clear hd9 hb9
        go_wp2_with (with_reducible show wpList _ _ _ (⟨none, .store _ (.tmp 2) _, _, _, _, _⟩ :: _) _ _
                     go_must (refine wpList_store_row rfl 35 (.tmp 2) (.tmp 49) rfl (w.heap.size + 1) #[.bool cb, .slice u1 n1 k1, .slice u2 n2 k2, .int .i64 cx, .int .i64 cy, .string cs, .slice u3 n3 k3] rfl rfl _ _ HR9.out size_did rfl (by simp [Value.oneCell']) ?_))
        have hz := setRow_heap w9 (w.heap.size + 1) _ (#[.bool cb, .slice u1 n1 k1, .slice u2 n2 k2, .int .i64 cx, .int .i64 cy, .string cs, .slice u3 n3 k3] : Array Value) _ _ HR9.out
        rw [HDD.out]
        exact bodyPost_ret (v := .agg #[.bool cb, .slice u1 n1 k1, .slice u2 n2 k2, .int .i64 cx, .int .i64 cy, .string cs, .slice u3 n3 k3]) (results_cell_row Tryd.results29 _ _ (w.heap.size + 1) _ _ _ _ rfl hz Tryd.underlying35 rfl (by kernel_rfl)) rfl ⟨_, rfl, HD9.out.imp (fun _ h => h) (by simp) (fun b hb _ => setRow_other w9 (w.heap.size + 1) b _ (by rcases hb with h | h; (· have := h.2; omega); (· omega))), below_row HB9.out (by omega)⟩
    · have HK := Lib.hid hv
      have c1 : (x.k == 1) = false := by simpa using fun h => hv (.inl h)
      have c2 : (y.k == 1) = false := by simpa using fun h => hv (.inr h)
      clear hv
      cases ox with
      | false =>
        have HDD := Lib.hid (show concatD x y z = .wr (formalE 13 (⟨#[97, 116, 111, 109, 105, 99]⟩ : ByteArray) x) from by unfold concatD; rw [if_neg HK.out]; have hn : nameT x = none := (by simpa using HOX.out.symm); rw [hn])
        go_wp2_with fail
        refine (tx_wrong 13 (⟨#[97, 116, 111, 109, 105, 99]⟩ : ByteArray) x _ (fun b => P b ∧ b < w.heap.size ∨ w.heap.size + 2 ≤ b) _ (by omega) HX7.out).mono ?_
        rintro e9 w9 ⟨v9, rfl, hd9, hb9⟩
        obtain ⟨cb, u1, u2, u3, n1, k1, n2, k2, n3, k3, cx, cy, cs, rfl⟩ := hd9.cells
        have HD9 := Lib.hid (hd9.imp (P' := fun b => P b ∧ b < w.heap.size ∨ w.heap.size + 2 ≤ b) (fun b hb => by rcases hb with hb | hb; (· exact hb); (· exact Or.inr (by omega))) (Nat.le_refl _) (fun _ _ _ => rfl))
        have HR9 := Lib.hid (row_on HR7.out hb9)
        have HB9 := Lib.hid (HB7.out.trans (hb9.mono HB7.out.size))
        clear hd9 hb9
        go_wp2_with (with_reducible show wpList _ _ _ (⟨none, .store _ (.tmp 2) _, _, _, _, _⟩ :: _) _ _
                     go_must (refine wpList_store_row rfl 35 (.tmp 2) (.tmp 54) rfl (w.heap.size + 1) #[.bool cb, .slice u1 n1 k1, .slice u2 n2 k2, .int .i64 cx, .int .i64 cy, .string cs, .slice u3 n3 k3] rfl rfl _ _ HR9.out size_did rfl (by simp [Value.oneCell']) ?_))
        have hz := setRow_heap w9 (w.heap.size + 1) _ (#[.bool cb, .slice u1 n1 k1, .slice u2 n2 k2, .int .i64 cx, .int .i64 cy, .string cs, .slice u3 n3 k3] : Array Value) _ _ HR9.out
        rw [HDD.out]
        exact bodyPost_ret (v := .agg #[.bool cb, .slice u1 n1 k1, .slice u2 n2 k2, .int .i64 cx, .int .i64 cy, .string cs, .slice u3 n3 k3]) (results_cell_row Tryd.results29 _ _ (w.heap.size + 1) _ _ _ _ rfl hz Tryd.underlying35 rfl (by kernel_rfl)) rfl ⟨_, rfl, HD9.out.imp (fun _ h => h) (by simp) (fun b hb _ => setRow_other w9 (w.heap.size + 1) b _ (by rcases hb with h | h; (· have := h.2; omega); (· omega))), below_row HB9.out (by omega)⟩
      | true =>
      cases oy with
      | false =>
        have HDD := Lib.hid (show concatD x y z = .wr (formalE 13 (⟨#[97, 116, 111, 109, 105, 99]⟩ : ByteArray) y) from by unfold concatD; rw [if_neg HK.out]; have hn : nameT y = none := (by simpa using HOY.out.symm); obtain ⟨q, hq⟩ := Option.isSome_iff_exists.1 HOX.out.symm; rw [hn, hq])
        go_wp2_with fail
        refine (tx_wrong 13 (⟨#[97, 116, 111, 109, 105, 99]⟩ : ByteArray) y _ (fun b => P b ∧ b < w.heap.size ∨ w.heap.size + 2 ≤ b) _ (by omega) HY7.out).mono ?_
        rintro e9 w9 ⟨v9, rfl, hd9, hb9⟩
        obtain ⟨cb, u1, u2, u3, n1, k1, n2, k2, n3, k3, cx, cy, cs, rfl⟩ := hd9.cells
        have HD9 := Lib.hid (hd9.imp (P' := fun b => P b ∧ b < w.heap.size ∨ w.heap.size + 2 ≤ b) (fun b hb => by rcases hb with hb | hb; (· exact hb); (· exact Or.inr (by omega))) (Nat.le_refl _) (fun _ _ _ => rfl))
        have HR9 := Lib.hid (row_on HR7.out hb9)
        have HB9 := Lib.hid (HB7.out.trans (hb9.mono HB7.out.size))
        clear hd9 hb9
        go_wp2_with (with_reducible show wpList _ _ _ (⟨none, .store _ (.tmp 2) _, _, _, _, _⟩ :: _) _ _
                     go_must (refine wpList_store_row rfl 35 (.tmp 2) (.tmp 59) rfl (w.heap.size + 1) #[.bool cb, .slice u1 n1 k1, .slice u2 n2 k2, .int .i64 cx, .int .i64 cy, .string cs, .slice u3 n3 k3] rfl rfl _ _ HR9.out size_did rfl (by simp [Value.oneCell']) ?_))
        have hz := setRow_heap w9 (w.heap.size + 1) _ (#[.bool cb, .slice u1 n1 k1, .slice u2 n2 k2, .int .i64 cx, .int .i64 cy, .string cs, .slice u3 n3 k3] : Array Value) _ _ HR9.out
        rw [HDD.out]
        exact bodyPost_ret (v := .agg #[.bool cb, .slice u1 n1 k1, .slice u2 n2 k2, .int .i64 cx, .int .i64 cy, .string cs, .slice u3 n3 k3]) (results_cell_row Tryd.results29 _ _ (w.heap.size + 1) _ _ _ _ rfl hz Tryd.underlying35 rfl (by kernel_rfl)) rfl ⟨_, rfl, HD9.out.imp (fun _ h => h) (by simp) (fun b hb _ => setRow_other w9 (w.heap.size + 1) b _ (by rcases hb with h | h; (· have := h.2; omega); (· omega))), below_row HB9.out (by omega)⟩
      | true =>
      by_cases hz1 : z.k = 1
      · have c3 : (z.k != 1) = false := by rw [hz1]; rfl
        have HG := Lib.hid (show ¬ (z.k ≠ 1 ∧ nameT z = none) from fun h => h.1 hz1)
        clear hz1
        have hlx : sx.size ≤ 100000 := by
          obtain ⟨q, hq⟩ := Option.isSome_iff_exists.1 HOX.out.symm
          rw [HSX.out, hq]; exact name_size hq HF.out.1 hs1
        have hly : sy.size ≤ 100000 := by
          obtain ⟨q, hq⟩ := Option.isSome_iff_exists.1 HOY.out.symm
          rw [HSY.out, hq]; exact name_size hq HF.out.2.1 hs2
        have hwr : wrap64 ((sx.size : Int) + (sy.size : Int)) = (sx.size : Int) + (sy.size : Int) := Num.wrap_in (by unfold Num.Fit; omega)
        have HCD := Lib.hid (show concatD x y z = if 1000 < sx.size + sy.size then .wr (formalE 3 (⟨#[109, 97, 120, 95, 97, 116, 111, 109, 95, 108, 101, 110, 103, 116, 104]⟩ : ByteArray) z) else .is 2 (atomT (sx ++ sy)) from by
          obtain ⟨q, hq⟩ := Option.isSome_iff_exists.1 HOX.out.symm
          obtain ⟨q', hq'⟩ := Option.isSome_iff_exists.1 HOY.out.symm
          have h1 := HSX.out
          have h2 := HSY.out
          rw [hq] at h1
          rw [hq'] at h2
          unfold concatD; rw [if_neg HK.out, hq, hq']; simp only []; rw [if_neg HG.out]
          rw [show sx = q from h1, show sy = q' from h2])
        by_cases hlong : 1000 < sx.size + sy.size
        · have c7 : decide (1000 < (sx.size : Int) + (sy.size : Int)) = true := by simp; omega
          have c8 : decide (1000 < sx.size + sy.size) = true := by simpa using hlong
          have HLG := Lib.hid hlong
          clear hlong
          have HDD := Lib.hid (show concatD x y z = .wr (formalE 3 (⟨#[109, 97, 120, 95, 97, 116, 111, 109, 95, 108, 101, 110, 103, 116, 104]⟩ : ByteArray) z) by rw [HCD.out, if_pos HLG.out])
          go_wp2_with fail
          refine (tx_wrong 3 (⟨#[109, 97, 120, 95, 97, 116, 111, 109, 95, 108, 101, 110, 103, 116, 104]⟩ : ByteArray) z _ (fun b => P b ∧ b < w.heap.size ∨ w.heap.size + 2 ≤ b) _ (by omega) HZ7.out).mono ?_
          rintro e9 w9 ⟨v9, rfl, hd9, hb9⟩
          obtain ⟨cb, u1, u2, u3, n1, k1, n2, k2, n3, k3, cx, cy, cs, rfl⟩ := hd9.cells
          have HD9 := Lib.hid (hd9.imp (P' := fun b => P b ∧ b < w.heap.size ∨ w.heap.size + 2 ≤ b) (fun b hb => by rcases hb with hb | hb; (· exact hb); (· exact Or.inr (by omega))) (Nat.le_refl _) (fun _ _ _ => rfl))
          have HR9 := Lib.hid (row_on HR7.out hb9)
          have HB9 := Lib.hid (HB7.out.trans (hb9.mono HB7.out.size))
          clear hd9 hb9
          go_wp2_with (with_reducible show wpList _ _ _ (⟨none, .store _ (.tmp 2) _, _, _, _, _⟩ :: _) _ _
                       go_must (refine wpList_store_row rfl 35 (.tmp 2) (.tmp 78) rfl (w.heap.size + 1) #[.bool cb, .slice u1 n1 k1, .slice u2 n2 k2, .int .i64 cx, .int .i64 cy, .string cs, .slice u3 n3 k3] rfl rfl _ _ HR9.out size_did rfl (by simp [Value.oneCell']) ?_))
          have hz := setRow_heap w9 (w.heap.size + 1) _ (#[.bool cb, .slice u1 n1 k1, .slice u2 n2 k2, .int .i64 cx, .int .i64 cy, .string cs, .slice u3 n3 k3] : Array Value) _ _ HR9.out
          rw [HDD.out]
          exact bodyPost_ret (v := .agg #[.bool cb, .slice u1 n1 k1, .slice u2 n2 k2, .int .i64 cx, .int .i64 cy, .string cs, .slice u3 n3 k3]) (results_cell_row Tryd.results29 _ _ (w.heap.size + 1) _ _ _ _ rfl hz Tryd.underlying35 rfl (by kernel_rfl)) rfl ⟨_, rfl, HD9.out.imp (fun _ h => h) (by simp) (fun b hb _ => setRow_other w9 (w.heap.size + 1) b _ (by rcases hb with h | h; (· have := h.2; omega); (· omega))), below_row HB9.out (by omega)⟩
        · have c7 : decide (1000 < (sx.size : Int) + (sy.size : Int)) = false := by simp; omega
          have c8 : decide (1000 < sx.size + sy.size) = false := by simpa using hlong
          have HLG := Lib.hid hlong
          have HDD := Lib.hid (show concatD x y z = .is 2 (atomT (sx ++ sy)) by rw [HCD.out, if_neg HLG.out])
          clear hlong
          go_wp2_with fail
          refine (tx_atom (sx ++ sy) _).mono ?_
          rintro e8 w8 ⟨rfl, hb8⟩
          have HR8 := Lib.hid (row_on HR7.out hb8)
          have HB8 := Lib.hid (HB7.out.trans (hb8.mono HB7.out.size))
          have hs8 : w.heap.size + 2 ≤ w8.heap.size := by have := hb8.size; omega
          clear hb8
          go_wp2_with fail
          refine (tx_is 2 (atomT (sx ++ sy)) _ (fun b => P b ∧ b < w.heap.size ∨ w.heap.size + 2 ≤ b) _ (atom_is _ _ _)).mono ?_
          rintro e9 w9 ⟨v9, rfl, hd9, hb9⟩
          obtain ⟨cb, u1, u2, u3, n1, k1, n2, k2, n3, k3, cx, cy, cs, rfl⟩ := hd9.cells
          have HD9 := Lib.hid (hd9.imp (P' := fun b => P b ∧ b < w.heap.size ∨ w.heap.size + 2 ≤ b) (fun b hb => by rcases hb with hb | hb; (· exact hb); (· exact Or.inr (by omega))) (Nat.le_refl _) (fun _ _ _ => rfl))
          have HR9 := Lib.hid (row_on HR8.out hb9)
          have HB9 := Lib.hid (HB8.out.trans (hb9.mono HB8.out.size))
          clear hd9 hb9
          go_wp2_with (with_reducible show wpList _ _ _ (⟨none, .store _ (.tmp 2) _, _, _, _, _⟩ :: _) _ _
                       go_must (refine wpList_store_row rfl 35 (.tmp 2) (.tmp 83) rfl (w.heap.size + 1) #[.bool cb, .slice u1 n1 k1, .slice u2 n2 k2, .int .i64 cx, .int .i64 cy, .string cs, .slice u3 n3 k3] rfl rfl _ _ HR9.out size_did rfl (by simp [Value.oneCell']) ?_))
          have hz := setRow_heap w9 (w.heap.size + 1) _ (#[.bool cb, .slice u1 n1 k1, .slice u2 n2 k2, .int .i64 cx, .int .i64 cy, .string cs, .slice u3 n3 k3] : Array Value) _ _ HR9.out
          rw [HDD.out]
          exact bodyPost_ret (v := .agg #[.bool cb, .slice u1 n1 k1, .slice u2 n2 k2, .int .i64 cx, .int .i64 cy, .string cs, .slice u3 n3 k3]) (results_cell_row Tryd.results29 _ _ (w.heap.size + 1) _ _ _ _ rfl hz Tryd.underlying35 rfl (by kernel_rfl)) rfl ⟨_, rfl, HD9.out.imp (fun _ h => h) (by simp) (fun b hb _ => setRow_other w9 (w.heap.size + 1) b _ (by rcases hb with h | h; (· have := h.2; omega); (· omega))), below_row HB9.out (by omega)⟩
      · have c3 : (z.k != 1) = true := by simpa using hz1
        cases oz with
        | true =>
          have HG := Lib.hid (show ¬ (z.k ≠ 1 ∧ nameT z = none) from fun h => by have h1 := HOZ.out; rw [h.2] at h1; exact absurd h1 (by simp))
          clear hz1
          have hlx : sx.size ≤ 100000 := by
            obtain ⟨q, hq⟩ := Option.isSome_iff_exists.1 HOX.out.symm
            rw [HSX.out, hq]; exact name_size hq HF.out.1 hs1
          have hly : sy.size ≤ 100000 := by
            obtain ⟨q, hq⟩ := Option.isSome_iff_exists.1 HOY.out.symm
            rw [HSY.out, hq]; exact name_size hq HF.out.2.1 hs2
          have hwr : wrap64 ((sx.size : Int) + (sy.size : Int)) = (sx.size : Int) + (sy.size : Int) := Num.wrap_in (by unfold Num.Fit; omega)
          have HCD := Lib.hid (show concatD x y z = if 1000 < sx.size + sy.size then .wr (formalE 3 (⟨#[109, 97, 120, 95, 97, 116, 111, 109, 95, 108, 101, 110, 103, 116, 104]⟩ : ByteArray) z) else .is 2 (atomT (sx ++ sy)) from by
            obtain ⟨q, hq⟩ := Option.isSome_iff_exists.1 HOX.out.symm
            obtain ⟨q', hq'⟩ := Option.isSome_iff_exists.1 HOY.out.symm
            have h1 := HSX.out
            have h2 := HSY.out
            rw [hq] at h1
            rw [hq'] at h2
            unfold concatD; rw [if_neg HK.out, hq, hq']; simp only []; rw [if_neg HG.out]
            rw [show sx = q from h1, show sy = q' from h2])
          by_cases hlong : 1000 < sx.size + sy.size
          · have c7 : decide (1000 < (sx.size : Int) + (sy.size : Int)) = true := by simp; omega
            have c8 : decide (1000 < sx.size + sy.size) = true := by simpa using hlong
            have HLG := Lib.hid hlong
            clear hlong
            have HDD := Lib.hid (show concatD x y z = .wr (formalE 3 (⟨#[109, 97, 120, 95, 97, 116, 111, 109, 95, 108, 101, 110, 103, 116, 104]⟩ : ByteArray) z) by rw [HCD.out, if_pos HLG.out])
            go_wp2_with fail
            refine (tx_wrong 3 (⟨#[109, 97, 120, 95, 97, 116, 111, 109, 95, 108, 101, 110, 103, 116, 104]⟩ : ByteArray) z _ (fun b => P b ∧ b < w.heap.size ∨ w.heap.size + 2 ≤ b) _ (by omega) HZ7.out).mono ?_
            rintro e9 w9 ⟨v9, rfl, hd9, hb9⟩
            obtain ⟨cb, u1, u2, u3, n1, k1, n2, k2, n3, k3, cx, cy, cs, rfl⟩ := hd9.cells
            have HD9 := Lib.hid (hd9.imp (P' := fun b => P b ∧ b < w.heap.size ∨ w.heap.size + 2 ≤ b) (fun b hb => by rcases hb with hb | hb; (· exact hb); (· exact Or.inr (by omega))) (Nat.le_refl _) (fun _ _ _ => rfl))
            have HR9 := Lib.hid (row_on HR7.out hb9)
            have HB9 := Lib.hid (HB7.out.trans (hb9.mono HB7.out.size))
            clear hd9 hb9
            go_wp2_with (with_reducible show wpList _ _ _ (⟨none, .store _ (.tmp 2) _, _, _, _, _⟩ :: _) _ _
                         go_must (refine wpList_store_row rfl 35 (.tmp 2) (.tmp 78) rfl (w.heap.size + 1) #[.bool cb, .slice u1 n1 k1, .slice u2 n2 k2, .int .i64 cx, .int .i64 cy, .string cs, .slice u3 n3 k3] rfl rfl _ _ HR9.out size_did rfl (by simp [Value.oneCell']) ?_))
            have hz := setRow_heap w9 (w.heap.size + 1) _ (#[.bool cb, .slice u1 n1 k1, .slice u2 n2 k2, .int .i64 cx, .int .i64 cy, .string cs, .slice u3 n3 k3] : Array Value) _ _ HR9.out
            rw [HDD.out]
            exact bodyPost_ret (v := .agg #[.bool cb, .slice u1 n1 k1, .slice u2 n2 k2, .int .i64 cx, .int .i64 cy, .string cs, .slice u3 n3 k3]) (results_cell_row Tryd.results29 _ _ (w.heap.size + 1) _ _ _ _ rfl hz Tryd.underlying35 rfl (by kernel_rfl)) rfl ⟨_, rfl, HD9.out.imp (fun _ h => h) (by simp) (fun b hb _ => setRow_other w9 (w.heap.size + 1) b _ (by rcases hb with h | h; (· have := h.2; omega); (· omega))), below_row HB9.out (by omega)⟩
          · have c7 : decide (1000 < (sx.size : Int) + (sy.size : Int)) = false := by simp; omega
            have c8 : decide (1000 < sx.size + sy.size) = false := by simpa using hlong
            have HLG := Lib.hid hlong
            have HDD := Lib.hid (show concatD x y z = .is 2 (atomT (sx ++ sy)) by rw [HCD.out, if_neg HLG.out])
            clear hlong
            go_wp2_with fail
            refine (tx_atom (sx ++ sy) _).mono ?_
            rintro e8 w8 ⟨rfl, hb8⟩
            have HR8 := Lib.hid (row_on HR7.out hb8)
            have HB8 := Lib.hid (HB7.out.trans (hb8.mono HB7.out.size))
            have hs8 : w.heap.size + 2 ≤ w8.heap.size := by have := hb8.size; omega
            clear hb8
            go_wp2_with fail
            refine (tx_is 2 (atomT (sx ++ sy)) _ (fun b => P b ∧ b < w.heap.size ∨ w.heap.size + 2 ≤ b) _ (atom_is _ _ _)).mono ?_
            rintro e9 w9 ⟨v9, rfl, hd9, hb9⟩
            obtain ⟨cb, u1, u2, u3, n1, k1, n2, k2, n3, k3, cx, cy, cs, rfl⟩ := hd9.cells
            have HD9 := Lib.hid (hd9.imp (P' := fun b => P b ∧ b < w.heap.size ∨ w.heap.size + 2 ≤ b) (fun b hb => by rcases hb with hb | hb; (· exact hb); (· exact Or.inr (by omega))) (Nat.le_refl _) (fun _ _ _ => rfl))
            have HR9 := Lib.hid (row_on HR8.out hb9)
            have HB9 := Lib.hid (HB8.out.trans (hb9.mono HB8.out.size))
            clear hd9 hb9
            go_wp2_with (with_reducible show wpList _ _ _ (⟨none, .store _ (.tmp 2) _, _, _, _, _⟩ :: _) _ _
                         go_must (refine wpList_store_row rfl 35 (.tmp 2) (.tmp 83) rfl (w.heap.size + 1) #[.bool cb, .slice u1 n1 k1, .slice u2 n2 k2, .int .i64 cx, .int .i64 cy, .string cs, .slice u3 n3 k3] rfl rfl _ _ HR9.out size_did rfl (by simp [Value.oneCell']) ?_))
            have hz := setRow_heap w9 (w.heap.size + 1) _ (#[.bool cb, .slice u1 n1 k1, .slice u2 n2 k2, .int .i64 cx, .int .i64 cy, .string cs, .slice u3 n3 k3] : Array Value) _ _ HR9.out
            rw [HDD.out]
            exact bodyPost_ret (v := .agg #[.bool cb, .slice u1 n1 k1, .slice u2 n2 k2, .int .i64 cx, .int .i64 cy, .string cs, .slice u3 n3 k3]) (results_cell_row Tryd.results29 _ _ (w.heap.size + 1) _ _ _ _ rfl hz Tryd.underlying35 rfl (by kernel_rfl)) rfl ⟨_, rfl, HD9.out.imp (fun _ h => h) (by simp) (fun b hb _ => setRow_other w9 (w.heap.size + 1) b _ (by rcases hb with h | h; (· have := h.2; omega); (· omega))), below_row HB9.out (by omega)⟩
        | false =>
          have HK1 := Lib.hid hz1
          clear hz1
          have HDD := Lib.hid (show concatD x y z = .wr (formalE 13 (⟨#[97, 116, 111, 109, 105, 99]⟩ : ByteArray) z) from by unfold concatD; rw [if_neg HK.out]; have hn : nameT z = none := (by simpa using HOZ.out.symm); obtain ⟨q, hq⟩ := Option.isSome_iff_exists.1 HOX.out.symm; obtain ⟨q2, hq2⟩ := Option.isSome_iff_exists.1 HOY.out.symm; rw [hq, hq2]; simp only []; rw [if_pos ⟨HK1.out, hn⟩])
          go_wp2_with fail
          refine (tx_wrong 13 (⟨#[97, 116, 111, 109, 105, 99]⟩ : ByteArray) z _ (fun b => P b ∧ b < w.heap.size ∨ w.heap.size + 2 ≤ b) _ (by omega) HZ7.out).mono ?_
          rintro e9 w9 ⟨v9, rfl, hd9, hb9⟩
          obtain ⟨cb, u1, u2, u3, n1, k1, n2, k2, n3, k3, cx, cy, cs, rfl⟩ := hd9.cells
          have HD9 := Lib.hid (hd9.imp (P' := fun b => P b ∧ b < w.heap.size ∨ w.heap.size + 2 ≤ b) (fun b hb => by rcases hb with hb | hb; (· exact hb); (· exact Or.inr (by omega))) (Nat.le_refl _) (fun _ _ _ => rfl))
          have HR9 := Lib.hid (row_on HR7.out hb9)
          have HB9 := Lib.hid (HB7.out.trans (hb9.mono HB7.out.size))
          clear hd9 hb9
          go_wp2_with (with_reducible show wpList _ _ _ (⟨none, .store _ (.tmp 2) _, _, _, _, _⟩ :: _) _ _
                       go_must (refine wpList_store_row rfl 35 (.tmp 2) (.tmp 69) rfl (w.heap.size + 1) #[.bool cb, .slice u1 n1 k1, .slice u2 n2 k2, .int .i64 cx, .int .i64 cy, .string cs, .slice u3 n3 k3] rfl rfl _ _ HR9.out size_did rfl (by simp [Value.oneCell']) ?_))
          have hz := setRow_heap w9 (w.heap.size + 1) _ (#[.bool cb, .slice u1 n1 k1, .slice u2 n2 k2, .int .i64 cx, .int .i64 cy, .string cs, .slice u3 n3 k3] : Array Value) _ _ HR9.out
          rw [HDD.out]
          exact bodyPost_ret (v := .agg #[.bool cb, .slice u1 n1 k1, .slice u2 n2 k2, .int .i64 cx, .int .i64 cy, .string cs, .slice u3 n3 k3]) (results_cell_row Tryd.results29 _ _ (w.heap.size + 1) _ _ _ _ rfl hz Tryd.underlying35 rfl (by kernel_rfl)) rfl ⟨_, rfl, HD9.out.imp (fun _ h => h) (by simp) (fun b hb _ => setRow_other w9 (w.heap.size + 1) b _ (by rcases hb with h | h; (· have := h.2; omega); (· omega))), below_row HB9.out (by omega)⟩
end Go.Proofs.YtkhchmgdaolojaaDoor.Tms
