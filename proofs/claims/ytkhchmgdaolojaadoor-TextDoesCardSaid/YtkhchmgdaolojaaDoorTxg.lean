
/-
  Layer 16: length, spell, chars, codes of a call, walked.
  Layer 16: spell, chars, codes of a call, walked.
-/
import Derived.Test.YtkhchmgdaolojaaDoorTxd
import Derived.Test.YtkhchmgdaolojaaDoorAgv
import Derived.Test.YtkhchmgdaolojaaDoorNuJ
namespace Go.Proofs.YtkhchmgdaolojaaDoor.Tms
open Go Go.RowKit Go.Proofs.YtkhchmgdaolojaaDoor.Reg Go.Proofs.YtkhchmgdaolojaaDoor.Rws Go.Proofs.YtkhchmgdaolojaaDoor.Maps Go.Instr
set_option linter.unusedVariables false
set_option linter.unusedSimpArgs false

/-- a method's answer -/
def TellsM (d : Dd) (P : Nat → Prop) (w : World) (e : Ending) (w' : World) : Prop := ∃ v, e = .returned v ∧ IsDd w' (fun b => P b ∧ b < w.heap.size ∨ w.heap.size + 2 ≤ b) v d ∧ Below w.heap.size w w'
theorem tx_name_some {t : Tm} {s : ByteArray} (v : Value) (P : Nat → Prop) (w : World) (h : IsTm w P v t) (hf : Num.Fit t.n) (ht : Num.Tab w) (hn : nameT t = some s) : Calls Tryd.prog 35 #[v] w (fun e w' => e = .returned (.tuple #[.string s, .bool true]) ∧ Below w.heap.size w w') := by
  have := tx_nameOf t v P w h hf ht
  rw [hn] at this
  exact this
theorem tx_name_none {t : Tm} (v : Value) (P : Nat → Prop) (w : World) (h : IsTm w P v t) (hf : Num.Fit t.n) (ht : Num.Tab w) (hn : nameT t = none) : Calls Tryd.prog 35 #[v] w (fun e w' => e = .returned (.tuple #[.string ⟨#[]⟩, .bool false]) ∧ Below w.heap.size w w') := by
  have := tx_nameOf t v P w h hf ht
  rw [hn] at this
  exact this
theorem name_var {t : Tm} (h : t.k = 1) : nameT t = none := by unfold nameT; rw [if_neg (by omega), if_neg (by omega)]
/-- atom_length -/
def lengthD (a b : Tm) : Dd := if a.k = 1 then .wr (formalE 12 ⟨#[]⟩ a) else match nameT a with
  | none => .wr (formalE 13 (⟨#[97, 116, 111, 109]⟩ : ByteArray) a)
  | some s => if b.k ≠ 1 ∧ b.k ≠ 2 then .wr (formalE 13 (⟨#[105, 110, 116, 101, 103, 101, 114]⟩ : ByteArray) b) else if b.k = 2 ∧ b.n < 0 then .wr (formalE 14 (⟨#[110, 111, 116, 95, 108, 101, 115, 115, 95, 116, 104, 97, 110, 95, 122, 101, 114, 111]⟩ : ByteArray) b) else .is 1 (intT s.size)
/-- atom_chars, atom_codes -/
def spellD (codes : Bool) (a b : Tm) : Dd := match nameT a with
  | some s => .is 1 (listT (charsT codes s.data.toList) nilT)
  | none => if a.k ≠ 1 then .wr (formalE 13 (⟨#[97, 116, 111, 109]⟩ : ByteArray) a) else match textT codes b with
    | (some x, _) => .wr x
    | (none, l) => if 1000 < l.length then .wr (formalE 3 (⟨#[109, 97, 120, 95, 97, 116, 111, 109, 95, 108, 101, 110, 103, 116, 104]⟩ : ByteArray) zeroT0) else .is 0 (atomT ⟨l.toArray⟩)
theorem name_size {t : Tm} {s : ByteArray} (h : nameT t = some s) (hf : Num.Fit t.n) (hs : t.s.size ≤ 100000) : s.size ≤ 100000 := by
  unfold nameT at h
  split at h
  · cases h
    have := Num.itoa_len hf
    show (Lib.itoa t.n).toArray.size ≤ 100000
    simp; omega
  · split at h
    · cases h; exact hs
    · cases h
set_option maxRecDepth 100000 in
set_option maxHeartbeats 4000000 in
theorem tx_length (x y : Tm) (P : Nat → Prop) (w : World) (a : Option Addr) (c : Nat) (h : IsSl w P (.slice a 2 c) [x, y]) (hM : x.size ≤ 1000000) (hM' : y.size ≤ 1000000) (hf : Num.Fit x.n) (hf' : Num.Fit y.n) (hs1 : x.s.size ≤ 100000) (hs2 : y.s.size ≤ 100000) (ht : Num.Tab w) : Calls Tryd.prog 24 #[.agg #[.slice a 2 c]] w (TellsM (lengthD x y) P w) := by
  have HTB := Lib.hid ht
  clear ht
  obtain ⟨w1, w2, w3, w4⟩ := two w (.cells #[.slice a 2 c] 59 (0, 0)) (.cells #[.bool false, .slice none 0 0, .slice none 0 0, .int .i64 0, .int .i64 0, .string ⟨#[]⟩, .slice none 0 0] 35 (0, 0))
  have x0 := cell_of_row _ _ 0 _ _ _ w1
  have HR := Lib.hid w2
  have HC := Lib.hid w1
  have HB := Lib.hid w4
  have HZ := Lib.hid w3
  have H := Lib.hid (h.lt2.below w4)
  obtain ⟨b, off, e1, -⟩ := H.out.at 0 (by simp)
  subst e1
  clear h w1 w2 w3 w4
  have HF := Lib.hid (And.intro hf hf')
  clear hf hf'
  go_enter Tryd.func24, Tryd.ntmps24
  go_upto_region 1 with fail
  generalize ((w.alloc (.cells #[.slice (some ⟨b, off, none⟩) 2 c] 59 (0, 0))).alloc (.cells #[.bool false, .slice none 0 0, .slice none 0 0, .int .i64 0, .int .i64 0, .string ⟨#[]⟩, .slice none 0 0] 35 (0, 0))) = W1 at *
  go_cut [3, 4] from 7 to 14 (fun v3 v4 wx => Args2 x y (fun b => P b ∧ b < w.heap.size) W1 v3 v4 wx)
  case first =>
    refine wp_region_rest (by kernel_rfl) ?_
    have hd := (Below.refl W1.heap.size W1).drew
    have hs2 : W1.drew.heap.size = w.heap.size + 2 := HZ.out
    have h0 := H.out.below hd
    have hc2 := (hd.block _ (Array.getElem?_eq_some_iff.1 HC.out).1).trans HC.out
    have HD := Lib.hid hd
    have hlt2 : w.heap.size < W1.drew.heap.size := by rw [hs2]; omega
    clear hs2
    clear x0 HR HC HB H hd HZ
    generalize W1.drew = W2 at *
    have x0 := cell_of_row _ _ 0 _ _ _ hc2
    clear hc2
    obtain ⟨qa, qc, y0, y1, y2, y3, hit, hl1⟩ := (h0.atb 0 (by simp)).read
    obtain ⟨za, zc, z0, z1, z2, z3, hit', hl2⟩ := (h0.atb 1 (by simp)).read
    simp only [List.getElem_cons_zero, List.getElem_cons_succ, Nat.zero_mul, Nat.add_zero, Nat.one_mul] at y0 y1 y2 y3 z0 z1 z2 z3 hit hit'
    have HI1 := Lib.hid hit.args
    have HI2 := Lib.hid hit'.args
    have HQ := Lib.hid (show ∀ b, (P b ∧ b < w.heap.size) → b < W2.heap.size from fun b hb => by have := hb.2; omega)
    clear hit hit' h0
    refine rest_chainP (fun u => Below W2.heap.size W2 u) 0 12 (.soft 0 (.soft 1 (.soft 2 (.soft 3 (.soft 4 (.soft 5 (.soft 6 (.soft 7 (.two 8 9 (.one 9 (.one 10 (.one 11 .nil))) (.one 8 (.one 10 (.one 11 .nil)))))))))))) (.soft _ (.soft _ (.soft _ (.soft _ (.soft _ (.soft _ (.soft _ (.soft _ (.two _ _ (.one _ (.one _ (.one _ .nil))) (.one _ (.one _ (.one _ .nil)))))))))))) ⟨rfl, ⟨rfl, ⟨rfl, ⟨rfl, ⟨rfl, ⟨rfl, ⟨rfl, ⟨rfl, ⟨rfl, rfl, ⟨rfl, ⟨rfl, ⟨rfl, trivial⟩⟩⟩, ⟨rfl, ⟨rfl, ⟨rfl, trivial⟩⟩⟩⟩⟩⟩⟩⟩⟩⟩⟩⟩ (by kernel_rfl) (by kernel_rfl) (by kernel_rfl) (by kernel_rfl) (.inl rfl) (Below.refl _ _) ?_
    refine chainP_soft (a1 := ?ma1) (by kernel_rfl) (by kernel_rfl) ?mh1 ?mr1
    case mh1 =>
      intro u hu E hE
      go_wp2
      rfl
    refine chainP_soft (a1 := ?ma2) (by kernel_rfl) (by kernel_rfl) ?mh2 ?mr2
    case mh2 =>
      intro u hu E hE
      have c0 := (hu.cell (p := ⟨w.heap.size, 0, none⟩) hlt2).trans x0
      go_wp2
      rfl
    refine chainP_soft (a1 := ?ma3) (by kernel_rfl) (by kernel_rfl) ?mh3 ?mr3
    case mh3 =>
      intro u hu E hE
      go_wp2
      rfl
    refine chainP_soft (a1 := ?ma4) (by kernel_rfl) (by kernel_rfl) ?mh4 ?mr4
    case mh4 =>
      intro u hu E hE
      have c0 := (hu.cell (p := ⟨b, off, none⟩) hl1).trans y0
      have c1 := (hu.cell (p := ⟨b, off + 1, none⟩) hl1).trans y1
      have c2 := (hu.cell (p := ⟨b, off + 2, none⟩) hl1).trans y2
      have c3 := (hu.cell (p := ⟨b, off + 3, none⟩) hl1).trans y3
      go_wp2
      rfl
    refine chainP_soft (a1 := ?ma5) (by kernel_rfl) (by kernel_rfl) ?mh5 ?mr5
    case mh5 =>
      intro u hu E hE
      go_wp2
      rfl
    refine chainP_soft (a1 := ?ma6) (by kernel_rfl) (by kernel_rfl) ?mh6 ?mr6
    case mh6 =>
      intro u hu E hE
      have c0 := (hu.cell (p := ⟨w.heap.size, 0, none⟩) hlt2).trans x0
      go_wp2
      rfl
    refine chainP_soft (a1 := ?ma7) (by kernel_rfl) (by kernel_rfl) ?mh7 ?mr7
    case mh7 =>
      intro u hu E hE
      go_wp2
      rfl
    refine chainP_soft (a1 := ?ma8) (by kernel_rfl) (by kernel_rfl) ?mh8 ?mr8
    case mh8 =>
      intro u hu E hE
      have c0 := (hu.cell (p := ⟨b, off + 4, none⟩) hl1).trans z0
      have c1 := (hu.cell (p := ⟨b, off + 4 + 1, none⟩) hl1).trans z1
      have c2 := (hu.cell (p := ⟨b, off + 4 + 2, none⟩) hl1).trans z2
      have c3 := (hu.cell (p := ⟨b, off + 4 + 3, none⟩) hl1).trans z3
      go_wp2
      rfl
    clear x0 y0 y1 y2 y3 z0 z1 z2 z3
    refine chainP_two ?_ ?_
    · intro E hE
      go_wp2
      refine ⟨(Below.refl W2.heap.size W2).alloc (Nat.le_refl _) _, ?_⟩
      refine chainP_one ?_
      intro E hE
      go_wp2
      have HK := Lib.hid (two W2 (.cells #[.int .i64 0, .int .i64 0, .string ⟨#[]⟩, .slice none 0 0] 28 (0, 0)) (.cells #[.int .i64 0, .int .i64 0, .string ⟨#[]⟩, .slice none 0 0] 28 (0, 0)))
      refine ⟨HK.out.2.2.2, ?_⟩
      refine chainP_one ?_
      intro E hE
      go_wp2_with (refine wpList_store_row rfl 28 (.tmp 3) (.tmp 10) rfl W2.heap.size #[.int .i64 x.k, .int .i64 x.n, .string x.s, .slice qa x.args.length qc] rfl rfl _ _ HK.out.1 size_term rfl (one4 _ _ _ _ _ _) ?_)
      refine ⟨(below_row HK.out.2.2.2 (by omega)), ?_⟩
      refine chainP_one ?_
      intro E hE
      go_wp2_with (refine wpList_store_row rfl 28 (.tmp 4) (.tmp 14) rfl (W2.heap.size + 1) #[.int .i64 y.k, .int .i64 y.n, .string y.s, .slice za y.args.length zc] rfl rfl _ _ ((setRow_other _ _ _ _ (by omega)).trans HK.out.2.1) size_term rfl (one4 _ _ _ _ _ _) ?_)
      refine ⟨(below_row (below_row HK.out.2.2.2 (by omega)) (by omega)), ?_⟩
      have HFIN := Lib.hid (args_two (g := W2.heap.size) (g' := (W2.heap.size + 1)) HK.out.2.2.2 (by omega) (by omega) (by omega) HQ.out HK.out.1 HK.out.2.1 (HI1.out.below HK.out.2.2.2) (HI2.out.below HK.out.2.2.2))
      clear HK
      refine chainP_nil (rest_end (by decide) ?_)
      go_wp2
      go_meet
      exact Args2.lift HD.out HFIN.out
    · intro E hE
      go_wp2
      refine ⟨(Below.refl W2.heap.size W2).alloc (Nat.le_refl _) _, ?_⟩
      refine chainP_one ?_
      intro E hE
      go_wp2
      have HK := Lib.hid (two W2 (.cells #[.int .i64 0, .int .i64 0, .string ⟨#[]⟩, .slice none 0 0] 28 (0, 0)) (.cells #[.int .i64 0, .int .i64 0, .string ⟨#[]⟩, .slice none 0 0] 28 (0, 0)))
      refine ⟨HK.out.2.2.2, ?_⟩
      refine chainP_one ?_
      intro E hE
      go_wp2_with (refine wpList_store_row rfl 28 (.tmp 3) (.tmp 10) rfl (W2.heap.size + 1) #[.int .i64 x.k, .int .i64 x.n, .string x.s, .slice qa x.args.length qc] rfl rfl _ _ HK.out.2.1 size_term rfl (one4 _ _ _ _ _ _) ?_)
      refine ⟨(below_row HK.out.2.2.2 (by omega)), ?_⟩
      refine chainP_one ?_
      intro E hE
      go_wp2_with (refine wpList_store_row rfl 28 (.tmp 4) (.tmp 14) rfl W2.heap.size #[.int .i64 y.k, .int .i64 y.n, .string y.s, .slice za y.args.length zc] rfl rfl _ _ ((setRow_other _ _ _ _ (by omega)).trans HK.out.1) size_term rfl (one4 _ _ _ _ _ _) ?_)
      refine ⟨(below_row (below_row HK.out.2.2.2 (by omega)) (by omega)), ?_⟩
      have HFIN := Lib.hid (args_two (g := (W2.heap.size + 1)) (g' := W2.heap.size) HK.out.2.2.2 (by omega) (by omega) (by omega) HQ.out HK.out.2.1 HK.out.1 (HI1.out.below HK.out.2.2.2) (HI2.out.below HK.out.2.2.2))
      clear HK
      refine chainP_nil (rest_end (by decide) ?_)
      go_wp2
      go_meet
      exact Args2.lift HD.out HFIN.out
  case rest =>
    obtain ⟨b3, b4, rfl, rfl, ⟨a3, c3, r3, i3⟩, ⟨a4, c4, r4, i4⟩, hbc⟩ := hcut
    have HR3 := Lib.hid (row_on HR.out hbc)
    have hb3 := HB.out.trans (hbc.mono HB.out.size)
    have hs3 : w.heap.size + 2 ≤ wc.heap.size := by have := HZ.out; have := hbc.size; omega
    have HB3 := Lib.hid hb3
    have HX := Lib.hid (show IsTm wc (fun b => P b ∧ b < w.heap.size ∨ w.heap.size + 2 ≤ b) (.agg #[.int .i64 x.k, .int .i64 x.n, .string x.s, .slice a3 x.args.length c3]) x from (IsTm.mk' i3).imp (fun b hb => Or.inl hb) fun _ _ _ => rfl)
    have HY := Lib.hid (show IsTm wc (fun b => P b ∧ b < w.heap.size ∨ w.heap.size + 2 ≤ b) (.agg #[.int .i64 y.k, .int .i64 y.n, .string y.s, .slice a4 y.args.length c4]) y from (IsTm.mk' i4).imp (fun b hb => Or.inl hb) fun _ _ _ => rfl)
    have HT3 := Lib.hid (HTB.out.on hb3)
    have R3 := Lib.hid r3
    have R4 := Lib.hid r4
    obtain ⟨y0, y1, y2, y3⟩ := row4 r3
    obtain ⟨z0, z1, z2, z3⟩ := row4 r4
    have hl3 := (Array.getElem?_eq_some_iff.1 r3).1
    have hl4 := (Array.getElem?_eq_some_iff.1 r4).1
    clear i3 i4 HR HC HZ H HB hbc x0 hb3 r3 r4 HTB
    cases hn : nameT x with
    | none =>
      have HN := Lib.hid hn
      clear hn
      go_wp2_with fail
      refine (tx_name_none _ _ _ HX.out HF.out.1 HT3.out HN.out).mono ?_
      rintro e5 w5 ⟨rfl, hb5⟩
      have HR5 := Lib.hid (row_on HR3.out hb5)
      have HB5 := Lib.hid (HB3.out.trans (hb5.mono HB3.out.size))
      have hs5 : w.heap.size + 2 ≤ w5.heap.size := by have := hb5.size; omega
      have HX5 := Lib.hid (HX.out.below hb5)
      have HY5 := Lib.hid (HY.out.below hb5)
      have HT5 := Lib.hid (HT3.out.on hb5)
      clear y0 y1 y2 y3 z0 z1 z2 z3
      obtain ⟨y0, y1, y2, y3⟩ := row4 (row_on R3.out hb5)
      obtain ⟨z0, z1, z2, z3⟩ := row4 (row_on R4.out hb5)
      clear hb5 HR3 HB3 hs3 HX HY HT3 R3 R4 hl3 hl4
      by_cases hk1 : x.k = 1
      · have c1 : (x.k == 1) = true := by rw [hk1]; rfl
        have HK := Lib.hid hk1
        clear hk1
        have HDD := Lib.hid (show lengthD x y = .wr (formalE 12 ⟨#[]⟩ x) by unfold lengthD; rw [if_pos HK.out])
        go_wp2_with fail
        refine (tx_wrong 12 ⟨#[]⟩ x _ (fun b => P b ∧ b < w.heap.size ∨ w.heap.size + 2 ≤ b) _ (by omega) HX5.out).mono ?_
        rintro e9 w9 ⟨v9, rfl, hd9, hb9⟩
        obtain ⟨cb, u1, u2, u3, n1, k1, n2, k2, n3, k3, cx, cy, cs, rfl⟩ := hd9.cells
        have HD9 := Lib.hid (hd9.imp (P' := fun b => P b ∧ b < w.heap.size ∨ w.heap.size + 2 ≤ b) (fun b hb => by rcases hb with hb | hb; (· exact hb); (· exact Or.inr (by omega))) (Nat.le_refl _) (fun _ _ _ => rfl))
        have HR9 := Lib.hid (row_on HR5.out hb9)
        have HB9 := Lib.hid (HB5.out.trans (hb9.mono HB5.out.size))
        clear hd9 hb9
        go_wp2_with (with_reducible show wpList _ _ _ (⟨none, .store _ (.tmp 2) _, _, _, _, _⟩ :: _) _ _
                     go_must (refine wpList_store_row rfl 35 (.tmp 2) (.tmp 25) rfl (w.heap.size + 1) #[.bool cb, .slice u1 n1 k1, .slice u2 n2 k2, .int .i64 cx, .int .i64 cy, .string cs, .slice u3 n3 k3] rfl rfl _ _ HR9.out size_did rfl (by simp [Value.oneCell']) ?_))
        have hz := setRow_heap w9 (w.heap.size + 1) _ (#[.bool cb, .slice u1 n1 k1, .slice u2 n2 k2, .int .i64 cx, .int .i64 cy, .string cs, .slice u3 n3 k3] : Array Value) _ _ HR9.out
        rw [HDD.out]
        exact bodyPost_ret (v := .agg #[.bool cb, .slice u1 n1 k1, .slice u2 n2 k2, .int .i64 cx, .int .i64 cy, .string cs, .slice u3 n3 k3]) (results_cell_row Tryd.results24 _ _ (w.heap.size + 1) _ _ _ _ rfl hz Tryd.underlying35 rfl (by kernel_rfl)) rfl ⟨_, rfl, HD9.out.imp (fun _ h => h) (by simp) (fun b hb _ => setRow_other w9 (w.heap.size + 1) b _ (by rcases hb with h | h; (· have := h.2; omega); (· omega))), below_row HB9.out (by omega)⟩
      · have c1 : (x.k == 1) = false := by simpa using hk1
        have HK := Lib.hid hk1
        clear hk1
        have HDD := Lib.hid (show lengthD x y = .wr (formalE 13 (⟨#[97, 116, 111, 109]⟩ : ByteArray) x) by unfold lengthD; rw [if_neg HK.out, HN.out])
        go_wp2_with fail
        refine (tx_wrong 13 (⟨#[97, 116, 111, 109]⟩ : ByteArray) x _ (fun b => P b ∧ b < w.heap.size ∨ w.heap.size + 2 ≤ b) _ (by omega) HX5.out).mono ?_
        rintro e9 w9 ⟨v9, rfl, hd9, hb9⟩
        obtain ⟨cb, u1, u2, u3, n1, k1, n2, k2, n3, k3, cx, cy, cs, rfl⟩ := hd9.cells
        have HD9 := Lib.hid (hd9.imp (P' := fun b => P b ∧ b < w.heap.size ∨ w.heap.size + 2 ≤ b) (fun b hb => by rcases hb with hb | hb; (· exact hb); (· exact Or.inr (by omega))) (Nat.le_refl _) (fun _ _ _ => rfl))
        have HR9 := Lib.hid (row_on HR5.out hb9)
        have HB9 := Lib.hid (HB5.out.trans (hb9.mono HB5.out.size))
        clear hd9 hb9
        go_wp2_with (with_reducible show wpList _ _ _ (⟨none, .store _ (.tmp 2) _, _, _, _, _⟩ :: _) _ _
                     go_must (refine wpList_store_row rfl 35 (.tmp 2) (.tmp 30) rfl (w.heap.size + 1) #[.bool cb, .slice u1 n1 k1, .slice u2 n2 k2, .int .i64 cx, .int .i64 cy, .string cs, .slice u3 n3 k3] rfl rfl _ _ HR9.out size_did rfl (by simp [Value.oneCell']) ?_))
        have hz := setRow_heap w9 (w.heap.size + 1) _ (#[.bool cb, .slice u1 n1 k1, .slice u2 n2 k2, .int .i64 cx, .int .i64 cy, .string cs, .slice u3 n3 k3] : Array Value) _ _ HR9.out
        rw [HDD.out]
        exact bodyPost_ret (v := .agg #[.bool cb, .slice u1 n1 k1, .slice u2 n2 k2, .int .i64 cx, .int .i64 cy, .string cs, .slice u3 n3 k3]) (results_cell_row Tryd.results24 _ _ (w.heap.size + 1) _ _ _ _ rfl hz Tryd.underlying35 rfl (by kernel_rfl)) rfl ⟨_, rfl, HD9.out.imp (fun _ h => h) (by simp) (fun b hb _ => setRow_other w9 (w.heap.size + 1) b _ (by rcases hb with h | h; (· have := h.2; omega); (· omega))), below_row HB9.out (by omega)⟩
    | some sn =>
      have hk1 : x.k ≠ 1 := fun h => by rw [name_var h] at hn; cases hn
      have HN := Lib.hid hn
      have HK := Lib.hid hk1
      have c1 : (x.k == 1) = false := by simpa using hk1
      have hsn : sn.size ≤ 100000 := name_size hn HF.out.1 hs1
      clear hn hk1
      go_wp2_with fail
      refine (tx_name_some _ _ _ HX.out HF.out.1 HT3.out HN.out).mono ?_
      rintro e5 w5 ⟨rfl, hb5⟩
      have HR5 := Lib.hid (row_on HR3.out hb5)
      have HB5 := Lib.hid (HB3.out.trans (hb5.mono HB3.out.size))
      have hs5 : w.heap.size + 2 ≤ w5.heap.size := by have := hb5.size; omega
      have HX5 := Lib.hid (HX.out.below hb5)
      have HY5 := Lib.hid (HY.out.below hb5)
      have HT5 := Lib.hid (HT3.out.on hb5)
      clear y0 y1 y2 y3 z0 z1 z2 z3
      obtain ⟨y0, y1, y2, y3⟩ := row4 (row_on R3.out hb5)
      obtain ⟨z0, z1, z2, z3⟩ := row4 (row_on R4.out hb5)
      clear hb5 HR3 HB3 hs3 HX HY HT3 R3 R4 hl3 hl4
      by_cases hy : y.k ≠ 1 ∧ y.k ≠ 2
      · have c2 : (y.k != 1) = true := by simpa using hy.1
        have c3 : (y.k != 2) = true := by simpa using hy.2
        have HY2 := Lib.hid hy
        clear hy
        have HDD := Lib.hid (show lengthD x y = .wr (formalE 13 (⟨#[105, 110, 116, 101, 103, 101, 114]⟩ : ByteArray) y) by unfold lengthD; rw [if_neg HK.out, HN.out]; simp only []; rw [if_pos HY2.out])
        go_wp2_with fail
        refine (tx_wrong 13 (⟨#[105, 110, 116, 101, 103, 101, 114]⟩ : ByteArray) y _ (fun b => P b ∧ b < w.heap.size ∨ w.heap.size + 2 ≤ b) _ (by omega) HY5.out).mono ?_
        rintro e9 w9 ⟨v9, rfl, hd9, hb9⟩
        obtain ⟨cb, u1, u2, u3, n1, k1, n2, k2, n3, k3, cx, cy, cs, rfl⟩ := hd9.cells
        have HD9 := Lib.hid (hd9.imp (P' := fun b => P b ∧ b < w.heap.size ∨ w.heap.size + 2 ≤ b) (fun b hb => by rcases hb with hb | hb; (· exact hb); (· exact Or.inr (by omega))) (Nat.le_refl _) (fun _ _ _ => rfl))
        have HR9 := Lib.hid (row_on HR5.out hb9)
        have HB9 := Lib.hid (HB5.out.trans (hb9.mono HB5.out.size))
        clear hd9 hb9
        go_wp2_with (with_reducible show wpList _ _ _ (⟨none, .store _ (.tmp 2) _, _, _, _, _⟩ :: _) _ _
                     go_must (refine wpList_store_row rfl 35 (.tmp 2) (.tmp 41) rfl (w.heap.size + 1) #[.bool cb, .slice u1 n1 k1, .slice u2 n2 k2, .int .i64 cx, .int .i64 cy, .string cs, .slice u3 n3 k3] rfl rfl _ _ HR9.out size_did rfl (by simp [Value.oneCell']) ?_))
        have hz := setRow_heap w9 (w.heap.size + 1) _ (#[.bool cb, .slice u1 n1 k1, .slice u2 n2 k2, .int .i64 cx, .int .i64 cy, .string cs, .slice u3 n3 k3] : Array Value) _ _ HR9.out
        rw [HDD.out]
        exact bodyPost_ret (v := .agg #[.bool cb, .slice u1 n1 k1, .slice u2 n2 k2, .int .i64 cx, .int .i64 cy, .string cs, .slice u3 n3 k3]) (results_cell_row Tryd.results24 _ _ (w.heap.size + 1) _ _ _ _ rfl hz Tryd.underlying35 rfl (by kernel_rfl)) rfl ⟨_, rfl, HD9.out.imp (fun _ h => h) (by simp) (fun b hb _ => setRow_other w9 (w.heap.size + 1) b _ (by rcases hb with h | h; (· have := h.2; omega); (· omega))), below_row HB9.out (by omega)⟩
      · have HY2 := Lib.hid hy
        have hyk : (y.k = 1 ∧ (y.k != 1) = false ∧ (y.k == 2) = false) ∨ (y.k = 2 ∧ (y.k != 1) = true ∧ (y.k != 2) = false ∧ (y.k == 2) = true) := by
          by_cases h1 : y.k = 1
          · exact .inl ⟨h1, by rw [h1]; rfl, by rw [h1]; rfl⟩
          · have h2 : y.k = 2 := by
              by_cases h2 : y.k = 2
              · exact h2
              · exact absurd ⟨h1, h2⟩ hy
            exact .inr ⟨h2, by rw [h2]; rfl, by rw [h2]; rfl, by rw [h2]; rfl⟩
        clear hy
        rcases hyk with ⟨hk, c2, c3⟩ | ⟨hk, c2, c3, c4⟩
        · have HKY := Lib.hid hk
          clear hk
          have HDD := Lib.hid (show lengthD x y = .is 1 (intT sn.size) by unfold lengthD; rw [if_neg HK.out, HN.out]; simp only []; rw [if_neg HY2.out, if_neg (fun h => by have h1 := HKY.out; rw [h1] at h; exact absurd h.1 (by decide))])
          go_wp2_with fail
          refine (tx_whole _ _).mono ?_
          rintro e6 w6 ⟨rfl, hb6⟩
          have HR6 := Lib.hid (row_on HR5.out hb6)
          have HB6 := Lib.hid (HB5.out.trans (hb6.mono HB5.out.size))
          have hs6 : w.heap.size + 2 ≤ w6.heap.size := by have := hb6.size; omega
          clear hb6
          go_wp2_with fail
          refine (tx_is 1 (intT sn.size) _ (fun b => P b ∧ b < w.heap.size ∨ w.heap.size + 2 ≤ b) _ (int_is _ _ _)).mono ?_
          rintro e9 w9 ⟨v9, rfl, hd9, hb9⟩
          obtain ⟨cb, u1, u2, u3, n1, k1, n2, k2, n3, k3, cx, cy, cs, rfl⟩ := hd9.cells
          have HD9 := Lib.hid (hd9.imp (P' := fun b => P b ∧ b < w.heap.size ∨ w.heap.size + 2 ≤ b) (fun b hb => by rcases hb with hb | hb; (· exact hb); (· exact Or.inr (by omega))) (Nat.le_refl _) (fun _ _ _ => rfl))
          have HR9 := Lib.hid (row_on HR6.out hb9)
          have HB9 := Lib.hid (HB6.out.trans (hb9.mono HB6.out.size))
          clear hd9 hb9
          go_wp2_with (with_reducible show wpList _ _ _ (⟨none, .store _ (.tmp 2) _, _, _, _, _⟩ :: _) _ _
                       go_must (refine wpList_store_row rfl 35 (.tmp 2) (.tmp 56) rfl (w.heap.size + 1) #[.bool cb, .slice u1 n1 k1, .slice u2 n2 k2, .int .i64 cx, .int .i64 cy, .string cs, .slice u3 n3 k3] rfl rfl _ _ HR9.out size_did rfl (by simp [Value.oneCell']) ?_))
          have hz := setRow_heap w9 (w.heap.size + 1) _ (#[.bool cb, .slice u1 n1 k1, .slice u2 n2 k2, .int .i64 cx, .int .i64 cy, .string cs, .slice u3 n3 k3] : Array Value) _ _ HR9.out
          rw [HDD.out]
          exact bodyPost_ret (v := .agg #[.bool cb, .slice u1 n1 k1, .slice u2 n2 k2, .int .i64 cx, .int .i64 cy, .string cs, .slice u3 n3 k3]) (results_cell_row Tryd.results24 _ _ (w.heap.size + 1) _ _ _ _ rfl hz Tryd.underlying35 rfl (by kernel_rfl)) rfl ⟨_, rfl, HD9.out.imp (fun _ h => h) (by simp) (fun b hb _ => setRow_other w9 (w.heap.size + 1) b _ (by rcases hb with h | h; (· have := h.2; omega); (· omega))), below_row HB9.out (by omega)⟩
        · have HKY := Lib.hid hk
          clear hk
          by_cases hneg : y.n < 0
          · have c5 : decide (y.n < 0) = true := by simpa using hneg
            have HNG := Lib.hid hneg
            clear hneg
            have HDD := Lib.hid (show lengthD x y = .wr (formalE 14 (⟨#[110, 111, 116, 95, 108, 101, 115, 115, 95, 116, 104, 97, 110, 95, 122, 101, 114, 111]⟩ : ByteArray) y) by unfold lengthD; rw [if_neg HK.out, HN.out]; simp only []; rw [if_neg HY2.out, if_pos ⟨HKY.out, HNG.out⟩])
            go_wp2_with fail
            refine (tx_wrong 14 (⟨#[110, 111, 116, 95, 108, 101, 115, 115, 95, 116, 104, 97, 110, 95, 122, 101, 114, 111]⟩ : ByteArray) y _ (fun b => P b ∧ b < w.heap.size ∨ w.heap.size + 2 ≤ b) _ (by omega) HY5.out).mono ?_
            rintro e9 w9 ⟨v9, rfl, hd9, hb9⟩
            obtain ⟨cb, u1, u2, u3, n1, k1, n2, k2, n3, k3, cx, cy, cs, rfl⟩ := hd9.cells
            have HD9 := Lib.hid (hd9.imp (P' := fun b => P b ∧ b < w.heap.size ∨ w.heap.size + 2 ≤ b) (fun b hb => by rcases hb with hb | hb; (· exact hb); (· exact Or.inr (by omega))) (Nat.le_refl _) (fun _ _ _ => rfl))
            have HR9 := Lib.hid (row_on HR5.out hb9)
            have HB9 := Lib.hid (HB5.out.trans (hb9.mono HB5.out.size))
            clear hd9 hb9
            go_wp2_with (with_reducible show wpList _ _ _ (⟨none, .store _ (.tmp 2) _, _, _, _, _⟩ :: _) _ _
                         go_must (refine wpList_store_row rfl 35 (.tmp 2) (.tmp 52) rfl (w.heap.size + 1) #[.bool cb, .slice u1 n1 k1, .slice u2 n2 k2, .int .i64 cx, .int .i64 cy, .string cs, .slice u3 n3 k3] rfl rfl _ _ HR9.out size_did rfl (by simp [Value.oneCell']) ?_))
            have hz := setRow_heap w9 (w.heap.size + 1) _ (#[.bool cb, .slice u1 n1 k1, .slice u2 n2 k2, .int .i64 cx, .int .i64 cy, .string cs, .slice u3 n3 k3] : Array Value) _ _ HR9.out
            rw [HDD.out]
            exact bodyPost_ret (v := .agg #[.bool cb, .slice u1 n1 k1, .slice u2 n2 k2, .int .i64 cx, .int .i64 cy, .string cs, .slice u3 n3 k3]) (results_cell_row Tryd.results24 _ _ (w.heap.size + 1) _ _ _ _ rfl hz Tryd.underlying35 rfl (by kernel_rfl)) rfl ⟨_, rfl, HD9.out.imp (fun _ h => h) (by simp) (fun b hb _ => setRow_other w9 (w.heap.size + 1) b _ (by rcases hb with h | h; (· have := h.2; omega); (· omega))), below_row HB9.out (by omega)⟩
          · have c5 : decide (y.n < 0) = false := by simpa using hneg
            have HNG := Lib.hid hneg
            clear hneg
            have HDD := Lib.hid (show lengthD x y = .is 1 (intT sn.size) by unfold lengthD; rw [if_neg HK.out, HN.out]; simp only []; rw [if_neg HY2.out, if_neg (fun h => HNG.out h.2)])
            go_wp2_with fail
            refine (tx_whole _ _).mono ?_
            rintro e6 w6 ⟨rfl, hb6⟩
            have HR6 := Lib.hid (row_on HR5.out hb6)
            have HB6 := Lib.hid (HB5.out.trans (hb6.mono HB5.out.size))
            have hs6 : w.heap.size + 2 ≤ w6.heap.size := by have := hb6.size; omega
            clear hb6
            go_wp2_with fail
            refine (tx_is 1 (intT sn.size) _ (fun b => P b ∧ b < w.heap.size ∨ w.heap.size + 2 ≤ b) _ (int_is _ _ _)).mono ?_
            rintro e9 w9 ⟨v9, rfl, hd9, hb9⟩
            obtain ⟨cb, u1, u2, u3, n1, k1, n2, k2, n3, k3, cx, cy, cs, rfl⟩ := hd9.cells
            have HD9 := Lib.hid (hd9.imp (P' := fun b => P b ∧ b < w.heap.size ∨ w.heap.size + 2 ≤ b) (fun b hb => by rcases hb with hb | hb; (· exact hb); (· exact Or.inr (by omega))) (Nat.le_refl _) (fun _ _ _ => rfl))
            have HR9 := Lib.hid (row_on HR6.out hb9)
            have HB9 := Lib.hid (HB6.out.trans (hb9.mono HB6.out.size))
            clear hd9 hb9
            go_wp2_with (with_reducible show wpList _ _ _ (⟨none, .store _ (.tmp 2) _, _, _, _, _⟩ :: _) _ _
                         go_must (refine wpList_store_row rfl 35 (.tmp 2) (.tmp 56) rfl (w.heap.size + 1) #[.bool cb, .slice u1 n1 k1, .slice u2 n2 k2, .int .i64 cx, .int .i64 cy, .string cs, .slice u3 n3 k3] rfl rfl _ _ HR9.out size_did rfl (by simp [Value.oneCell']) ?_))
            have hz := setRow_heap w9 (w.heap.size + 1) _ (#[.bool cb, .slice u1 n1 k1, .slice u2 n2 k2, .int .i64 cx, .int .i64 cy, .string cs, .slice u3 n3 k3] : Array Value) _ _ HR9.out
            rw [HDD.out]
            exact bodyPost_ret (v := .agg #[.bool cb, .slice u1 n1 k1, .slice u2 n2 k2, .int .i64 cx, .int .i64 cy, .string cs, .slice u3 n3 k3]) (results_cell_row Tryd.results24 _ _ (w.heap.size + 1) _ _ _ _ rfl hz Tryd.underlying35 rfl (by kernel_rfl)) rfl ⟨_, rfl, HD9.out.imp (fun _ h => h) (by simp) (fun b hb _ => setRow_other w9 (w.heap.size + 1) b _ (by rcases hb with h | h; (· have := h.2; omega); (· omega))), below_row HB9.out (by omega)⟩
end Go.Proofs.YtkhchmgdaolojaaDoor.Tms
namespace Go.Proofs.YtkhchmgdaolojaaDoor.Tms
open Go Go.RowKit Go.Proofs.YtkhchmgdaolojaaDoor.Reg Go.Proofs.YtkhchmgdaolojaaDoor.Rws Go.Proofs.YtkhchmgdaolojaaDoor.Maps Go.Instr
set_option linter.unusedVariables false
set_option linter.unusedSimpArgs false

theorem formal_k (e : Int) (what : ByteArray) (t : Tm) : (formalE e what t).k ≠ 0 := by
  unfold formalE
  (repeat' split) <;> simp [atomT, compT, Tm.k]
theorem textT_some {codes : Bool} {l : Tm} {b : Tm} {m : List UInt8} (h : textT codes l = (some b, m)) : b.k ≠ 0 := by
  have hbad : ∀ us : List Tm, ∀ b, us.findSome? (badItem codes) = some b → b.k ≠ 0 := by
    intro us b hb
    obtain ⟨x, -, hx⟩ := List.exists_of_findSome?_eq_some hb
    unfold badItem at hx
    split at hx
    · cases hx; exact formal_k _ _ _
    · split at hx
      · split at hx
        · split at hx
          · cases hx; exact formal_k _ _ _
          · cases hx
        · cases hx; exact formal_k _ _ _
      · split at hx
        · cases hx
        · cases hx; exact formal_k _ _ _
  unfold textT at h
  split at h
  · rename_i x hx
    cases h
    exact hbad _ _ hx
  · split at h
    · cases h; exact formal_k _ _ _
    · split at h
      · cases h
      · cases h; exact formal_k _ _ _
theorem textT_len {codes : Bool} {l : Tm} {m : List UInt8} {b : Option Tm} (h : textT codes l = (b, m)) : m.length ≤ l.size := by
  have h1 := items_size l
  have h2 := len_le (itemsT l).1
  unfold textT at h
  split at h
  · cases h; simp
  · split at h
    · cases h; simp
    · split at h
      · cases h; rw [List.length_map]; omega
      · cases h; simp
set_option maxRecDepth 100000 in
set_option maxHeartbeats 4000000 in
theorem tx_spell (codes : Bool) (x y : Tm) (P : Nat → Prop) (w : World) (a : Option Addr) (c : Nat) (h : IsSl w P (.slice a 2 c) [x, y]) (hM : x.size ≤ 1000000) (hM' : y.size ≤ 1000000) (hf : Num.Fit x.n) (hf' : Num.Fit y.n) (hs1 : x.s.size ≤ 100000) (hs2 : y.s.size ≤ 100000) (ht : Num.Tab w) : Calls Tryd.prog 39 #[.agg #[.slice a 2 c], .bool codes] w (TellsM (spellD codes x y) P w) := by
  have HTB := Lib.hid ht
  clear ht
  obtain ⟨w1, w2, w3, w4⟩ := two w (.cells #[.slice a 2 c] 59 (0, 0)) (.cells #[.bool false, .slice none 0 0, .slice none 0 0, .int .i64 0, .int .i64 0, .string ⟨#[]⟩, .slice none 0 0] 35 (0, 0))
  have x0 := cell_of_row _ _ 0 _ _ _ w1
  have HR := Lib.hid w2
  have HC := Lib.hid w1
  have HB := Lib.hid w4
  have HZ := Lib.hid w3
  have H := Lib.hid (h.lt2.below w4)
  obtain ⟨b, off, e1, -⟩ := H.out.at 0 (by simp)
  subst e1
  clear h w1 w2 w3 w4
  have HF := Lib.hid (And.intro hf hf')
  clear hf hf'
  go_enter Tryd.func39, Tryd.ntmps39
  go_upto_region 1 with fail
  generalize ((w.alloc (.cells #[.slice (some ⟨b, off, none⟩) 2 c] 59 (0, 0))).alloc (.cells #[.bool false, .slice none 0 0, .slice none 0 0, .int .i64 0, .int .i64 0, .string ⟨#[]⟩, .slice none 0 0] 35 (0, 0))) = W1 at *
  go_cut [5, 6] from 11 to 18 (fun v5 v6 wx => Args2 x y (fun b => P b ∧ b < w.heap.size) W1 v5 v6 wx)
  case first =>
    refine wp_region_rest (by kernel_rfl) ?_
    have hd := (Below.refl W1.heap.size W1).drew
    have hs2 : W1.drew.heap.size = w.heap.size + 2 := HZ.out
    have h0 := H.out.below hd
    have hc2 := (hd.block _ (Array.getElem?_eq_some_iff.1 HC.out).1).trans HC.out
    have HD := Lib.hid hd
    have hlt2 : w.heap.size < W1.drew.heap.size := by rw [hs2]; omega
    clear hs2
    clear x0 HR HC HB H hd HZ
    generalize W1.drew = W2 at *
    have x0 := cell_of_row _ _ 0 _ _ _ hc2
    clear hc2
    obtain ⟨qa, qc, y0, y1, y2, y3, hit, hl1⟩ := (h0.atb 0 (by simp)).read
    obtain ⟨za, zc, z0, z1, z2, z3, hit', hl2⟩ := (h0.atb 1 (by simp)).read
    simp only [List.getElem_cons_zero, List.getElem_cons_succ, Nat.zero_mul, Nat.add_zero, Nat.one_mul] at y0 y1 y2 y3 z0 z1 z2 z3 hit hit'
    have HI1 := Lib.hid hit.args
    have HI2 := Lib.hid hit'.args
    have HQ := Lib.hid (show ∀ b, (P b ∧ b < w.heap.size) → b < W2.heap.size from fun b hb => by have := hb.2; omega)
    clear hit hit' h0
    refine rest_chainP (fun u => Below W2.heap.size W2 u) 0 12 (.soft 0 (.soft 1 (.soft 2 (.soft 3 (.soft 4 (.soft 5 (.soft 6 (.soft 7 (.two 8 9 (.one 9 (.one 10 (.one 11 .nil))) (.one 8 (.one 10 (.one 11 .nil)))))))))))) (.soft _ (.soft _ (.soft _ (.soft _ (.soft _ (.soft _ (.soft _ (.soft _ (.two _ _ (.one _ (.one _ (.one _ .nil))) (.one _ (.one _ (.one _ .nil)))))))))))) ⟨rfl, ⟨rfl, ⟨rfl, ⟨rfl, ⟨rfl, ⟨rfl, ⟨rfl, ⟨rfl, ⟨rfl, rfl, ⟨rfl, ⟨rfl, ⟨rfl, trivial⟩⟩⟩, ⟨rfl, ⟨rfl, ⟨rfl, trivial⟩⟩⟩⟩⟩⟩⟩⟩⟩⟩⟩⟩ (by kernel_rfl) (by kernel_rfl) (by kernel_rfl) (by kernel_rfl) (.inl rfl) (Below.refl _ _) ?_
    refine chainP_soft (a1 := ?ma9) (by kernel_rfl) (by kernel_rfl) ?mh9 ?mr9
    case mh9 =>
      intro u hu E hE
      go_wp2
      rfl
    refine chainP_soft (a1 := ?ma10) (by kernel_rfl) (by kernel_rfl) ?mh10 ?mr10
    case mh10 =>
      intro u hu E hE
      have c0 := (hu.cell (p := ⟨w.heap.size, 0, none⟩) hlt2).trans x0
      go_wp2
      rfl
    refine chainP_soft (a1 := ?ma11) (by kernel_rfl) (by kernel_rfl) ?mh11 ?mr11
    case mh11 =>
      intro u hu E hE
      go_wp2
      rfl
    refine chainP_soft (a1 := ?ma12) (by kernel_rfl) (by kernel_rfl) ?mh12 ?mr12
    case mh12 =>
      intro u hu E hE
      have c0 := (hu.cell (p := ⟨b, off, none⟩) hl1).trans y0
      have c1 := (hu.cell (p := ⟨b, off + 1, none⟩) hl1).trans y1
      have c2 := (hu.cell (p := ⟨b, off + 2, none⟩) hl1).trans y2
      have c3 := (hu.cell (p := ⟨b, off + 3, none⟩) hl1).trans y3
      go_wp2
      rfl
    refine chainP_soft (a1 := ?ma13) (by kernel_rfl) (by kernel_rfl) ?mh13 ?mr13
    case mh13 =>
      intro u hu E hE
      go_wp2
      rfl
    refine chainP_soft (a1 := ?ma14) (by kernel_rfl) (by kernel_rfl) ?mh14 ?mr14
    case mh14 =>
      intro u hu E hE
      have c0 := (hu.cell (p := ⟨w.heap.size, 0, none⟩) hlt2).trans x0
      go_wp2
      rfl
    refine chainP_soft (a1 := ?ma15) (by kernel_rfl) (by kernel_rfl) ?mh15 ?mr15
    case mh15 =>
      intro u hu E hE
      go_wp2
      rfl
    refine chainP_soft (a1 := ?ma16) (by kernel_rfl) (by kernel_rfl) ?mh16 ?mr16
    case mh16 =>
      intro u hu E hE
      have c0 := (hu.cell (p := ⟨b, off + 4, none⟩) hl1).trans z0
      have c1 := (hu.cell (p := ⟨b, off + 4 + 1, none⟩) hl1).trans z1
      have c2 := (hu.cell (p := ⟨b, off + 4 + 2, none⟩) hl1).trans z2
      have c3 := (hu.cell (p := ⟨b, off + 4 + 3, none⟩) hl1).trans z3
      go_wp2
      rfl
    clear x0 y0 y1 y2 y3 z0 z1 z2 z3
    refine chainP_two ?_ ?_
    · intro E hE
      go_wp2
      refine ⟨(Below.refl W2.heap.size W2).alloc (Nat.le_refl _) _, ?_⟩
      refine chainP_one ?_
      intro E hE
      go_wp2
      have HK := Lib.hid (two W2 (.cells #[.int .i64 0, .int .i64 0, .string ⟨#[]⟩, .slice none 0 0] 28 (0, 0)) (.cells #[.int .i64 0, .int .i64 0, .string ⟨#[]⟩, .slice none 0 0] 28 (0, 0)))
      refine ⟨HK.out.2.2.2, ?_⟩
      refine chainP_one ?_
      intro E hE
      go_wp2_with (refine wpList_store_row rfl 28 (.tmp 5) (.tmp 14) rfl W2.heap.size #[.int .i64 x.k, .int .i64 x.n, .string x.s, .slice qa x.args.length qc] rfl rfl _ _ HK.out.1 size_term rfl (one4 _ _ _ _ _ _) ?_)
      refine ⟨(below_row HK.out.2.2.2 (by omega)), ?_⟩
      refine chainP_one ?_
      intro E hE
      go_wp2_with (refine wpList_store_row rfl 28 (.tmp 6) (.tmp 18) rfl (W2.heap.size + 1) #[.int .i64 y.k, .int .i64 y.n, .string y.s, .slice za y.args.length zc] rfl rfl _ _ ((setRow_other _ _ _ _ (by omega)).trans HK.out.2.1) size_term rfl (one4 _ _ _ _ _ _) ?_)
      refine ⟨(below_row (below_row HK.out.2.2.2 (by omega)) (by omega)), ?_⟩
      have HFIN := Lib.hid (args_two (g := W2.heap.size) (g' := (W2.heap.size + 1)) HK.out.2.2.2 (by omega) (by omega) (by omega) HQ.out HK.out.1 HK.out.2.1 (HI1.out.below HK.out.2.2.2) (HI2.out.below HK.out.2.2.2))
      clear HK
      refine chainP_nil (rest_end (by decide) ?_)
      go_wp2
      go_meet
      exact Args2.lift HD.out HFIN.out
    · intro E hE
      go_wp2
      refine ⟨(Below.refl W2.heap.size W2).alloc (Nat.le_refl _) _, ?_⟩
      refine chainP_one ?_
      intro E hE
      go_wp2
      have HK := Lib.hid (two W2 (.cells #[.int .i64 0, .int .i64 0, .string ⟨#[]⟩, .slice none 0 0] 28 (0, 0)) (.cells #[.int .i64 0, .int .i64 0, .string ⟨#[]⟩, .slice none 0 0] 28 (0, 0)))
      refine ⟨HK.out.2.2.2, ?_⟩
      refine chainP_one ?_
      intro E hE
      go_wp2_with (refine wpList_store_row rfl 28 (.tmp 5) (.tmp 14) rfl (W2.heap.size + 1) #[.int .i64 x.k, .int .i64 x.n, .string x.s, .slice qa x.args.length qc] rfl rfl _ _ HK.out.2.1 size_term rfl (one4 _ _ _ _ _ _) ?_)
      refine ⟨(below_row HK.out.2.2.2 (by omega)), ?_⟩
      refine chainP_one ?_
      intro E hE
      go_wp2_with (refine wpList_store_row rfl 28 (.tmp 6) (.tmp 18) rfl W2.heap.size #[.int .i64 y.k, .int .i64 y.n, .string y.s, .slice za y.args.length zc] rfl rfl _ _ ((setRow_other _ _ _ _ (by omega)).trans HK.out.1) size_term rfl (one4 _ _ _ _ _ _) ?_)
      refine ⟨(below_row (below_row HK.out.2.2.2 (by omega)) (by omega)), ?_⟩
      have HFIN := Lib.hid (args_two (g := (W2.heap.size + 1)) (g' := W2.heap.size) HK.out.2.2.2 (by omega) (by omega) (by omega) HQ.out HK.out.2.1 HK.out.1 (HI1.out.below HK.out.2.2.2) (HI2.out.below HK.out.2.2.2))
      clear HK
      refine chainP_nil (rest_end (by decide) ?_)
      go_wp2
      go_meet
      exact Args2.lift HD.out HFIN.out
  case rest =>
    obtain ⟨b5, b6, rfl, rfl, ⟨a3, c3, r3, i3⟩, ⟨a4, c4, r4, i4⟩, hbc⟩ := hcut
    have HR3 := Lib.hid (row_on HR.out hbc)
    have hb3 := HB.out.trans (hbc.mono HB.out.size)
    have hs3 : w.heap.size + 2 ≤ wc.heap.size := by have := HZ.out; have := hbc.size; omega
    have HB3 := Lib.hid hb3
    have HX := Lib.hid (show IsTm wc (fun b => P b ∧ b < w.heap.size ∨ w.heap.size + 2 ≤ b) (.agg #[.int .i64 x.k, .int .i64 x.n, .string x.s, .slice a3 x.args.length c3]) x from (IsTm.mk' i3).imp (fun b hb => Or.inl hb) fun _ _ _ => rfl)
    have HY := Lib.hid (show IsTm wc (fun b => P b ∧ b < w.heap.size ∨ w.heap.size + 2 ≤ b) (.agg #[.int .i64 y.k, .int .i64 y.n, .string y.s, .slice a4 y.args.length c4]) y from (IsTm.mk' i4).imp (fun b hb => Or.inl hb) fun _ _ _ => rfl)
    have HT3 := Lib.hid (HTB.out.on hb3)
    have R3 := Lib.hid r3
    have R4 := Lib.hid r4
    obtain ⟨y0, y1, y2, y3⟩ := row4 r3
    obtain ⟨z0, z1, z2, z3⟩ := row4 r4
    have hl3 := (Array.getElem?_eq_some_iff.1 r3).1
    have hl4 := (Array.getElem?_eq_some_iff.1 r4).1
    clear i3 i4 HR HC HZ H HB hbc x0 hb3 r3 r4 HTB
    cases hn : nameT x with
    | some sn =>
      have HN := Lib.hid hn
      have hsn : sn.size ≤ 100000 := name_size hn HF.out.1 hs1
      clear hn
      go_wp2_with fail
      refine (tx_name_some _ _ _ HX.out HF.out.1 HT3.out HN.out).mono ?_
      rintro e5 w5 ⟨rfl, hb5⟩
      have HR5 := Lib.hid (row_on HR3.out hb5)
      have HB5 := Lib.hid (HB3.out.trans (hb5.mono HB3.out.size))
      have hs5 : w.heap.size + 2 ≤ w5.heap.size := by have := hb5.size; omega
      have HX5 := Lib.hid (HX.out.below hb5)
      have HY5 := Lib.hid (HY.out.below hb5)
      have HT5 := Lib.hid (HT3.out.on hb5)
      clear y0 y1 y2 y3 z0 z1 z2 z3
      obtain ⟨y0, y1, y2, y3⟩ := row4 (row_on R3.out hb5)
      obtain ⟨z0, z1, z2, z3⟩ := row4 (row_on R4.out hb5)
      clear hb5 HR3 HB3 hs3 HX HY HT3 R3 R4 hl3 hl4
      have HDD := Lib.hid (show spellD codes x y = .is 1 (listT (charsT codes sn.data.toList) nilT) by unfold spellD; rw [HN.out])
      go_wp2_with fail
      refine (tx_listOf sn codes _ hsn).mono ?_
      rintro e6 w6 ⟨v6, rfl, hi6, hb6⟩
      have HR6 := Lib.hid (row_on HR5.out hb6)
      have HB6 := Lib.hid (HB5.out.trans (hb6.mono HB5.out.size))
      have hs6 : w.heap.size + 2 ≤ w6.heap.size := by have := hb6.size; omega
      have HI6 := Lib.hid (hi6.imp (P' := fun b => P b ∧ b < w.heap.size ∨ w.heap.size + 2 ≤ b) (fun b hb => by rcases hb with hb | hb; (· exact hb.elim); (· exact Or.inr (by omega))) fun _ _ _ => rfl)
      obtain ⟨q6, k6, rfl⟩ := hi6.form
      clear hb6 hi6
      go_wp2_with fail
      refine (tx_is 1 _ _ (fun b => P b ∧ b < w.heap.size ∨ w.heap.size + 2 ≤ b) _ HI6.out).mono ?_
      rintro e9 w9 ⟨v9, rfl, hd9, hb9⟩
      obtain ⟨cb, u1, u2, u3, n1, k1, n2, k2, n3, k3, cx, cy, cs, rfl⟩ := hd9.cells
      have HD9 := Lib.hid (hd9.imp (P' := fun b => P b ∧ b < w.heap.size ∨ w.heap.size + 2 ≤ b) (fun b hb => by rcases hb with hb | hb; (· exact hb); (· exact Or.inr (by omega))) (Nat.le_refl _) (fun _ _ _ => rfl))
      have HR9 := Lib.hid (row_on HR6.out hb9)
      have HB9 := Lib.hid (HB6.out.trans (hb9.mono HB6.out.size))
      clear hd9 hb9
      go_wp2_with (with_reducible show wpList _ _ _ (⟨none, .store _ (.tmp 4) _, _, _, _, _⟩ :: _) _ _
                   go_must (refine wpList_store_row rfl 35 (.tmp 4) (.tmp 28) rfl (w.heap.size + 1) #[.bool cb, .slice u1 n1 k1, .slice u2 n2 k2, .int .i64 cx, .int .i64 cy, .string cs, .slice u3 n3 k3] rfl rfl _ _ HR9.out size_did rfl (by simp [Value.oneCell']) ?_))
      have hz := setRow_heap w9 (w.heap.size + 1) _ (#[.bool cb, .slice u1 n1 k1, .slice u2 n2 k2, .int .i64 cx, .int .i64 cy, .string cs, .slice u3 n3 k3] : Array Value) _ _ HR9.out
      rw [HDD.out]
      exact bodyPost_ret (v := .agg #[.bool cb, .slice u1 n1 k1, .slice u2 n2 k2, .int .i64 cx, .int .i64 cy, .string cs, .slice u3 n3 k3]) (results_cell_row Tryd.results39 _ _ (w.heap.size + 1) _ _ _ _ rfl hz Tryd.underlying35 rfl (by kernel_rfl)) rfl ⟨_, rfl, HD9.out.imp (fun _ h => h) (by simp) (fun b hb _ => setRow_other w9 (w.heap.size + 1) b _ (by rcases hb with h | h; (· have := h.2; omega); (· omega))), below_row HB9.out (by omega)⟩
    | none =>
      have HN := Lib.hid hn
      clear hn
      go_wp2_with fail
      refine (tx_name_none _ _ _ HX.out HF.out.1 HT3.out HN.out).mono ?_
      rintro e5 w5 ⟨rfl, hb5⟩
      have HR5 := Lib.hid (row_on HR3.out hb5)
      have HB5 := Lib.hid (HB3.out.trans (hb5.mono HB3.out.size))
      have hs5 : w.heap.size + 2 ≤ w5.heap.size := by have := hb5.size; omega
      have HX5 := Lib.hid (HX.out.below hb5)
      have HY5 := Lib.hid (HY.out.below hb5)
      have HT5 := Lib.hid (HT3.out.on hb5)
      clear y0 y1 y2 y3 z0 z1 z2 z3
      obtain ⟨y0, y1, y2, y3⟩ := row4 (row_on R3.out hb5)
      obtain ⟨z0, z1, z2, z3⟩ := row4 (row_on R4.out hb5)
      clear hb5 HR3 HB3 hs3 HX HY HT3 R3 R4 hl3 hl4
      by_cases hk1 : x.k = 1
      · have c1 : (x.k != 1) = false := by rw [hk1]; rfl
        have HK := Lib.hid hk1
        clear hk1
        go_wp2_with fail
        refine (tx_textOf y codes _ _ _ hM' HY5.out).mono ?_
        rintro e6 w6 ⟨v6, rfl, hi6, hb6⟩
        have HR6 := Lib.hid (row_on HR5.out hb6)
        have HB6 := Lib.hid (HB5.out.trans (hb6.mono HB5.out.size))
        have hs6 : w.heap.size + 2 ≤ w6.heap.size := by have := hb6.size; omega
        have hi6' := hi6.imp (P' := fun b => P b ∧ b < w.heap.size ∨ w.heap.size + 2 ≤ b) (fun b hb => by rcases hb with hb | hb; (· exact Or.inr (by omega)); (· exact hb.1)) fun _ _ _ => rfl
        clear hb6 hi6
        cases hr : textT codes y with
        | mk bo l =>
        rw [hr] at hi6'
        have hll := textT_len hr
        cases bo with
        | some bx =>
          have hbk := textT_some hr
          have HDD := Lib.hid (show spellD codes x y = .wr bx by unfold spellD; rw [HN.out]; simp only []; rw [if_neg (fun h => h HK.out), hr])
          obtain ⟨bq, bc, e7⟩ := hi6'.form
          have e7' : v6 = .agg #[.int .i64 bx.k, .int .i64 bx.n, .string bx.s, .slice bq bx.args.length bc] := e7
          clear e7
          subst e7'
          have hbt := (Below.refl w6.heap.size w6).alloc (Nat.le_refl _) (.cells #[.int .i64 bx.k, .int .i64 bx.n, .string bx.s, .slice bq bx.args.length bc] 28 (0, 0))
          have HBX := Lib.hid (show IsTm _ (fun b => P b ∧ b < w.heap.size ∨ w.heap.size + 2 ≤ b) (.agg #[.int .i64 bx.k, .int .i64 bx.n, .string bx.s, .slice bq bx.args.length bc]) bx from hi6'.below hbt)
          have HBF := Lib.hid (HB6.out.trans (hbt.mono HB6.out.size))
          have HRF := Lib.hid (row_on HR6.out hbt)
          have c2 : (bx.k != 0) = true := by simpa using hbk
          clear hr hbk hi6' hbt y0 y1 y2 y3 z0 z1 z2 z3
          go_wp2_with (with_reducible show wpList _ _ _ (⟨none, .store _ (.tmp 4) _, _, _, _, _⟩ :: _) _ _
                       go_must (refine wpList_store_row rfl 35 (.tmp 4) (.tmp 44) rfl (w.heap.size + 1) #[.bool false, .slice none 0 0, .slice none 0 0, .int .i64 bx.k, .int .i64 bx.n, .string bx.s, .slice bq bx.args.length bc] rfl (by kernel_rfl) _ _ HRF.out size_did rfl (by simp [Value.oneCell']) ?_))
          have hz := setRow_heap _ (w.heap.size + 1) _ (#[.bool false, .slice none 0 0, .slice none 0 0, .int .i64 bx.k, .int .i64 bx.n, .string bx.s, .slice bq bx.args.length bc] : Array Value) _ _ HRF.out
          rw [HDD.out]
          exact bodyPost_ret (v := .agg #[.bool false, .slice none 0 0, .slice none 0 0, .int .i64 bx.k, .int .i64 bx.n, .string bx.s, .slice bq bx.args.length bc]) (results_cell_row Tryd.results39 _ _ (w.heap.size + 1) _ _ _ _ rfl hz Tryd.underlying35 rfl (by kernel_rfl)) rfl ⟨_, rfl, ⟨bq, bc, rfl, HBX.out.imp (fun _ h => h) (fun b hb _ => setRow_other _ (w.heap.size + 1) b _ (by rcases hb with h | h; (· have := h.2; omega); (· omega)))⟩, below_row HBF.out (by omega)⟩
        | none =>
          obtain ⟨bq, bc, e7⟩ := hi6'.form
          have e7' : v6 = .agg #[.int .i64 0, .int .i64 0, .string ⟨#[]⟩, .slice bq 0 bc] := e7
          clear e7
          subst e7'
          have hbt := (Below.refl w6.heap.size w6).alloc (Nat.le_refl _) (.cells #[.int .i64 0, .int .i64 0, .string ⟨#[]⟩, .slice bq 0 bc] 28 (0, 0))
          have HBF := Lib.hid (HB6.out.trans (hbt.mono HB6.out.size))
          have HRF := Lib.hid (row_on HR6.out hbt)
          have hsF : w.heap.size + 2 ≤ (w6.alloc (.cells #[.int .i64 0, .int .i64 0, .string ⟨#[]⟩, .slice bq 0 bc] 28 (0, 0))).heap.size := by simp; omega
          obtain ⟨sz, hsz⟩ : ∃ sz : ByteArray, sz = ⟨l.toArray⟩ := ⟨_, rfl⟩
          have hzl : sz.size = l.length := by rw [hsz]; show l.toArray.size = _; simp
          have HR := Lib.hid hr
          have HSZ := Lib.hid hsz
          simp only []
          rw [← hsz]
          by_cases hlong : 1000 < l.length
          · have c3 : decide (1000 < (sz.size : Int)) = true := by rw [hzl]; simp; omega
            have c4 : decide (1000 < sz.size) = true := by rw [hzl]; simpa using hlong
            have HLG := Lib.hid hlong
            clear hr hi6' hbt y0 y1 y2 y3 z0 z1 z2 z3 hzl hsz hlong
            have HDD := Lib.hid (show spellD codes x y = .wr (formalE 3 (⟨#[109, 97, 120, 95, 97, 116, 111, 109, 95, 108, 101, 110, 103, 116, 104]⟩ : ByteArray) zeroT0) by unfold spellD; rw [HN.out]; simp only []; rw [if_neg (fun h => h HK.out), HR.out]; simp only []; rw [if_pos HLG.out])
            go_wp2_with fail
            refine (tx_wrong 3 (⟨#[109, 97, 120, 95, 97, 116, 111, 109, 95, 108, 101, 110, 103, 116, 104]⟩ : ByteArray) zeroT0 _ (fun b => P b ∧ b < w.heap.size ∨ w.heap.size + 2 ≤ b) _ (by decide) (show IsTm _ (fun b => P b ∧ b < w.heap.size ∨ w.heap.size + 2 ≤ b) _ zeroT0 from IsTm.mk' (t := zeroT0) (IsSl.nil _ _ none 0))).mono ?_
            rintro e9 w9 ⟨v9, rfl, hd9, hb9⟩
            obtain ⟨cb, u1, u2, u3, n1, k1, n2, k2, n3, k3, cx, cy, cs, rfl⟩ := hd9.cells
            have HD9 := Lib.hid (hd9.imp (P' := fun b => P b ∧ b < w.heap.size ∨ w.heap.size + 2 ≤ b) (fun b hb => by rcases hb with hb | hb; (· exact hb); (· exact Or.inr (by omega))) (Nat.le_refl _) (fun _ _ _ => rfl))
            have HR9 := Lib.hid (row_on HRF.out hb9)
            have HB9 := Lib.hid (HBF.out.trans (hb9.mono HBF.out.size))
            clear hd9 hb9
            go_wp2_with (with_reducible show wpList _ _ _ (⟨none, .store _ (.tmp 4) _, _, _, _, _⟩ :: _) _ _
                         go_must (refine wpList_store_row rfl 35 (.tmp 4) (.tmp 49) rfl (w.heap.size + 1) #[.bool cb, .slice u1 n1 k1, .slice u2 n2 k2, .int .i64 cx, .int .i64 cy, .string cs, .slice u3 n3 k3] rfl rfl _ _ HR9.out size_did rfl (by simp [Value.oneCell']) ?_))
            have hz := setRow_heap w9 (w.heap.size + 1) _ (#[.bool cb, .slice u1 n1 k1, .slice u2 n2 k2, .int .i64 cx, .int .i64 cy, .string cs, .slice u3 n3 k3] : Array Value) _ _ HR9.out
            rw [HDD.out]
            exact bodyPost_ret (v := .agg #[.bool cb, .slice u1 n1 k1, .slice u2 n2 k2, .int .i64 cx, .int .i64 cy, .string cs, .slice u3 n3 k3]) (results_cell_row Tryd.results39 _ _ (w.heap.size + 1) _ _ _ _ rfl hz Tryd.underlying35 rfl (by kernel_rfl)) rfl ⟨_, rfl, HD9.out.imp (fun _ h => h) (by simp) (fun b hb _ => setRow_other w9 (w.heap.size + 1) b _ (by rcases hb with h | h; (· have := h.2; omega); (· omega))), below_row HB9.out (by omega)⟩
          · have c3 : decide (1000 < (sz.size : Int)) = false := by rw [hzl]; simp; omega
            have c4 : decide (1000 < sz.size) = false := by rw [hzl]; simpa using hlong
            have HLG := Lib.hid hlong
            have HDD := Lib.hid (show spellD codes x y = .is 0 (atomT sz) by rw [HSZ.out]; unfold spellD; rw [HN.out]; simp only []; rw [if_neg (fun h => h HK.out), HR.out]; simp only []; rw [if_neg HLG.out])
            clear hr hi6' hbt y0 y1 y2 y3 z0 z1 z2 z3 hzl hsz hlong
            go_wp2_with fail
            generalize (w6.alloc (.cells #[.int .i64 0, .int .i64 0, .string ⟨#[]⟩, .slice bq 0 bc] 28 (0, 0))) = w7 at *
            refine (tx_atom sz _).mono ?_
            rintro e8 w8 ⟨rfl, hb8⟩
            have HR8 := Lib.hid (row_on HRF.out hb8)
            have HB8 := Lib.hid (HBF.out.trans (hb8.mono HBF.out.size))
            have hs8 : w.heap.size + 2 ≤ w8.heap.size := by have := hb8.size; omega
            clear hb8
            go_wp2_with fail
            refine (tx_is 0 (atomT sz) _ (fun b => P b ∧ b < w.heap.size ∨ w.heap.size + 2 ≤ b) _ (atom_is _ _ _)).mono ?_
            rintro e9 w9 ⟨v9, rfl, hd9, hb9⟩
            obtain ⟨cb, u1, u2, u3, n1, k1, n2, k2, n3, k3, cx, cy, cs, rfl⟩ := hd9.cells
            have HD9 := Lib.hid (hd9.imp (P' := fun b => P b ∧ b < w.heap.size ∨ w.heap.size + 2 ≤ b) (fun b hb => by rcases hb with hb | hb; (· exact hb); (· exact Or.inr (by omega))) (Nat.le_refl _) (fun _ _ _ => rfl))
            have HR9 := Lib.hid (row_on HR8.out hb9)
            have HB9 := Lib.hid (HB8.out.trans (hb9.mono HB8.out.size))
            clear hd9 hb9
            go_wp2_with (with_reducible show wpList _ _ _ (⟨none, .store _ (.tmp 4) _, _, _, _, _⟩ :: _) _ _
                         go_must (refine wpList_store_row rfl 35 (.tmp 4) (.tmp 52) rfl (w.heap.size + 1) #[.bool cb, .slice u1 n1 k1, .slice u2 n2 k2, .int .i64 cx, .int .i64 cy, .string cs, .slice u3 n3 k3] rfl rfl _ _ HR9.out size_did rfl (by simp [Value.oneCell']) ?_))
            have hz := setRow_heap w9 (w.heap.size + 1) _ (#[.bool cb, .slice u1 n1 k1, .slice u2 n2 k2, .int .i64 cx, .int .i64 cy, .string cs, .slice u3 n3 k3] : Array Value) _ _ HR9.out
            rw [HDD.out]
            exact bodyPost_ret (v := .agg #[.bool cb, .slice u1 n1 k1, .slice u2 n2 k2, .int .i64 cx, .int .i64 cy, .string cs, .slice u3 n3 k3]) (results_cell_row Tryd.results39 _ _ (w.heap.size + 1) _ _ _ _ rfl hz Tryd.underlying35 rfl (by kernel_rfl)) rfl ⟨_, rfl, HD9.out.imp (fun _ h => h) (by simp) (fun b hb _ => setRow_other w9 (w.heap.size + 1) b _ (by rcases hb with h | h; (· have := h.2; omega); (· omega))), below_row HB9.out (by omega)⟩
      · have c1 : (x.k != 1) = true := by simpa using hk1
        have HK := Lib.hid hk1
        clear hk1
        have HDD := Lib.hid (show spellD codes x y = .wr (formalE 13 (⟨#[97, 116, 111, 109]⟩ : ByteArray) x) by unfold spellD; rw [HN.out]; simp only []; rw [if_pos HK.out])
        go_wp2_with fail
        refine (tx_wrong 13 (⟨#[97, 116, 111, 109]⟩ : ByteArray) x _ (fun b => P b ∧ b < w.heap.size ∨ w.heap.size + 2 ≤ b) _ (by omega) HX5.out).mono ?_
        rintro e9 w9 ⟨v9, rfl, hd9, hb9⟩
        obtain ⟨cb, u1, u2, u3, n1, k1, n2, k2, n3, k3, cx, cy, cs, rfl⟩ := hd9.cells
        have HD9 := Lib.hid (hd9.imp (P' := fun b => P b ∧ b < w.heap.size ∨ w.heap.size + 2 ≤ b) (fun b hb => by rcases hb with hb | hb; (· exact hb); (· exact Or.inr (by omega))) (Nat.le_refl _) (fun _ _ _ => rfl))
        have HR9 := Lib.hid (row_on HR5.out hb9)
        have HB9 := Lib.hid (HB5.out.trans (hb9.mono HB5.out.size))
        clear hd9 hb9
        go_wp2_with (with_reducible show wpList _ _ _ (⟨none, .store _ (.tmp 4) _, _, _, _, _⟩ :: _) _ _
                     go_must (refine wpList_store_row rfl 35 (.tmp 4) (.tmp 33) rfl (w.heap.size + 1) #[.bool cb, .slice u1 n1 k1, .slice u2 n2 k2, .int .i64 cx, .int .i64 cy, .string cs, .slice u3 n3 k3] rfl rfl _ _ HR9.out size_did rfl (by simp [Value.oneCell']) ?_))
        have hz := setRow_heap w9 (w.heap.size + 1) _ (#[.bool cb, .slice u1 n1 k1, .slice u2 n2 k2, .int .i64 cx, .int .i64 cy, .string cs, .slice u3 n3 k3] : Array Value) _ _ HR9.out
        rw [HDD.out]
        exact bodyPost_ret (v := .agg #[.bool cb, .slice u1 n1 k1, .slice u2 n2 k2, .int .i64 cx, .int .i64 cy, .string cs, .slice u3 n3 k3]) (results_cell_row Tryd.results39 _ _ (w.heap.size + 1) _ _ _ _ rfl hz Tryd.underlying35 rfl (by kernel_rfl)) rfl ⟨_, rfl, HD9.out.imp (fun _ h => h) (by simp) (fun b hb _ => setRow_other w9 (w.heap.size + 1) b _ (by rcases hb with h | h; (· have := h.2; omega); (· omega))), below_row HB9.out (by omega)⟩
end Go.Proofs.YtkhchmgdaolojaaDoor.Tms
