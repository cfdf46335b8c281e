
/-
  Layer 17: arg of a call, walked.
-/
import Derived.Test.YtkhchmgdaolojaaShg
import Derived.Test.YtkhchmgdaolojaaFltM
namespace Go.Proofs.Ytkhchmgdaolojaa.Tms
open Go Go.RowKit Go.Proofs.Ytkhchmgdaolojaa.Reg Go.Proofs.Ytkhchmgdaolojaa.Rws Go.Proofs.Ytkhchmgdaolojaa.Maps Go.Instr
set_option linter.unusedVariables false
set_option linter.unusedSimpArgs false

/-- an argument's own variable -/
def ArgAt (t : Tm) (B : Nat) (W : World) (b : Nat) : Prop := ∃ a c, W.heap[b]? = some (.cells #[.int .i64 t.k, .int .i64 t.n, .string t.s, .slice a t.args.length c] 49 (0, 0)) ∧ IsSl W (fun x => x < B) (.slice a t.args.length c) t.args
theorem ArgAt.below {t : Tm} {B b : Nat} {W W' : World} (h : ArgAt t B W b) (hb : Below W.heap.size W W') : ArgAt t B W' b := let ⟨a, c, h1, h2⟩ := h; ⟨a, c, row_on h1 hb, h2.below hb⟩
def Args2 (x y : Tm) (B : Nat) (W0 : World) (v3 v4 : Value) (wx : World) : Prop := ∃ b3 b4, v3 = .pointer (some ⟨b3, 0, none⟩) ∧ v4 = .pointer (some ⟨b4, 0, none⟩) ∧ ArgAt x B wx b3 ∧ ArgAt y B wx b4 ∧ Below W0.heap.size W0 wx
theorem Args2.lift {x y : Tm} {B : Nat} {W0 W2 wx : World} {v3 v4 : Value} (hb : Below W0.heap.size W0 W2) (h : Args2 x y B W2 v3 v4 wx) : Args2 x y B W0 v3 v4 wx := let ⟨b3, b4, h1, h2, h3, h4, h5⟩ := h; ⟨b3, b4, h1, h2, h3, h4, hb.trans (h5.mono hb.size)⟩
theorem args_two {x y : Tm} {B g g' : Nat} {W0 W : World} {a a' : Option Addr} {c c' : Nat} {o o' : Array Value} (hb : Below W0.heap.size W0 W) (hg : W0.heap.size ≤ g) (hg' : W0.heap.size ≤ g') (hne : g ≠ g') (hB : B ≤ W0.heap.size) (r1 : W.heap[g]? = some (.cells o 49 (0, 0))) (r2 : W.heap[g']? = some (.cells o' 49 (0, 0)))
    (h1 : IsSl W (fun b => b < B) (.slice a x.args.length c) x.args) (h2 : IsSl W (fun b => b < B) (.slice a' y.args.length c') y.args) :
    Args2 x y B W0 (.pointer (some ⟨g, 0, none⟩)) (.pointer (some ⟨g', 0, none⟩)) ((W.setRow g #[.int .i64 x.k, .int .i64 x.n, .string x.s, .slice a x.args.length c]).setRow g' #[.int .i64 y.k, .int .i64 y.n, .string y.s, .slice a' y.args.length c']) := by
  have hr1 := setRow_heap W g _ (#[.int .i64 x.k, .int .i64 x.n, .string x.s, .slice a x.args.length c] : Array Value) _ _ r1
  have hr2 := (setRow_other W g g' #[.int .i64 x.k, .int .i64 x.n, .string x.s, .slice a x.args.length c] (Ne.symm hne)).trans r2
  have hr3 := setRow_heap _ g' _ (#[.int .i64 y.k, .int .i64 y.n, .string y.s, .slice a' y.args.length c'] : Array Value) _ _ hr2
  have hoth : ∀ b, b ≠ g → b ≠ g' → ((W.setRow g #[.int .i64 x.k, .int .i64 x.n, .string x.s, .slice a x.args.length c]).setRow g' #[.int .i64 y.k, .int .i64 y.n, .string y.s, .slice a' y.args.length c']).heap[b]? = W.heap[b]? := fun b n1 n2 => (setRow_other _ _ _ _ n2).trans (setRow_other _ _ _ _ n1)
  refine ⟨g, g', rfl, rfl, ⟨a, c, (setRow_other _ _ _ _ hne).trans hr1, h1.imp (fun _ h => h) fun b hb _ => hoth b (by omega) (by omega)⟩, ⟨a', c', hr3, h2.imp (fun _ h => h) fun b hb _ => hoth b (by omega) (by omega)⟩, hb.os, hb.tape, hb.output, by simpa using hb.size, fun b hlt => (hoth b (by omega) (by omega)).trans (hb.block b hlt)⟩
theorem below_row {B g : Nat} {w w' : World} {cs : Array Value} (h : Below B w w') (hg : B ≤ g) : Below B w (w'.setRow g cs) :=
  ⟨h.os, h.tape, h.output, by simpa using h.size, fun b hb => (setRow_other _ _ _ _ (by omega)).trans (h.block b hb)⟩
/-- a call that fails, or tells what is wrong -/
def DidNo (w : World) (e : Ending) (w' : World) : Prop := ∃ (k n : Int) (s : ByteArray) (q : Option Addr) (m c : Nat), e = .returned (.agg #[.bool false, .slice none 0 0, .slice none 0 0, .int .i64 k, .int .i64 n, .string s, .slice q m c]) ∧ Below w.heap.size w w'
set_option maxRecDepth 100000 in
set_option maxHeartbeats 4000000 in
theorem sh_wrong (e : Int) (what : ByteArray) (t : Tm) (v : Value) (P : Nat → Prop) (w : World) (hM : t.size ≤ 1000000000) (h : IsTm w P v t) :
    Calls Try.prog 105 #[.int .i64 e, .string what, v] w (DidNo w) := by
  obtain ⟨a, cap, rfl⟩ := h.form
  obtain ⟨w1, w2, w3, w4⟩ := two w (.cells #[.int .i64 t.k, .int .i64 t.n, .string t.s, .slice a t.args.length cap] 49 (0, 0)) (.cells #[.bool false, .slice none 0 0, .slice none 0 0, .int .i64 0, .int .i64 0, .string ⟨#[]⟩, .slice none 0 0] 71 (0, 0))
  obtain ⟨y0, y1, y2, y3⟩ := row4 w1
  have HR := Lib.hid w2
  have HB := Lib.hid w4
  have HZ := Lib.hid w3
  have H := Lib.hid (h.below w4)
  clear h w1 w2 w3 w4
  go_enter Try.func105, Try.ntmps105
  go_wp2_with fail
  refine (flt_formal e what t _ P _ hM H.out).mono ?_
  rintro e5 w5 ⟨v5, rfl, hi5, hb5⟩
  obtain ⟨q5, c5, rfl⟩ := hi5.form
  have HB5 := Lib.hid (HB.out.trans (hb5.mono HB.out.size))
  have HR5 := Lib.hid (row_on HR.out hb5)
  clear hi5 hb5 y0 y1 y2 y3 HR HB HZ H
  generalize formalE e what t = T at *
  obtain ⟨k5, hk5⟩ : ∃ k5, k5 = T.k := ⟨_, rfl⟩
  obtain ⟨n5, hn5⟩ : ∃ n5, n5 = T.n := ⟨_, rfl⟩
  obtain ⟨s5, hs5⟩ : ∃ s5, s5 = T.s := ⟨_, rfl⟩
  obtain ⟨m5, hm5⟩ : ∃ m5, m5 = T.args.length := ⟨_, rfl⟩
  rw [← hk5, ← hn5, ← hs5, ← hm5]
  clear hk5 hn5 hs5 hm5
  go_wp2_with (with_reducible show wpList _ _ _ (⟨none, .store _ (.tmp 6) _, _, _, _, _⟩ :: _) _ _
               go_must (
                 refine wpList_store_row rfl 71 (.tmp 6) (.tmp 11) rfl (w.heap.size + 1) #[.bool false, .slice none 0 0, .slice none 0 0, .int .i64 k5, .int .i64 n5, .string s5, .slice q5 m5 c5] rfl rfl _ _ HR5.out size_did rfl (by simp [Value.oneCell']) ?_))
  have hz := setRow_heap w5 (w.heap.size + 1) _ (#[.bool false, .slice none 0 0, .slice none 0 0, .int .i64 k5, .int .i64 n5, .string s5, .slice q5 m5 c5] : Array Value) _ _ HR5.out
  exact bodyPost_ret (v := .agg #[.bool false, .slice none 0 0, .slice none 0 0, .int .i64 k5, .int .i64 n5, .string s5, .slice q5 m5 c5]) (results_cell_row Try.results105 _ _ (w.heap.size + 1) _ _ _ _ rfl hz Try.underlying71 rfl (by kernel_rfl)) rfl ⟨k5, n5, s5, q5, m5, c5, rfl, below_row HB5.out (by omega)⟩
/-- what arg of a number, at least 1, and a term comes to -/
def ArgPost (x y : Tm) (w : World) (e : Ending) (w' : World) : Prop := (∃ h : x.n.toNat - 1 < y.args.length, y.k = 4 ∧ DidOk 2 [y.args[x.n.toNat - 1]] w e w') ∨ (¬ (y.k = 4 ∧ x.n ≤ y.args.length) ∧ DidNo w e w')
theorem ArgPost.no {x y : Tm} {w w' : World} {e : Ending} (h : ¬ (y.k = 4 ∧ x.n ≤ y.args.length)) (hd : DidNo w e w') : ArgPost x y w e w' := .inr ⟨h, hd⟩
set_option maxRecDepth 100000 in
set_option maxHeartbeats 4000000 in
theorem sh_arg (s : ByteArray) (x y z : Tm) (P : Nat → Prop) (w : World) (a : Option Addr) (c : Nat) (h : IsSl w P (.slice a 3 c) [x, y, z]) (hx : x.k = 2) (hx1 : 1 ≤ x.n) (hx2 : x.n ≤ 1000000000) (hy : y.k ≠ 1) (hM : y.size ≤ 1000000000) :
    Calls Try.prog 89 #[.agg #[.string s, .slice a 3 c]] w (ArgPost x y w) := by
  have HX := Lib.hid hx
  have HY := Lib.hid hy
  clear hx hy
  obtain ⟨w1, w2, w3, w4⟩ := two w (.cells #[.string s, .slice a 3 c] 140 (0, 0)) (.cells #[.bool false, .slice none 0 0, .slice none 0 0, .int .i64 0, .int .i64 0, .string ⟨#[]⟩, .slice none 0 0] 71 (0, 0))
  have x0 := cell_of_row _ _ 0 _ _ _ w1
  have x1 := cell_of_row _ _ 1 _ _ _ w1
  have HR := Lib.hid w2
  have HC := Lib.hid w1
  have HB := Lib.hid w4
  have HZ := Lib.hid w3
  have H := Lib.hid (h.lt.below w4)
  obtain ⟨b, off, e1, -⟩ := H.out.at 0 (by simp)
  subst e1
  clear h w1 w2 w3 w4
  go_enter Try.func89, Try.ntmps89
  go_upto_region 1 with fail
  generalize ((w.alloc (.cells #[.string s, .slice (some ⟨b, off, none⟩) 3 c] 140 (0, 0))).alloc (.cells #[.bool false, .slice none 0 0, .slice none 0 0, .int .i64 0, .int .i64 0, .string ⟨#[]⟩, .slice none 0 0] 71 (0, 0))) = W1 at *
  go_cut [3, 4] (fun v3 v4 wx => Args2 x y w.heap.size W1 v3 v4 wx)
  case first =>
    refine wp_region_rest (by kernel_rfl) ?_
    have hd := (Below.refl W1.heap.size W1).drew
    have hs2 : W1.drew.heap.size = w.heap.size + 2 := HZ.out
    have h0 := H.out.below hd
    have hc2 := (hd.block _ (Array.getElem?_eq_some_iff.1 HC.out).1).trans HC.out
    have HD := Lib.hid hd
    have hlt2 : w.heap.size < W1.drew.heap.size := by rw [hs2]; omega
    clear hs2
    clear x0 x1 HR HC HB H hd
    generalize W1.drew = W2 at *
    have x0 := cell_of_row _ _ 0 _ _ _ hc2
    have x1 := cell_of_row _ _ 1 _ _ _ hc2
    clear hc2
    obtain ⟨qa, qc, y0, y1, y2, y3, hit, hl1⟩ := (h0.atb 0 (by simp)).read
    obtain ⟨za, zc, z0, z1, z2, z3, hit', hl2⟩ := (h0.atb 1 (by simp)).read
    simp only [List.getElem_cons_zero, List.getElem_cons_succ, Nat.zero_mul, Nat.add_zero, Nat.one_mul] at y0 y1 y2 y3 z0 z1 z2 z3 hit hit'
    have HI1 := Lib.hid (hit.args.imp (P' := fun b => b < w.heap.size) (fun b hb => hb.2) (fun _ _ _ => rfl))
    have HI2 := Lib.hid (hit'.args.imp (P' := fun b => b < w.heap.size) (fun b hb => hb.2) (fun _ _ _ => rfl))
    clear hit hit' h0
    refine rest_chainP (fun u => Below W2.heap.size W2 u) 0 12 (.soft 0 (.soft 1 (.soft 2 (.soft 3 (.soft 4 (.soft 5 (.soft 6 (.soft 7 (.two 8 9 (.one 9 (.one 10 (.one 11 .nil))) (.one 8 (.one 10 (.one 11 .nil)))))))))))) (.soft _ (.soft _ (.soft _ (.soft _ (.soft _ (.soft _ (.soft _ (.soft _ (.two _ _ (.one _ (.one _ (.one _ .nil))) (.one _ (.one _ (.one _ .nil)))))))))))) ⟨rfl, ⟨rfl, ⟨rfl, ⟨rfl, ⟨rfl, ⟨rfl, ⟨rfl, ⟨rfl, ⟨rfl, rfl, ⟨rfl, ⟨rfl, ⟨rfl, trivial⟩⟩⟩, ⟨rfl, ⟨rfl, ⟨rfl, trivial⟩⟩⟩⟩⟩⟩⟩⟩⟩⟩⟩⟩ (by kernel_rfl) (by kernel_rfl) (by kernel_rfl) (by kernel_rfl) (.inl rfl) (Below.refl _ _) ?_
    refine chainP_soft (a1 := ?ma1) (by kernel_rfl) (by kernel_rfl) ?mh1 ?mr1
    case mh1 =>
      intro u hu E hE
      go_wp2
      rfl
    refine chainP_soft (a1 := ?ma2) (by kernel_rfl) (by kernel_rfl) ?mh2 ?mr2
    case mh2 =>
      intro u hu E hE
      have c0 := (hu.cell (p := ⟨w.heap.size, 1, none⟩) hlt2).trans x1
      go_wp2
      rfl
    refine chainP_soft (a1 := ?ma3) (by kernel_rfl) (by kernel_rfl) ?mh3 ?mr3
    case mh3 =>
      intro u hu E hE
      go_wp2
      rfl
    refine chainP_soft (a1 := ?ma4) (by kernel_rfl) (by kernel_rfl) ?mh4 ?mr4
    case mh4 =>
      intro u hu E hE
      have c0 := (hu.cell (p := ⟨b, off, none⟩) hl1).trans y0
      have c1 := (hu.cell (p := ⟨b, off + 1, none⟩) hl1).trans y1
      have c2 := (hu.cell (p := ⟨b, off + 2, none⟩) hl1).trans y2
      have c3 := (hu.cell (p := ⟨b, off + 3, none⟩) hl1).trans y3
      go_wp2
      rfl
    refine chainP_soft (a1 := ?ma5) (by kernel_rfl) (by kernel_rfl) ?mh5 ?mr5
    case mh5 =>
      intro u hu E hE
      go_wp2
      rfl
    refine chainP_soft (a1 := ?ma6) (by kernel_rfl) (by kernel_rfl) ?mh6 ?mr6
    case mh6 =>
      intro u hu E hE
      have c0 := (hu.cell (p := ⟨w.heap.size, 1, none⟩) hlt2).trans x1
      go_wp2
      rfl
    refine chainP_soft (a1 := ?ma7) (by kernel_rfl) (by kernel_rfl) ?mh7 ?mr7
    case mh7 =>
      intro u hu E hE
      go_wp2
      rfl
    refine chainP_soft (a1 := ?ma8) (by kernel_rfl) (by kernel_rfl) ?mh8 ?mr8
    case mh8 =>
      intro u hu E hE
      have c0 := (hu.cell (p := ⟨b, off + 4, none⟩) hl1).trans z0
      have c1 := (hu.cell (p := ⟨b, off + 4 + 1, none⟩) hl1).trans z1
      have c2 := (hu.cell (p := ⟨b, off + 4 + 2, none⟩) hl1).trans z2
      have c3 := (hu.cell (p := ⟨b, off + 4 + 3, none⟩) hl1).trans z3
      go_wp2
      rfl
    refine chainP_two ?_ ?_
    · intro E hE
      go_wp2
      refine ⟨(Below.refl W2.heap.size W2).alloc (Nat.le_refl _) _, ?_⟩
      refine chainP_one ?_
      intro E hE
      go_wp2
      have hk := two W2 (.cells #[.int .i64 0, .int .i64 0, .string ⟨#[]⟩, .slice none 0 0] 49 (0, 0)) (.cells #[.int .i64 0, .int .i64 0, .string ⟨#[]⟩, .slice none 0 0] 49 (0, 0))
      have HK := Lib.hid hk
      refine ⟨hk.2.2.2, ?_⟩
      clear hk
      refine chainP_one ?_
      intro E hE
      go_wp2_with (refine wpList_store_row rfl 49 (.tmp 3) (.tmp 8) rfl W2.heap.size #[.int .i64 x.k, .int .i64 x.n, .string x.s, .slice qa x.args.length qc] rfl rfl _ _ HK.out.1 size_term rfl (one4 _ _ _ _ _ _) ?_)
      refine ⟨below_row HK.out.2.2.2 (by omega), ?_⟩
      refine chainP_one ?_
      intro E hE
      go_wp2_with (refine wpList_store_row rfl 49 (.tmp 4) (.tmp 12) rfl (W2.heap.size + 1) #[.int .i64 y.k, .int .i64 y.n, .string y.s, .slice za y.args.length zc] rfl rfl _ _ ((setRow_other _ _ _ _ (by omega)).trans HK.out.2.1) size_term rfl (one4 _ _ _ _ _ _) ?_)
      refine ⟨below_row (below_row HK.out.2.2.2 (by omega)) (by omega), ?_⟩
      have HFIN := Lib.hid (args_two (g := W2.heap.size) (g' := (W2.heap.size + 1)) HK.out.2.2.2 (by omega) (by omega) (by omega) (Nat.le_of_lt hlt2) HK.out.1 HK.out.2.1 (HI1.out.below HK.out.2.2.2) (HI2.out.below HK.out.2.2.2))
      clear HK
      refine chainP_nil (rest_end (by decide) ?_)
      go_wp2
      go_meet
      exact Args2.lift HD.out HFIN.out
    · intro E hE
      go_wp2
      refine ⟨(Below.refl W2.heap.size W2).alloc (Nat.le_refl _) _, ?_⟩
      refine chainP_one ?_
      intro E hE
      go_wp2
      have hk := two W2 (.cells #[.int .i64 0, .int .i64 0, .string ⟨#[]⟩, .slice none 0 0] 49 (0, 0)) (.cells #[.int .i64 0, .int .i64 0, .string ⟨#[]⟩, .slice none 0 0] 49 (0, 0))
      have HK := Lib.hid hk
      refine ⟨hk.2.2.2, ?_⟩
      clear hk
      refine chainP_one ?_
      intro E hE
      go_wp2_with (refine wpList_store_row rfl 49 (.tmp 3) (.tmp 8) rfl (W2.heap.size + 1) #[.int .i64 x.k, .int .i64 x.n, .string x.s, .slice qa x.args.length qc] rfl rfl _ _ HK.out.2.1 size_term rfl (one4 _ _ _ _ _ _) ?_)
      refine ⟨below_row HK.out.2.2.2 (by omega), ?_⟩
      refine chainP_one ?_
      intro E hE
      go_wp2_with (refine wpList_store_row rfl 49 (.tmp 4) (.tmp 12) rfl W2.heap.size #[.int .i64 y.k, .int .i64 y.n, .string y.s, .slice za y.args.length zc] rfl rfl _ _ ((setRow_other _ _ _ _ (by omega)).trans HK.out.1) size_term rfl (one4 _ _ _ _ _ _) ?_)
      refine ⟨below_row (below_row HK.out.2.2.2 (by omega)) (by omega), ?_⟩
      have HFIN := Lib.hid (args_two (g := (W2.heap.size + 1)) (g' := W2.heap.size) HK.out.2.2.2 (by omega) (by omega) (by omega) (Nat.le_of_lt hlt2) HK.out.2.1 HK.out.1 (HI1.out.below HK.out.2.2.2) (HI2.out.below HK.out.2.2.2))
      clear HK
      refine chainP_nil (rest_end (by decide) ?_)
      go_wp2
      go_meet
      exact Args2.lift HD.out HFIN.out
  case rest =>
    obtain ⟨b3, b4, rfl, rfl, ⟨a3, c3, r3, -⟩, ⟨a4, c4, r4, i4⟩, hbc⟩ := hcut
    have HR3 := Lib.hid (row_on HR.out hbc)
    have hb3 := HB.out.trans (hbc.mono HB.out.size)
    have hs3 : w.heap.size + 2 ≤ wc.heap.size := by have := HZ.out; have := hbc.size; omega
    have HB3 := Lib.hid hb3
    rw [HX.out] at r3
    obtain ⟨y0, y1, y2, y3⟩ := row4 r3
    obtain ⟨z0, z1, z2, z3⟩ := row4 r4
    obtain ⟨i, hi⟩ : ∃ i, i = x.n := ⟨_, rfl⟩
    rw [← hi] at y1
    have HI := Lib.hid hi
    rw [← hi] at hx1 hx2
    have hw4 := (show IsTm wc (fun b => b < w.heap.size) (.agg #[.int .i64 y.k, .int .i64 y.n, .string y.s, .slice a4 y.args.length c4]) y from IsTm.mk' i4)
    have HI4 := Lib.hid i4
    have HW4 := Lib.hid hw4
    clear hi hw4 i4 HR HC HZ H HB hbc x0 x1 r3 r4 hb3
    by_cases hk : y.k = 4
    · rw [hk] at z0
      by_cases hle : i ≤ y.args.length
      · obtain ⟨j, rfl⟩ : ∃ j : Nat, i = (j : Int) + 1 := ⟨(i - 1).toNat, by omega⟩
        have hjl : j < y.args.length := by omega
        obtain ⟨ab, ao, e4, -, hat⟩ := HI4.out.at j hjl
        subst e4
        obtain ⟨T, hT⟩ : ∃ T, T = y.args[j] := ⟨_, rfl⟩
        rw [← hT] at hat
        have hTs : T.size ≤ 1000000000 := by
          have h1 := size_mem hjl
          rw [← hT] at h1
          have h2 : sizeL y.args < y.size := by cases y; simp [Tm.size, Tm.args]
          omega
        have hAP : ∀ e w', DidOk 2 [T] w e w' → ArgPost x y w e w' := fun e w' hd => .inl (by
          have hn := HI.out
          have ej : x.n.toNat - 1 = j := by omega
          refine ⟨by omega, hk, ?_⟩
          simp only [ej]
          rw [← hT]
          exact hd)
        have HAP := Lib.hid hAP
        obtain ⟨qa, qc, t0, t1, t2, t3, hit, hl1⟩ := hat.read
        have b1 : decide ((y.args.length : Int) < (j : Int) + 1) = false := by simp; omega
        have b2 : decide (y.args.length < j + 1) = false := by simp; omega
        have b5 : decide (y.args.length ≤ j) = false := by simp; omega
        have b3 : ((j : Int) + 1 == 0) = false := by simp; omega
        have b4 : decide ((j : Int) + 1 < 0) = false := by simp; omega
        have HIT := Lib.hid hit
        clear hat hT hit hAP hk hle HI
        go_wp2_with fail
        have HA6 := Lib.hid ((Below.refl wc.heap.size wc).alloc (Nat.le_refl _) (.cells #[.int .i64 T.k, .int .i64 T.n, .string T.s, .slice qa T.args.length qc] 49 (0, 0)))
        have HIS := Lib.hid (row1 HIT.out.any)
        clear y0 y1 y2 y3 z0 z1 z2 z3 t0 t1 t2 t3
        refine (sh_made 2 [T] _ AnyB _ (by decide) (by decide) (by simp) (by simpa using hTs) HIS.out).mono ?_
        rintro e9 w9 ⟨va, vt, rfl, hi9, hs9, hb9⟩
        obtain ⟨q1, k1, e1⟩ : ∃ q k, va = .slice q 1 k := hi9.firsts
        obtain ⟨q2, k2, e2⟩ : ∃ q k, vt = .slice q 1 k := hs9.form
        subst e1 e2
        have hbx := (HB3.out.trans (HA6.out.mono (by have := HB3.out.size; omega))).trans (hb9.mono (by have := HB3.out.size; have := HA6.out.size; omega))
        have HFIN := Lib.hid (fun cs => DidOk.fin (r := w.heap.size + 1) cs hbx (by omega) (by have := HA6.out.size; omega) hi9 hs9)
        have HR9 := Lib.hid (row_on (row_on HR3.out HA6.out) hb9)
        clear hi9 hs9 hb9 hbx
        go_wp2_with (with_reducible show wpList _ _ _ (⟨none, .store _ (.tmp 2) _, _, _, _, _⟩ :: _) _ _
                     go_must (
                       refine wpList_store_row rfl 71 (.tmp 2) (.tmp 63) rfl (w.heap.size + 1) #[.bool true, .slice q1 1 k1, .slice q2 1 k2, .int .i64 0, .int .i64 0, .string ⟨#[]⟩, .slice none 0 0] rfl rfl _ _ HR9.out size_did rfl (one7 _ _ _ _ _ _ _) ?_))
        have hz := setRow_heap w9 (w.heap.size + 1) _ (#[.bool true, .slice q1 1 k1, .slice q2 1 k2, .int .i64 0, .int .i64 0, .string ⟨#[]⟩, .slice none 0 0] : Array Value) _ _ HR9.out
        exact bodyPost_ret (v := .agg #[.bool true, .slice q1 1 k1, .slice q2 1 k2, .int .i64 0, .int .i64 0, .string ⟨#[]⟩, .slice none 0 0]) (results_cell_row Try.results89 _ _ (w.heap.size + 1) _ _ _ _ rfl hz Try.underlying71 rfl (by kernel_rfl)) rfl (HAP.out _ _ (HFIN.out _))
      · have b1 : ((i : Int) == 0) = false := by simp; omega
        have b2 : decide ((y.args.length : Int) < i) = true := by simp; omega
        have b3 : decide (i < 0) = false := by simp; omega
        have HNO := Lib.hid (show ¬ (y.k = 4 ∧ x.n ≤ y.args.length) from fun h => hle (by rw [HI.out]; exact h.2))
        clear hk hle HI
        go_wp2_with (with_reducible show wpList _ _ _ (⟨none, .store _ (.tmp 2) _, _, _, _, _⟩ :: _) _ _
                     go_must (
                       refine wpList_store_row rfl 71 (.tmp 2) (.tmp 54) rfl (w.heap.size + 1) #[.bool false, .slice none 0 0, .slice none 0 0, .int .i64 0, .int .i64 0, .string ⟨#[]⟩, .slice none 0 0] rfl (by kernel_rfl) _ _ HR3.out size_did rfl (by simp [Value.oneCell']) ?_))
        have hz := setRow_heap wc (w.heap.size + 1) _ (#[.bool false, .slice none 0 0, .slice none 0 0, .int .i64 0, .int .i64 0, .string ⟨#[]⟩, .slice none 0 0] : Array Value) _ _ HR3.out
        exact bodyPost_ret (v := .agg #[.bool false, .slice none 0 0, .slice none 0 0, .int .i64 0, .int .i64 0, .string ⟨#[]⟩, .slice none 0 0]) (results_cell_row Try.results89 _ _ (w.heap.size + 1) _ _ _ _ rfl hz Try.underlying71 rfl (by kernel_rfl)) rfl (ArgPost.no HNO.out ⟨0, 0, ⟨#[]⟩, none, 0, 0, rfl, below_row HB3.out (by omega)⟩)
    · have b1 : (y.k == 1) = false := by simpa using HY.out
      have b2 : (y.k != 4) = true := by simpa using hk
      have HK := Lib.hid hk
      clear hk
      go_wp2_with fail
      refine (sh_wrong _ _ y _ _ _ hM HW4.out).mono ?_
      rintro e5 w5 ⟨k5, n5, s5, q5, m5, c5, rfl, hb5⟩
      have HB5 := Lib.hid (HB3.out.trans (hb5.mono HB3.out.size))
      have HR5 := Lib.hid (row_on HR3.out hb5)
      clear hb5 y0 y1 y2 y3 z0 z1 z2 z3
      go_wp2_with (with_reducible show wpList _ _ _ (⟨none, .store _ (.tmp 2) _, _, _, _, _⟩ :: _) _ _
                   go_must (
                     refine wpList_store_row rfl 71 (.tmp 2) (.tmp 35) rfl (w.heap.size + 1) #[.bool false, .slice none 0 0, .slice none 0 0, .int .i64 k5, .int .i64 n5, .string s5, .slice q5 m5 c5] rfl rfl _ _ HR5.out size_did rfl (by simp [Value.oneCell']) ?_))
      have hz := setRow_heap w5 (w.heap.size + 1) _ (#[.bool false, .slice none 0 0, .slice none 0 0, .int .i64 k5, .int .i64 n5, .string s5, .slice q5 m5 c5] : Array Value) _ _ HR5.out
      exact bodyPost_ret (v := .agg #[.bool false, .slice none 0 0, .slice none 0 0, .int .i64 k5, .int .i64 n5, .string s5, .slice q5 m5 c5]) (results_cell_row Try.results89 _ _ (w.heap.size + 1) _ _ _ _ rfl hz Try.underlying71 rfl (by kernel_rfl)) rfl (ArgPost.no (fun h => HK.out h.1) ⟨k5, n5, s5, q5, m5, c5, rfl, below_row HB5.out (by omega)⟩)
end Go.Proofs.Ytkhchmgdaolojaa.Tms
