
/-
  Layer 17: functor of a call, walked.
-/
import Derived.Test.YtkhchmgdaolojaaShh
namespace Go.Proofs.Ytkhchmgdaolojaa.Tms
open Go Go.RowKit Go.Proofs.Ytkhchmgdaolojaa.Reg Go.Proofs.Ytkhchmgdaolojaa.Rws Go.Proofs.Ytkhchmgdaolojaa.Maps Go.Instr
set_option linter.unusedVariables false
set_option linter.unusedSimpArgs false

theorem three (w : World) (a b c : Obj) : (((w.alloc a).alloc b).alloc c).heap[w.heap.size]? = some a ∧ (((w.alloc a).alloc b).alloc c).heap[w.heap.size + 1]? = some b ∧ (((w.alloc a).alloc b).alloc c).heap[w.heap.size + 2]? = some c ∧ Below w.heap.size w (((w.alloc a).alloc b).alloc c) := by
  obtain ⟨h1, h2, h3, h4⟩ := two w a b
  have hb := (Below.refl ((w.alloc a).alloc b).heap.size _).alloc (Nat.le_refl _) c
  refine ⟨row_on h1 hb, row_on h2 hb, ?_, h4.trans (hb.mono (by omega))⟩
  have := heap_alloc_new ((w.alloc a).alloc b) c
  rw [h3] at this
  exact this
def Args3 (x y z : Tm) (B : Nat) (W0 : World) (v3 v4 v5 : Value) (wx : World) : Prop := ∃ b3 b4 b5, v3 = .pointer (some ⟨b3, 0, none⟩) ∧ v4 = .pointer (some ⟨b4, 0, none⟩) ∧ v5 = .pointer (some ⟨b5, 0, none⟩) ∧ ArgAt x B wx b3 ∧ ArgAt y B wx b4 ∧ ArgAt z B wx b5 ∧ Below W0.heap.size W0 wx
theorem Args3.lift {x y z : Tm} {B : Nat} {W0 W2 wx : World} {v3 v4 v5 : Value} (hb : Below W0.heap.size W0 W2) (h : Args3 x y z B W2 v3 v4 v5 wx) : Args3 x y z B W0 v3 v4 v5 wx := let ⟨b3, b4, b5, h1, h2, h3, h4, h5, h6, h7⟩ := h; ⟨b3, b4, b5, h1, h2, h3, h4, h5, h6, hb.trans (h7.mono hb.size)⟩
theorem args_three {x y z : Tm} {B g g' g'' : Nat} {W0 W : World} {a a' a'' : Option Addr} {c c' c'' : Nat} {o o' o'' : Array Value} (hb : Below W0.heap.size W0 W) (hg : W0.heap.size ≤ g) (hg' : W0.heap.size ≤ g') (hg'' : W0.heap.size ≤ g'') (n1 : g ≠ g') (n2 : g ≠ g'') (n3 : g' ≠ g'') (hB : B ≤ W0.heap.size)
    (r1 : W.heap[g]? = some (.cells o 49 (0, 0))) (r2 : W.heap[g']? = some (.cells o' 49 (0, 0))) (r3 : W.heap[g'']? = some (.cells o'' 49 (0, 0)))
    (h1 : IsSl W (fun b => b < B) (.slice a x.args.length c) x.args) (h2 : IsSl W (fun b => b < B) (.slice a' y.args.length c') y.args) (h3 : IsSl W (fun b => b < B) (.slice a'' z.args.length c'') z.args) :
    Args3 x y z B W0 (.pointer (some ⟨g, 0, none⟩)) (.pointer (some ⟨g', 0, none⟩)) (.pointer (some ⟨g'', 0, none⟩)) (((W.setRow g #[.int .i64 x.k, .int .i64 x.n, .string x.s, .slice a x.args.length c]).setRow g' #[.int .i64 y.k, .int .i64 y.n, .string y.s, .slice a' y.args.length c']).setRow g'' #[.int .i64 z.k, .int .i64 z.n, .string z.s, .slice a'' z.args.length c'']) := by
  generalize hC : (#[.int .i64 x.k, .int .i64 x.n, .string x.s, .slice a x.args.length c] : Array Value) = C
  generalize hC' : (#[.int .i64 y.k, .int .i64 y.n, .string y.s, .slice a' y.args.length c'] : Array Value) = C'
  generalize hC'' : (#[.int .i64 z.k, .int .i64 z.n, .string z.s, .slice a'' z.args.length c''] : Array Value) = C''
  have k1 := setRow_heap W g _ C _ _ r1
  have k2 := setRow_heap (W.setRow g C) g' _ C' _ _ ((setRow_other _ _ _ _ (Ne.symm n1)).trans r2)
  have k3 := setRow_heap ((W.setRow g C).setRow g' C') g'' _ C'' _ _ ((setRow_other _ _ _ _ (Ne.symm n3)).trans ((setRow_other _ _ _ _ (Ne.symm n2)).trans r3))
  have hoth : ∀ b, b ≠ g → b ≠ g' → b ≠ g'' → (((W.setRow g C).setRow g' C').setRow g'' C'').heap[b]? = W.heap[b]? := fun b n1 n2 n3 => (setRow_other _ _ _ _ n3).trans ((setRow_other _ _ _ _ n2).trans (setRow_other _ _ _ _ n1))
  refine ⟨g, g', g'', rfl, rfl, rfl, ⟨a, c, ?_, h1.imp (fun _ h => h) fun b hb _ => hoth b (by omega) (by omega) (by omega)⟩, ⟨a', c', ?_, h2.imp (fun _ h => h) fun b hb _ => hoth b (by omega) (by omega) (by omega)⟩, ⟨a'', c'', ?_, h3.imp (fun _ h => h) fun b hb _ => hoth b (by omega) (by omega) (by omega)⟩, hb.os, hb.tape, hb.output, by simpa using hb.size, fun b hlt => (hoth b (by omega) (by omega) (by omega)).trans (hb.block b hlt)⟩
  · rw [hC]; exact (setRow_other _ _ _ _ n2).trans ((setRow_other _ _ _ _ n1).trans k1)
  · rw [hC']; exact (setRow_other _ _ _ _ n3).trans k2
  · rw [hC'']; exact k3
def newV (m : Nat) : List Tm := (List.range m).map fun (i : Nat) => varT (-1 - (i : Int))
theorem newV_succ (m : Nat) : newV (m + 1) = newV m ++ [varT (-1 - (m : Int))] := by unfold newV; rw [List.range_succ, List.map_append]; rfl
theorem newV_len (m : Nat) : (newV m).length = m := by simp [newV]
theorem newV_size (m : Nat) : sizeL (newV m) = m := by
  have h : ∀ l : List Tm, (∀ t ∈ l, t.size = 1) → sizeL l = l.length := by
    intro l
    induction l with
    | nil => intro _; rfl
    | cons x l ih =>
      intro h
      have h1 := h x (List.mem_cons_self ..)
      have h2 := ih fun t ht => h t (List.mem_cons_of_mem _ ht)
      simp only [sizeL, List.length_cons]
      omega
  rw [h _ fun t ht => ?_, newV_len]
  simp only [newV, List.mem_map] at ht
  obtain ⟨i, -, rfl⟩ := ht
  simp [varT, Tm.size, sizeL]
/-- what functor tells, where nothing is wrong -/
def FnC (a b n : Tm) (f : Int) (ts : List Tm) : Prop :=
  (a.k = 4 ∧ f = 1 ∧ ts = [atomT a.s, intT a.args.length]) ∨ ((a.k = 2 ∨ a.k = 3) ∧ f = 1 ∧ ts = [a, intT 0]) ∨
  (a.k = 1 ∧ (b.k = 2 ∨ b.k = 3) ∧ n.k = 2 ∧ n.n = 0 ∧ f = 0 ∧ ts = [b]) ∨ (∃ m : Nat, a.k = 1 ∧ b.k = 3 ∧ n.k = 2 ∧ n.n = m ∧ 0 < m ∧ m ≤ 255 ∧ f = 0 ∧ ts = [compT b.s (newV m)])
/-- t, and the arguments that it has so far -/
structure NvAt (sy : ByteArray) (m : Nat) (w : World) (g i : Nat) (va : Value) (wr : World) : Prop where
  row : wr.heap[g]? = some (.cells #[.int .i64 4, .int .i64 0, .string sy, va] 49 (0, 0))
  args : OwnSl wr (g + 1) (fun _ => False) va (newV i)
  bel : Below g w wr
theorem NvAt.next {sy : ByteArray} {m g i : Nat} {w W w9 : World} {va va' : Value} (h : NvAt sy m w g i va W) (ho : OwnSl w9 (g + 1) (fun _ => False) va' (newV (i + 1))) (hb : Below (g + 1) W w9) :
    w9.cell? ⟨g, 3, none⟩ = some va ∧ w9.frozen? ⟨g, 3, none⟩ = false ∧ NvAt sy m w g (i + 1) va' (w9.setCell ⟨g, 3, none⟩ va') := by
  have r9 := (hb.block g (by omega)).trans h.row
  have hoth : ∀ b, b ≠ g → (w9.setCell ⟨g, 3, none⟩ va').heap[b]? = w9.heap[b]? := fun b hb => Below.heap_setCell _ _ _ _ hb
  have hsz : (w9.setCell ⟨g, 3, none⟩ va').heap.size = w9.heap.size := by simp [World.setCell]
  refine ⟨(row4 r9).2.2.2, frozen_of_row w9 _ _ _ _ r9, heap_setCell_same w9 g 3 _ _ va' r9, ?_, ?_⟩
  · exact ho.move (by omega) (fun b e _ => hoth b (by have := (ho.low b e).1; omega)) fun b hp _ => hp.elim
  · exact (h.bel.trans (hb.mono (by omega))).setCell (by simp) _
def NvRel (sy : ByteArray) (m : Nat) (w : World) (g : Nat) (vi : Value) (wr : World) : Prop := ∃ (i : Nat) (va : Value), i ≤ m ∧ vi = .int .i64 i ∧ NvAt sy m w g i va wr
set_option maxRecDepth 100000 in
set_option maxHeartbeats 4000000 in
theorem sh_functor (s : ByteArray) (x y z : Tm) (f : Int) (ts : List Tm) (P : Nat → Prop) (w : World) (a : Option Addr) (c : Nat) (h : IsSl w P (.slice a 3 c) [x, y, z]) (hM : x.size ≤ 1000000000) (hM' : y.size ≤ 1000000000) (hfn : FnC x y z f ts) :
    Calls Try.prog 88 #[.agg #[.string s, .slice a 3 c]] w (DidOk f ts w) := by
  have HFN := Lib.hid hfn
  clear hfn
  obtain ⟨w1, w2, w3, w4⟩ := two w (.cells #[.string s, .slice a 3 c] 140 (0, 0)) (.cells #[.bool false, .slice none 0 0, .slice none 0 0, .int .i64 0, .int .i64 0, .string ⟨#[]⟩, .slice none 0 0] 71 (0, 0))
  have x0 := cell_of_row _ _ 0 _ _ _ w1
  have x1 := cell_of_row _ _ 1 _ _ _ w1
  have HR := Lib.hid w2
  have HC := Lib.hid w1
  have HB := Lib.hid w4
  have HZ := Lib.hid w3
  have H := Lib.hid (h.lt.below w4)
  obtain ⟨b, off, e1, -⟩ := H.out.at 0 (by simp)
  subst e1
  clear h w1 w2 w3 w4
  go_enter Try.func88, Try.ntmps88
  go_upto_region 1 with fail
  generalize ((w.alloc (.cells #[.string s, .slice (some ⟨b, off, none⟩) 3 c] 140 (0, 0))).alloc (.cells #[.bool false, .slice none 0 0, .slice none 0 0, .int .i64 0, .int .i64 0, .string ⟨#[]⟩, .slice none 0 0] 71 (0, 0))) = W1 at *
  go_cut [3, 4, 5] (fun v3 v4 v5 wx => Args3 x y z w.heap.size W1 v3 v4 v5 wx)
  case first =>
    refine wp_region_rest (by kernel_rfl) ?_
    have hd := (Below.refl W1.heap.size W1).drew
    have hs2 : W1.drew.heap.size = w.heap.size + 2 := HZ.out
    have h0 := H.out.below hd
    have hc2 := (hd.block _ (Array.getElem?_eq_some_iff.1 HC.out).1).trans HC.out
    have HD := Lib.hid hd
    have hlt2 : w.heap.size < W1.drew.heap.size := by rw [hs2]; omega
    clear hs2
    clear x0 x1 HR HC HB H hd HZ
    generalize W1.drew = W2 at *
    have x0 := cell_of_row _ _ 0 _ _ _ hc2
    have x1 := cell_of_row _ _ 1 _ _ _ hc2
    clear hc2
    obtain ⟨qa, qc, y0, y1, y2, y3, hit, hl1⟩ := (h0.atb 0 (by simp)).read
    obtain ⟨za, zc, z0, z1, z2, z3, hit', hl2⟩ := (h0.atb 1 (by simp)).read
    obtain ⟨va, vc, t0, t1, t2, t3, hit'', hl3⟩ := (h0.atb 2 (by simp)).read
    simp only [List.getElem_cons_zero, List.getElem_cons_succ, Nat.zero_mul, Nat.add_zero, Nat.one_mul] at y0 y1 y2 y3 z0 z1 z2 z3 t0 t1 t2 t3 hit hit' hit''
    have HI1 := Lib.hid (hit.args.imp (P' := fun b => b < w.heap.size) (fun b hb => hb.2) (fun _ _ _ => rfl))
    have HI2 := Lib.hid (hit'.args.imp (P' := fun b => b < w.heap.size) (fun b hb => hb.2) (fun _ _ _ => rfl))
    have HI3 := Lib.hid (hit''.args.imp (P' := fun b => b < w.heap.size) (fun b hb => hb.2) (fun _ _ _ => rfl))
    clear hit hit' hit'' h0
    refine rest_chainP (fun u => Below W2.heap.size W2 u) 0 18 (.soft 0 (.soft 1 (.soft 2 (.soft 3 (.soft 4 (.soft 5 (.soft 6 (.soft 7 (.soft 8 (.soft 9 (.soft 10 (.soft 11 (.three 12 13 14 (.two 13 14 (.one 14 (.one 15 (.one 16 (.one 17 .nil)))) (.one 13 (.one 15 (.one 16 (.one 17 .nil))))) (.two 12 14 (.one 14 (.one 15 (.one 16 (.one 17 .nil)))) (.one 12 (.one 15 (.one 16 (.one 17 .nil))))) (.two 12 13 (.one 13 (.one 15 (.one 16 (.one 17 .nil)))) (.one 12 (.one 15 (.one 16 (.one 17 .nil)))))))))))))))))) (.soft _ (.soft _ (.soft _ (.soft _ (.soft _ (.soft _ (.soft _ (.soft _ (.soft _ (.soft _ (.soft _ (.soft _ (.three _ _ _ (.two _ _ (.one _ (.one _ (.one _ (.one _ .nil)))) (.one _ (.one _ (.one _ (.one _ .nil))))) (.two _ _ (.one _ (.one _ (.one _ (.one _ .nil)))) (.one _ (.one _ (.one _ (.one _ .nil))))) (.two _ _ (.one _ (.one _ (.one _ (.one _ .nil)))) (.one _ (.one _ (.one _ (.one _ .nil)))))))))))))))))) ⟨rfl, ⟨rfl, ⟨rfl, ⟨rfl, ⟨rfl, ⟨rfl, ⟨rfl, ⟨rfl, ⟨rfl, ⟨rfl, ⟨rfl, ⟨rfl, ⟨rfl, rfl, rfl, ⟨rfl, rfl, ⟨rfl, ⟨rfl, ⟨rfl, ⟨rfl, trivial⟩⟩⟩⟩, ⟨rfl, ⟨rfl, ⟨rfl, ⟨rfl, trivial⟩⟩⟩⟩⟩, ⟨rfl, rfl, ⟨rfl, ⟨rfl, ⟨rfl, ⟨rfl, trivial⟩⟩⟩⟩, ⟨rfl, ⟨rfl, ⟨rfl, ⟨rfl, trivial⟩⟩⟩⟩⟩, ⟨rfl, rfl, ⟨rfl, ⟨rfl, ⟨rfl, ⟨rfl, trivial⟩⟩⟩⟩, ⟨rfl, ⟨rfl, ⟨rfl, ⟨rfl, trivial⟩⟩⟩⟩⟩⟩⟩⟩⟩⟩⟩⟩⟩⟩⟩⟩⟩⟩ (by kernel_rfl) (by kernel_rfl) (by kernel_rfl) (by kernel_rfl) (.inl rfl) (Below.refl _ _) ?_
    refine chainP_soft (a1 := ?ma1) (by kernel_rfl) (by kernel_rfl) ?mh1 ?mr1
    case mh1 =>
      intro u hu E hE
      go_wp2
      rfl
    refine chainP_soft (a1 := ?ma2) (by kernel_rfl) (by kernel_rfl) ?mh2 ?mr2
    case mh2 =>
      intro u hu E hE
      have c0 := (hu.cell (p := ⟨w.heap.size, 1, none⟩) hlt2).trans x1
      go_wp2
      rfl
    refine chainP_soft (a1 := ?ma3) (by kernel_rfl) (by kernel_rfl) ?mh3 ?mr3
    case mh3 =>
      intro u hu E hE
      go_wp2
      rfl
    refine chainP_soft (a1 := ?ma4) (by kernel_rfl) (by kernel_rfl) ?mh4 ?mr4
    case mh4 =>
      intro u hu E hE
      have c0 := (hu.cell (p := ⟨b, off, none⟩) hl1).trans y0
      have c1 := (hu.cell (p := ⟨b, off + 1, none⟩) hl1).trans y1
      have c2 := (hu.cell (p := ⟨b, off + 2, none⟩) hl1).trans y2
      have c3 := (hu.cell (p := ⟨b, off + 3, none⟩) hl1).trans y3
      go_wp2
      rfl
    refine chainP_soft (a1 := ?ma5) (by kernel_rfl) (by kernel_rfl) ?mh5 ?mr5
    case mh5 =>
      intro u hu E hE
      go_wp2
      rfl
    refine chainP_soft (a1 := ?ma6) (by kernel_rfl) (by kernel_rfl) ?mh6 ?mr6
    case mh6 =>
      intro u hu E hE
      have c0 := (hu.cell (p := ⟨w.heap.size, 1, none⟩) hlt2).trans x1
      go_wp2
      rfl
    refine chainP_soft (a1 := ?ma7) (by kernel_rfl) (by kernel_rfl) ?mh7 ?mr7
    case mh7 =>
      intro u hu E hE
      go_wp2
      rfl
    refine chainP_soft (a1 := ?ma8) (by kernel_rfl) (by kernel_rfl) ?mh8 ?mr8
    case mh8 =>
      intro u hu E hE
      have c0 := (hu.cell (p := ⟨b, off + 4, none⟩) hl1).trans z0
      have c1 := (hu.cell (p := ⟨b, off + 4 + 1, none⟩) hl1).trans z1
      have c2 := (hu.cell (p := ⟨b, off + 4 + 2, none⟩) hl1).trans z2
      have c3 := (hu.cell (p := ⟨b, off + 4 + 3, none⟩) hl1).trans z3
      go_wp2
      rfl
    refine chainP_soft (a1 := ?ma9) (by kernel_rfl) (by kernel_rfl) ?mh9 ?mr9
    case mh9 =>
      intro u hu E hE
      go_wp2
      rfl
    refine chainP_soft (a1 := ?ma10) (by kernel_rfl) (by kernel_rfl) ?mh10 ?mr10
    case mh10 =>
      intro u hu E hE
      have c0 := (hu.cell (p := ⟨w.heap.size, 1, none⟩) hlt2).trans x1
      go_wp2
      rfl
    refine chainP_soft (a1 := ?ma11) (by kernel_rfl) (by kernel_rfl) ?mh11 ?mr11
    case mh11 =>
      intro u hu E hE
      go_wp2
      rfl
    refine chainP_soft (a1 := ?ma12) (by kernel_rfl) (by kernel_rfl) ?mh12 ?mr12
    case mh12 =>
      intro u hu E hE
      have c0 := (hu.cell (p := ⟨b, off + 2 * 4, none⟩) hl1).trans t0
      have c1 := (hu.cell (p := ⟨b, off + 2 * 4 + 1, none⟩) hl1).trans t1
      have c2 := (hu.cell (p := ⟨b, off + 2 * 4 + 2, none⟩) hl1).trans t2
      have c3 := (hu.cell (p := ⟨b, off + 2 * 4 + 3, none⟩) hl1).trans t3
      go_wp2
      rfl
    clear x0 x1 y0 y1 y2 y3 z0 z1 z2 z3 t0 t1 t2 t3
    refine chainP_three ?_ ?_ ?_
    · intro E hE
      go_wp2
      refine ⟨(Below.refl W2.heap.size W2).alloc (Nat.le_refl _) _, ?_⟩
      refine chainP_two ?_ ?_
      · intro E hE
        go_wp2
        refine ⟨(two W2 (.cells #[.int .i64 0, .int .i64 0, .string ⟨#[]⟩, .slice none 0 0] 49 (0, 0)) (.cells #[.int .i64 0, .int .i64 0, .string ⟨#[]⟩, .slice none 0 0] 49 (0, 0))).2.2.2, ?_⟩
        refine chainP_one ?_
        intro E hE
        go_wp2
        have HK := Lib.hid (three W2 (.cells #[.int .i64 0, .int .i64 0, .string ⟨#[]⟩, .slice none 0 0] 49 (0, 0)) (.cells #[.int .i64 0, .int .i64 0, .string ⟨#[]⟩, .slice none 0 0] 49 (0, 0)) (.cells #[.int .i64 0, .int .i64 0, .string ⟨#[]⟩, .slice none 0 0] 49 (0, 0)))
        refine ⟨HK.out.2.2.2, ?_⟩
        refine chainP_one ?_
        intro E hE
        go_wp2_with (refine wpList_store_row rfl 49 (.tmp 3) (.tmp 11) rfl W2.heap.size #[.int .i64 x.k, .int .i64 x.n, .string x.s, .slice qa x.args.length qc] rfl rfl _ _ HK.out.1 size_term rfl (one4 _ _ _ _ _ _) ?_)
        refine ⟨below_row HK.out.2.2.2 (by omega), ?_⟩
        refine chainP_one ?_
        intro E hE
        go_wp2_with (refine wpList_store_row rfl 49 (.tmp 4) (.tmp 15) rfl (W2.heap.size + 1) #[.int .i64 y.k, .int .i64 y.n, .string y.s, .slice za y.args.length zc] rfl rfl _ _ ((setRow_other _ _ _ _ (by omega)).trans HK.out.2.1) size_term rfl (one4 _ _ _ _ _ _) ?_)
        refine ⟨below_row (below_row HK.out.2.2.2 (by omega)) (by omega), ?_⟩
        refine chainP_one ?_
        intro E hE
        go_wp2_with (refine wpList_store_row rfl 49 (.tmp 5) (.tmp 19) rfl (W2.heap.size + 2) #[.int .i64 z.k, .int .i64 z.n, .string z.s, .slice va z.args.length vc] rfl rfl _ _ ((setRow_other _ _ _ _ (by omega)).trans ((setRow_other _ _ _ _ (by omega)).trans HK.out.2.2.1)) size_term rfl (one4 _ _ _ _ _ _) ?_)
        refine ⟨below_row (below_row (below_row HK.out.2.2.2 (by omega)) (by omega)) (by omega), ?_⟩
        have HFIN := Lib.hid (args_three (g := W2.heap.size) (g' := (W2.heap.size + 1)) (g'' := (W2.heap.size + 2)) HK.out.2.2.2 (by omega) (by omega) (by omega) (by omega) (by omega) (by omega) (Nat.le_of_lt hlt2) HK.out.1 HK.out.2.1 HK.out.2.2.1 (HI1.out.below HK.out.2.2.2) (HI2.out.below HK.out.2.2.2) (HI3.out.below HK.out.2.2.2))
        clear HK
        refine chainP_nil (rest_end (by decide) ?_)
        go_wp2
        go_meet
        exact Args3.lift HD.out HFIN.out
      · intro E hE
        go_wp2
        refine ⟨(two W2 (.cells #[.int .i64 0, .int .i64 0, .string ⟨#[]⟩, .slice none 0 0] 49 (0, 0)) (.cells #[.int .i64 0, .int .i64 0, .string ⟨#[]⟩, .slice none 0 0] 49 (0, 0))).2.2.2, ?_⟩
        refine chainP_one ?_
        intro E hE
        go_wp2
        have HK := Lib.hid (three W2 (.cells #[.int .i64 0, .int .i64 0, .string ⟨#[]⟩, .slice none 0 0] 49 (0, 0)) (.cells #[.int .i64 0, .int .i64 0, .string ⟨#[]⟩, .slice none 0 0] 49 (0, 0)) (.cells #[.int .i64 0, .int .i64 0, .string ⟨#[]⟩, .slice none 0 0] 49 (0, 0)))
        refine ⟨HK.out.2.2.2, ?_⟩
        refine chainP_one ?_
        intro E hE
        go_wp2_with (refine wpList_store_row rfl 49 (.tmp 3) (.tmp 11) rfl W2.heap.size #[.int .i64 x.k, .int .i64 x.n, .string x.s, .slice qa x.args.length qc] rfl rfl _ _ HK.out.1 size_term rfl (one4 _ _ _ _ _ _) ?_)
        refine ⟨below_row HK.out.2.2.2 (by omega), ?_⟩
        refine chainP_one ?_
        intro E hE
        go_wp2_with (refine wpList_store_row rfl 49 (.tmp 4) (.tmp 15) rfl (W2.heap.size + 2) #[.int .i64 y.k, .int .i64 y.n, .string y.s, .slice za y.args.length zc] rfl rfl _ _ ((setRow_other _ _ _ _ (by omega)).trans HK.out.2.2.1) size_term rfl (one4 _ _ _ _ _ _) ?_)
        refine ⟨below_row (below_row HK.out.2.2.2 (by omega)) (by omega), ?_⟩
        refine chainP_one ?_
        intro E hE
        go_wp2_with (refine wpList_store_row rfl 49 (.tmp 5) (.tmp 19) rfl (W2.heap.size + 1) #[.int .i64 z.k, .int .i64 z.n, .string z.s, .slice va z.args.length vc] rfl rfl _ _ ((setRow_other _ _ _ _ (by omega)).trans ((setRow_other _ _ _ _ (by omega)).trans HK.out.2.1)) size_term rfl (one4 _ _ _ _ _ _) ?_)
        refine ⟨below_row (below_row (below_row HK.out.2.2.2 (by omega)) (by omega)) (by omega), ?_⟩
        have HFIN := Lib.hid (args_three (g := W2.heap.size) (g' := (W2.heap.size + 2)) (g'' := (W2.heap.size + 1)) HK.out.2.2.2 (by omega) (by omega) (by omega) (by omega) (by omega) (by omega) (Nat.le_of_lt hlt2) HK.out.1 HK.out.2.2.1 HK.out.2.1 (HI1.out.below HK.out.2.2.2) (HI2.out.below HK.out.2.2.2) (HI3.out.below HK.out.2.2.2))
        clear HK
        refine chainP_nil (rest_end (by decide) ?_)
        go_wp2
        go_meet
        exact Args3.lift HD.out HFIN.out
    · intro E hE
      go_wp2
      refine ⟨(Below.refl W2.heap.size W2).alloc (Nat.le_refl _) _, ?_⟩
      refine chainP_two ?_ ?_
      · intro E hE
        go_wp2
        refine ⟨(two W2 (.cells #[.int .i64 0, .int .i64 0, .string ⟨#[]⟩, .slice none 0 0] 49 (0, 0)) (.cells #[.int .i64 0, .int .i64 0, .string ⟨#[]⟩, .slice none 0 0] 49 (0, 0))).2.2.2, ?_⟩
        refine chainP_one ?_
        intro E hE
        go_wp2
        have HK := Lib.hid (three W2 (.cells #[.int .i64 0, .int .i64 0, .string ⟨#[]⟩, .slice none 0 0] 49 (0, 0)) (.cells #[.int .i64 0, .int .i64 0, .string ⟨#[]⟩, .slice none 0 0] 49 (0, 0)) (.cells #[.int .i64 0, .int .i64 0, .string ⟨#[]⟩, .slice none 0 0] 49 (0, 0)))
        refine ⟨HK.out.2.2.2, ?_⟩
        refine chainP_one ?_
        intro E hE
        go_wp2_with (refine wpList_store_row rfl 49 (.tmp 3) (.tmp 11) rfl (W2.heap.size + 1) #[.int .i64 x.k, .int .i64 x.n, .string x.s, .slice qa x.args.length qc] rfl rfl _ _ HK.out.2.1 size_term rfl (one4 _ _ _ _ _ _) ?_)
        refine ⟨below_row HK.out.2.2.2 (by omega), ?_⟩
        refine chainP_one ?_
        intro E hE
        go_wp2_with (refine wpList_store_row rfl 49 (.tmp 4) (.tmp 15) rfl W2.heap.size #[.int .i64 y.k, .int .i64 y.n, .string y.s, .slice za y.args.length zc] rfl rfl _ _ ((setRow_other _ _ _ _ (by omega)).trans HK.out.1) size_term rfl (one4 _ _ _ _ _ _) ?_)
        refine ⟨below_row (below_row HK.out.2.2.2 (by omega)) (by omega), ?_⟩
        refine chainP_one ?_
        intro E hE
        go_wp2_with (refine wpList_store_row rfl 49 (.tmp 5) (.tmp 19) rfl (W2.heap.size + 2) #[.int .i64 z.k, .int .i64 z.n, .string z.s, .slice va z.args.length vc] rfl rfl _ _ ((setRow_other _ _ _ _ (by omega)).trans ((setRow_other _ _ _ _ (by omega)).trans HK.out.2.2.1)) size_term rfl (one4 _ _ _ _ _ _) ?_)
        refine ⟨below_row (below_row (below_row HK.out.2.2.2 (by omega)) (by omega)) (by omega), ?_⟩
        have HFIN := Lib.hid (args_three (g := (W2.heap.size + 1)) (g' := W2.heap.size) (g'' := (W2.heap.size + 2)) HK.out.2.2.2 (by omega) (by omega) (by omega) (by omega) (by omega) (by omega) (Nat.le_of_lt hlt2) HK.out.2.1 HK.out.1 HK.out.2.2.1 (HI1.out.below HK.out.2.2.2) (HI2.out.below HK.out.2.2.2) (HI3.out.below HK.out.2.2.2))
        clear HK
        refine chainP_nil (rest_end (by decide) ?_)
        go_wp2
        go_meet
        exact Args3.lift HD.out HFIN.out
      · intro E hE
        go_wp2
        refine ⟨(two W2 (.cells #[.int .i64 0, .int .i64 0, .string ⟨#[]⟩, .slice none 0 0] 49 (0, 0)) (.cells #[.int .i64 0, .int .i64 0, .string ⟨#[]⟩, .slice none 0 0] 49 (0, 0))).2.2.2, ?_⟩
        refine chainP_one ?_
        intro E hE
        go_wp2
        have HK := Lib.hid (three W2 (.cells #[.int .i64 0, .int .i64 0, .string ⟨#[]⟩, .slice none 0 0] 49 (0, 0)) (.cells #[.int .i64 0, .int .i64 0, .string ⟨#[]⟩, .slice none 0 0] 49 (0, 0)) (.cells #[.int .i64 0, .int .i64 0, .string ⟨#[]⟩, .slice none 0 0] 49 (0, 0)))
        refine ⟨HK.out.2.2.2, ?_⟩
        refine chainP_one ?_
        intro E hE
        go_wp2_with (refine wpList_store_row rfl 49 (.tmp 3) (.tmp 11) rfl (W2.heap.size + 2) #[.int .i64 x.k, .int .i64 x.n, .string x.s, .slice qa x.args.length qc] rfl rfl _ _ HK.out.2.2.1 size_term rfl (one4 _ _ _ _ _ _) ?_)
        refine ⟨below_row HK.out.2.2.2 (by omega), ?_⟩
        refine chainP_one ?_
        intro E hE
        go_wp2_with (refine wpList_store_row rfl 49 (.tmp 4) (.tmp 15) rfl W2.heap.size #[.int .i64 y.k, .int .i64 y.n, .string y.s, .slice za y.args.length zc] rfl rfl _ _ ((setRow_other _ _ _ _ (by omega)).trans HK.out.1) size_term rfl (one4 _ _ _ _ _ _) ?_)
        refine ⟨below_row (below_row HK.out.2.2.2 (by omega)) (by omega), ?_⟩
        refine chainP_one ?_
        intro E hE
        go_wp2_with (refine wpList_store_row rfl 49 (.tmp 5) (.tmp 19) rfl (W2.heap.size + 1) #[.int .i64 z.k, .int .i64 z.n, .string z.s, .slice va z.args.length vc] rfl rfl _ _ ((setRow_other _ _ _ _ (by omega)).trans ((setRow_other _ _ _ _ (by omega)).trans HK.out.2.1)) size_term rfl (one4 _ _ _ _ _ _) ?_)
        refine ⟨below_row (below_row (below_row HK.out.2.2.2 (by omega)) (by omega)) (by omega), ?_⟩
        have HFIN := Lib.hid (args_three (g := (W2.heap.size + 2)) (g' := W2.heap.size) (g'' := (W2.heap.size + 1)) HK.out.2.2.2 (by omega) (by omega) (by omega) (by omega) (by omega) (by omega) (Nat.le_of_lt hlt2) HK.out.2.2.1 HK.out.1 HK.out.2.1 (HI1.out.below HK.out.2.2.2) (HI2.out.below HK.out.2.2.2) (HI3.out.below HK.out.2.2.2))
        clear HK
        refine chainP_nil (rest_end (by decide) ?_)
        go_wp2
        go_meet
        exact Args3.lift HD.out HFIN.out
    · intro E hE
      go_wp2
      refine ⟨(Below.refl W2.heap.size W2).alloc (Nat.le_refl _) _, ?_⟩
      refine chainP_two ?_ ?_
      · intro E hE
        go_wp2
        refine ⟨(two W2 (.cells #[.int .i64 0, .int .i64 0, .string ⟨#[]⟩, .slice none 0 0] 49 (0, 0)) (.cells #[.int .i64 0, .int .i64 0, .string ⟨#[]⟩, .slice none 0 0] 49 (0, 0))).2.2.2, ?_⟩
        refine chainP_one ?_
        intro E hE
        go_wp2
        have HK := Lib.hid (three W2 (.cells #[.int .i64 0, .int .i64 0, .string ⟨#[]⟩, .slice none 0 0] 49 (0, 0)) (.cells #[.int .i64 0, .int .i64 0, .string ⟨#[]⟩, .slice none 0 0] 49 (0, 0)) (.cells #[.int .i64 0, .int .i64 0, .string ⟨#[]⟩, .slice none 0 0] 49 (0, 0)))
        refine ⟨HK.out.2.2.2, ?_⟩
        refine chainP_one ?_
        intro E hE
        go_wp2_with (refine wpList_store_row rfl 49 (.tmp 3) (.tmp 11) rfl (W2.heap.size + 1) #[.int .i64 x.k, .int .i64 x.n, .string x.s, .slice qa x.args.length qc] rfl rfl _ _ HK.out.2.1 size_term rfl (one4 _ _ _ _ _ _) ?_)
        refine ⟨below_row HK.out.2.2.2 (by omega), ?_⟩
        refine chainP_one ?_
        intro E hE
        go_wp2_with (refine wpList_store_row rfl 49 (.tmp 4) (.tmp 15) rfl (W2.heap.size + 2) #[.int .i64 y.k, .int .i64 y.n, .string y.s, .slice za y.args.length zc] rfl rfl _ _ ((setRow_other _ _ _ _ (by omega)).trans HK.out.2.2.1) size_term rfl (one4 _ _ _ _ _ _) ?_)
        refine ⟨below_row (below_row HK.out.2.2.2 (by omega)) (by omega), ?_⟩
        refine chainP_one ?_
        intro E hE
        go_wp2_with (refine wpList_store_row rfl 49 (.tmp 5) (.tmp 19) rfl W2.heap.size #[.int .i64 z.k, .int .i64 z.n, .string z.s, .slice va z.args.length vc] rfl rfl _ _ ((setRow_other _ _ _ _ (by omega)).trans ((setRow_other _ _ _ _ (by omega)).trans HK.out.1)) size_term rfl (one4 _ _ _ _ _ _) ?_)
        refine ⟨below_row (below_row (below_row HK.out.2.2.2 (by omega)) (by omega)) (by omega), ?_⟩
        have HFIN := Lib.hid (args_three (g := (W2.heap.size + 1)) (g' := (W2.heap.size + 2)) (g'' := W2.heap.size) HK.out.2.2.2 (by omega) (by omega) (by omega) (by omega) (by omega) (by omega) (Nat.le_of_lt hlt2) HK.out.2.1 HK.out.2.2.1 HK.out.1 (HI1.out.below HK.out.2.2.2) (HI2.out.below HK.out.2.2.2) (HI3.out.below HK.out.2.2.2))
        clear HK
        refine chainP_nil (rest_end (by decide) ?_)
        go_wp2
        go_meet
        exact Args3.lift HD.out HFIN.out
      · intro E hE
        go_wp2
        refine ⟨(two W2 (.cells #[.int .i64 0, .int .i64 0, .string ⟨#[]⟩, .slice none 0 0] 49 (0, 0)) (.cells #[.int .i64 0, .int .i64 0, .string ⟨#[]⟩, .slice none 0 0] 49 (0, 0))).2.2.2, ?_⟩
        refine chainP_one ?_
        intro E hE
        go_wp2
        have HK := Lib.hid (three W2 (.cells #[.int .i64 0, .int .i64 0, .string ⟨#[]⟩, .slice none 0 0] 49 (0, 0)) (.cells #[.int .i64 0, .int .i64 0, .string ⟨#[]⟩, .slice none 0 0] 49 (0, 0)) (.cells #[.int .i64 0, .int .i64 0, .string ⟨#[]⟩, .slice none 0 0] 49 (0, 0)))
        refine ⟨HK.out.2.2.2, ?_⟩
        refine chainP_one ?_
        intro E hE
        go_wp2_with (refine wpList_store_row rfl 49 (.tmp 3) (.tmp 11) rfl (W2.heap.size + 2) #[.int .i64 x.k, .int .i64 x.n, .string x.s, .slice qa x.args.length qc] rfl rfl _ _ HK.out.2.2.1 size_term rfl (one4 _ _ _ _ _ _) ?_)
        refine ⟨below_row HK.out.2.2.2 (by omega), ?_⟩
        refine chainP_one ?_
        intro E hE
        go_wp2_with (refine wpList_store_row rfl 49 (.tmp 4) (.tmp 15) rfl (W2.heap.size + 1) #[.int .i64 y.k, .int .i64 y.n, .string y.s, .slice za y.args.length zc] rfl rfl _ _ ((setRow_other _ _ _ _ (by omega)).trans HK.out.2.1) size_term rfl (one4 _ _ _ _ _ _) ?_)
        refine ⟨below_row (below_row HK.out.2.2.2 (by omega)) (by omega), ?_⟩
        refine chainP_one ?_
        intro E hE
        go_wp2_with (refine wpList_store_row rfl 49 (.tmp 5) (.tmp 19) rfl W2.heap.size #[.int .i64 z.k, .int .i64 z.n, .string z.s, .slice va z.args.length vc] rfl rfl _ _ ((setRow_other _ _ _ _ (by omega)).trans ((setRow_other _ _ _ _ (by omega)).trans HK.out.1)) size_term rfl (one4 _ _ _ _ _ _) ?_)
        refine ⟨below_row (below_row (below_row HK.out.2.2.2 (by omega)) (by omega)) (by omega), ?_⟩
        have HFIN := Lib.hid (args_three (g := (W2.heap.size + 2)) (g' := (W2.heap.size + 1)) (g'' := W2.heap.size) HK.out.2.2.2 (by omega) (by omega) (by omega) (by omega) (by omega) (by omega) (Nat.le_of_lt hlt2) HK.out.2.2.1 HK.out.2.1 HK.out.1 (HI1.out.below HK.out.2.2.2) (HI2.out.below HK.out.2.2.2) (HI3.out.below HK.out.2.2.2))
        clear HK
        refine chainP_nil (rest_end (by decide) ?_)
        go_wp2
        go_meet
        exact Args3.lift HD.out HFIN.out
  case rest =>
    obtain ⟨b3, b4, b5, rfl, rfl, rfl, ⟨a3, c3, r3, i3⟩, ⟨a4, c4, r4, i4⟩, ⟨a5, c5, r5, -⟩, hbc⟩ := hcut
    have HR3 := Lib.hid (row_on HR.out hbc)
    have hb3 := HB.out.trans (hbc.mono HB.out.size)
    have hs3 : w.heap.size + 2 ≤ wc.heap.size := by have := HZ.out; have := hbc.size; omega
    have HB3 := Lib.hid hb3
    have HX := Lib.hid (show IsTm wc (fun b => b < w.heap.size) (.agg #[.int .i64 x.k, .int .i64 x.n, .string x.s, .slice a3 x.args.length c3]) x from IsTm.mk' i3)
    have HY := Lib.hid (show IsTm wc (fun b => b < w.heap.size) (.agg #[.int .i64 y.k, .int .i64 y.n, .string y.s, .slice a4 y.args.length c4]) y from IsTm.mk' i4)
    have R3 := Lib.hid r3
    have R4 := Lib.hid r4
    have R5 := Lib.hid r5
    clear i3 i4 HR HC HZ H HB hbc x0 x1 hb3 r3 r4 r5
    have hfn := HFN.out
    clear HFN
    rcases hfn with ⟨hk, hf, ht⟩ | ⟨hk, hf, ht⟩ | ⟨ha, hb, hn, h0, hf, ht⟩ | ⟨m, ha, hb, hn, h1, h0, h2, hf, ht⟩
    all_goals
      have HE := Lib.hid (And.intro hf ht)
      clear hf ht
    · obtain ⟨sx, hsx⟩ : ∃ sx, sx = x.s := ⟨_, rfl⟩
      obtain ⟨m, hm⟩ : ∃ m, m = x.args.length := ⟨_, rfl⟩
      rw [← hsx, ← hm] at HE
      have r3 := R3.out
      rw [hk, ← hsx, ← hm] at r3
      replace R3 := Lib.hid r3
      obtain ⟨y0, y1, y2, y3⟩ := row4 r3
      clear r3 hsx hm hk
      go_upto_region 3 with fail
      clear y0 y1 y2 y3
      refine wp_region_rest (by kernel_rfl) ?_
      have hd := (Below.refl wc.heap.size wc).drew
      have HR4 := Lib.hid (row_on HR3.out hd)
      have HB4 := Lib.hid (HB3.out.trans (hd.mono HB3.out.size))
      have r3 := row_on R3.out hd
      have HX4 := Lib.hid (HX.out.below hd)
      have hs4 : w.heap.size + 2 ≤ wc.drew.heap.size := by have := hd.size; omega
      clear hd HX HY R3 R4 R5 HR3 HB3 hs3
      generalize wc.drew = W2 at *
      obtain ⟨y0, y1, y2, y3⟩ := row4 r3
      clear r3
      refine rest_chain 0 6 [(false, [0, 1, 3, 4, 5]), (true, [2])] [(false, [_, _, _, _, _]), (true, [_])] rfl (by kernel_rfl) (by kernel_rfl) rfl (by kernel_rfl) (by kernel_rfl) (.inr (by kernel_rfl)) ?_
      refine chain_soft ?_
      intro E hE
      go_wp2
      clear y0 y1 y2 y3
      refine chain_one ?_
      intro E hE
      go_wp2_with (refine (sh_atom _ _).mono ?_; rintro e5 w5 ⟨rfl, hb5⟩; have HB5 := Lib.hid hb5; clear hb5)
      refine ⟨HB5.out, ?_⟩
      refine chain_nil ?_
      refine rest_lineL 6 10 [_, _, _, _] rfl (by kernel_rfl) (by decide) (by decide) (by kernel_rfl) ?_
      go_wp2_with fail
      refine (sh_whole _ _).mono ?_
      rintro e6 w6 ⟨rfl, hb6⟩
      have hb65 := HB5.out.trans (hb6.mono HB5.out.size)
      have HA6 := Lib.hid (hb65.trans (((Below.refl w6.heap.size w6).alloc (Nat.le_refl _) (.cells #[.int .i64 3, .int .i64 0, .string sx, .slice none 0 0, .int .i64 2, .int .i64 m, .string ⟨#[]⟩, .slice none 0 0] 49 (0, 0))).mono hb65.size))
      have HIS := Lib.hid (show IsSl (w6.alloc (.cells #[.int .i64 3, .int .i64 0, .string sx, .slice none 0 0, .int .i64 2, .int .i64 m, .string ⟨#[]⟩, .slice none 0 0] 49 (0, 0))) AnyB (.slice (some ⟨w6.heap.size, 0, none⟩) 2 2) [atomT sx, intT m] from row2 (x := atomT sx) (a := none) (c := 0) (y := intT m) (a' := none) (c' := 0) (atom_is w6 AnyB sx) (int_is w6 AnyB m))
      have hs6 := hb65.size
      clear hb6 hb65
      go_wp2_with fail
      refine (sh_made 1 [atomT sx, intT m] _ AnyB _ (by decide) (by decide) (by simp) (by simp [atomT, intT, Tm.size, sizeL]) HIS.out).mono ?_
      rintro e9 w9 ⟨va, vt, rfl, hi9, hs9, hb9⟩
      obtain ⟨q1, k1, e1⟩ : ∃ q k, va = .slice q 2 k := hi9.firsts
      obtain ⟨q2, k2, e2⟩ : ∃ q k, vt = .slice q 2 k := hs9.form
      subst e1 e2
      have hbx := (HB4.out.trans (HA6.out.mono (by have := HB4.out.size; omega))).trans (hb9.mono (by have := HB4.out.size; have := HA6.out.size; omega))
      have HFIN := Lib.hid (fun cs => DidOk.fin (r := w.heap.size + 1) cs hbx (by omega) (by have := HA6.out.size; omega) hi9 hs9)
      have HR9 := Lib.hid (row_on (row_on HR4.out HA6.out) hb9)
      clear hi9 hs9 hb9 hbx
      go_wp2_with (with_reducible show wpList _ _ _ (⟨none, .store _ (.tmp 2) _, _, _, _, _⟩ :: _) _ _
                   go_must (
                     refine wpList_store_row rfl 71 (.tmp 2) (.tmp 32) rfl (w.heap.size + 1) #[.bool true, .slice q1 2 k1, .slice q2 2 k2, .int .i64 0, .int .i64 0, .string ⟨#[]⟩, .slice none 0 0] rfl rfl _ _ HR9.out size_did rfl (one7 _ _ _ _ _ _ _) ?_))
      refine then_rest (rest_end (by decide) ?_)
      go_wp2
      have hz := setRow_heap w9 (w.heap.size + 1) _ (#[.bool true, .slice q1 2 k1, .slice q2 2 k2, .int .i64 0, .int .i64 0, .string ⟨#[]⟩, .slice none 0 0] : Array Value) _ _ HR9.out
      exact bodyPost_ret (v := .agg #[.bool true, .slice q1 2 k1, .slice q2 2 k2, .int .i64 0, .int .i64 0, .string ⟨#[]⟩, .slice none 0 0]) (results_cell_row Try.results88 _ _ (w.heap.size + 1) _ _ _ _ rfl hz Try.underlying71 rfl (by kernel_rfl)) rfl ((by rw [HE.out.1, HE.out.2]; exact HFIN.out _))
    · have r3 := R3.out
      obtain ⟨y0, y1, y2, y3⟩ := row4 r3
      have b1 : (x.k == 4) = false := by rcases hk with h | h <;> rw [h] <;> rfl
      have b2 : (x.k != 1) = true := by rcases hk with h | h <;> rw [h] <;> rfl
      clear r3 hk
      go_upto_region 5 with fail
      clear y0 y1 y2 y3
      refine wp_region_rest (by kernel_rfl) ?_
      have hd := (Below.refl wc.heap.size wc).drew
      have HR4 := Lib.hid (row_on HR3.out hd)
      have HB4 := Lib.hid (HB3.out.trans (hd.mono HB3.out.size))
      have r3 := row_on R3.out hd
      have HX4 := Lib.hid (HX.out.below hd)
      have hs4 : w.heap.size + 2 ≤ wc.drew.heap.size := by have := hd.size; omega
      clear hd HX HY R3 R4 R5 HR3 HB3 hs3
      generalize wc.drew = W2 at *
      obtain ⟨y0, y1, y2, y3⟩ := row4 r3
      clear r3
      refine rest_chain 0 2 [(false, [0]), (true, [1])] [(false, [_]), (true, [_])] rfl (by kernel_rfl) (by kernel_rfl) rfl (by kernel_rfl) (by kernel_rfl) (.inr (by kernel_rfl)) ?_
      refine chain_soft ?_
      intro E hE
      go_wp2
      clear y0 y1 y2 y3
      refine chain_one ?_
      intro E hE
      go_wp2_with (refine (sh_whole _ _).mono ?_; rintro e6 w6 ⟨rfl, hb6⟩; have HB6 := Lib.hid hb6; clear hb6)
      refine ⟨HB6.out, ?_⟩
      refine chain_nil ?_
      refine rest_lineL 2 5 [_, _, _] rfl (by kernel_rfl) (by decide) (by decide) (by kernel_rfl) ?_
      have HA6 := Lib.hid (HB6.out.trans (((Below.refl w6.heap.size w6).alloc (Nat.le_refl _) (.cells #[.int .i64 x.k, .int .i64 x.n, .string x.s, .slice a3 x.args.length c3, .int .i64 2, .int .i64 0, .string ⟨#[]⟩, .slice none 0 0] 49 (0, 0))).mono HB6.out.size))
      have HIS := Lib.hid (show IsSl (w6.alloc (.cells #[.int .i64 x.k, .int .i64 x.n, .string x.s, .slice a3 x.args.length c3, .int .i64 2, .int .i64 0, .string ⟨#[]⟩, .slice none 0 0] 49 (0, 0))) AnyB (.slice (some ⟨w6.heap.size, 0, none⟩) 2 2) [x, intT 0] from row2 (y := intT 0) (a' := none) (c' := 0) (HX4.out.below HB6.out).any (int_is w6 AnyB 0))
      have hs6 := HB6.out.size
      go_wp2_with fail
      refine (sh_made 1 [x, intT 0] _ AnyB _ (by decide) (by decide) (by simp) (by intro t ht; simp only [List.mem_cons, List.not_mem_nil, or_false] at ht; rcases ht with rfl | rfl; (· exact hM); (· simp [intT, Tm.size, sizeL])) HIS.out).mono ?_
      rintro e9 w9 ⟨va, vt, rfl, hi9, hs9, hb9⟩
      obtain ⟨q1, k1, e1⟩ : ∃ q k, va = .slice q 2 k := hi9.firsts
      obtain ⟨q2, k2, e2⟩ : ∃ q k, vt = .slice q 2 k := hs9.form
      subst e1 e2
      have hbx := (HB4.out.trans (HA6.out.mono (by have := HB4.out.size; omega))).trans (hb9.mono (by have := HB4.out.size; have := HA6.out.size; omega))
      have HFIN := Lib.hid (fun cs => DidOk.fin (r := w.heap.size + 1) cs hbx (by omega) (by have := HA6.out.size; omega) hi9 hs9)
      have HR9 := Lib.hid (row_on (row_on HR4.out HA6.out) hb9)
      clear hi9 hs9 hb9 hbx
      go_wp2_with (with_reducible show wpList _ _ _ (⟨none, .store _ (.tmp 2) _, _, _, _, _⟩ :: _) _ _
                   go_must (
                     refine wpList_store_row rfl 71 (.tmp 2) (.tmp 40) rfl (w.heap.size + 1) #[.bool true, .slice q1 2 k1, .slice q2 2 k2, .int .i64 0, .int .i64 0, .string ⟨#[]⟩, .slice none 0 0] rfl rfl _ _ HR9.out size_did rfl (one7 _ _ _ _ _ _ _) ?_))
      refine then_rest (rest_end (by decide) ?_)
      go_wp2
      have hz := setRow_heap w9 (w.heap.size + 1) _ (#[.bool true, .slice q1 2 k1, .slice q2 2 k2, .int .i64 0, .int .i64 0, .string ⟨#[]⟩, .slice none 0 0] : Array Value) _ _ HR9.out
      exact bodyPost_ret (v := .agg #[.bool true, .slice q1 2 k1, .slice q2 2 k2, .int .i64 0, .int .i64 0, .string ⟨#[]⟩, .slice none 0 0]) (results_cell_row Try.results88 _ _ (w.heap.size + 1) _ _ _ _ rfl hz Try.underlying71 rfl (by kernel_rfl)) rfl ((by rw [HE.out.1, HE.out.2]; exact HFIN.out _))
    · have r3 := R3.out
      have r4 := R4.out
      have r5 := R5.out
      rw [ha] at r3
      rw [hn, h0] at r5
      obtain ⟨y0, y1, y2, y3⟩ := row4 r3
      obtain ⟨z0, z1, z2, z3⟩ := row4 r4
      obtain ⟨t0, t1, t2, t3⟩ := row4 r5
      have b1 : (y.k == 1) = false := by rcases hb with h | h <;> rw [h] <;> rfl
      have b2 : (y.k == 4) = false := by rcases hb with h | h <;> rw [h] <;> rfl
      clear r3 r4 r5 ha hb hn h0 HX R3 R4 R5
      go_wp2_with fail
      clear y0 y1 y2 y3 z0 z1 z2 z3 t0 t1 t2 t3
      have HA6 := Lib.hid ((Below.refl wc.heap.size wc).alloc (Nat.le_refl _) (.cells #[.int .i64 y.k, .int .i64 y.n, .string y.s, .slice a4 y.args.length c4] 49 (0, 0)))
      have HIS := Lib.hid (row1 HY.out.any)
      refine (sh_made 0 [y] _ AnyB _ (by decide) (by decide) (by simp) (by simpa using hM') HIS.out).mono ?_
      rintro e9 w9 ⟨va, vt, rfl, hi9, hs9, hb9⟩
      obtain ⟨q1, k1, e1⟩ : ∃ q k, va = .slice q 1 k := hi9.firsts
      obtain ⟨q2, k2, e2⟩ : ∃ q k, vt = .slice q 1 k := hs9.form
      subst e1 e2
      have hbx := (HB3.out.trans (HA6.out.mono (by have := HB3.out.size; omega))).trans (hb9.mono (by have := HB3.out.size; have := HA6.out.size; omega))
      have HFIN := Lib.hid (fun cs => DidOk.fin (r := w.heap.size + 1) cs hbx (by omega) (by have := HA6.out.size; omega) hi9 hs9)
      have HR9 := Lib.hid (row_on (row_on HR3.out HA6.out) hb9)
      clear hi9 hs9 hb9 hbx
      go_wp2_with (with_reducible show wpList _ _ _ (⟨none, .store _ (.tmp 2) _, _, _, _, _⟩ :: _) _ _
                   go_must (
                     refine wpList_store_row rfl 71 (.tmp 2) (.tmp 81) rfl (w.heap.size + 1) #[.bool true, .slice q1 1 k1, .slice q2 1 k2, .int .i64 0, .int .i64 0, .string ⟨#[]⟩, .slice none 0 0] rfl rfl _ _ HR9.out size_did rfl (one7 _ _ _ _ _ _ _) ?_))
      have hz := setRow_heap w9 (w.heap.size + 1) _ (#[.bool true, .slice q1 1 k1, .slice q2 1 k2, .int .i64 0, .int .i64 0, .string ⟨#[]⟩, .slice none 0 0] : Array Value) _ _ HR9.out
      exact bodyPost_ret (v := .agg #[.bool true, .slice q1 1 k1, .slice q2 1 k2, .int .i64 0, .int .i64 0, .string ⟨#[]⟩, .slice none 0 0]) (results_cell_row Try.results88 _ _ (w.heap.size + 1) _ _ _ _ rfl hz Try.underlying71 rfl (by kernel_rfl)) rfl ((by rw [HE.out.1, HE.out.2]; exact HFIN.out _))
    · obtain ⟨sy, hsy⟩ : ∃ sy, sy = y.s := ⟨_, rfl⟩
      rw [← hsy] at HE
      have r3 := R3.out
      have r4 := R4.out
      have r5 := R5.out
      rw [ha] at r3
      rw [hb, ← hsy] at r4
      rw [hn, h1] at r5
      replace R5 := Lib.hid r5
      obtain ⟨y0, y1, y2, y3⟩ := row4 r3
      obtain ⟨z0, z1, z2, z3⟩ := row4 r4
      obtain ⟨t0, t1, t2, t3⟩ := row4 r5
      have b1 : ((m : Int) == 0) = false := by simp; omega
      have b2 : decide ((m : Int) < 0) = false := by simp
      have b3 : decide (255 < (m : Int)) = false := by simp; omega
      have b4 : decide (255 < m) = false := by simp; omega
      have b5 : decide (0 < m) = true := by simpa using h0
      have b6 : decide ((0 : Int) < m) = true := by simpa using h0
      have hrow := heap_alloc_new wc (.cells #[.int .i64 4, .int .i64 0, .string sy, .slice none 0 0] 49 (0, 0))
      have hbel : Below wc.heap.size wc (wc.alloc (.cells #[.int .i64 4, .int .i64 0, .string sy, .slice none 0 0] 49 (0, 0))) := (Below.refl _ _).alloc (Nat.le_refl _) _
      have hl5 := (Array.getElem?_eq_some_iff.1 r5).1
      have hl4 := (Array.getElem?_eq_some_iff.1 r4).1
      have HST := Lib.hid (show NvRel sy m wc wc.heap.size (.int .i64 ((0 : Nat) : Int)) _ from ⟨0, _, by omega, rfl, hrow, OwnSl.nil _ _ _, hbel⟩)
      clear r3 r4 r5 ha hb hn h1 HX HY R3 R4 hsy hrow hbel
      go_wp2
      clear y0 y1 y2 y3 z0 z1 z2 z3 t0 t1 t2 t3 b1 b2 b3 b4 b5 b6
      go_loopw [105] (fun v105 wr => NvRel sy m wc wc.heap.size v105 wr) (fun v105 _ => m - (intOf v105).toNat)
      case atStart => exact HST.out
      case round =>
        clear HST
        obtain ⟨i, va, hi, rfl, hm⟩ := hrel
        obtain ⟨q1, k1, e1⟩ := hm.args.form
        rw [newV_len] at e1
        subst e1
        obtain ⟨y0, y1, y2, y3⟩ := row4 hm.row
        have hgl := (Array.getElem?_eq_some_iff.1 hm.row).1
        have HM := Lib.hid hm
        clear hm
        by_cases hin : i < m
        · have b1 : decide ((i : Int) < (m : Int)) = true := by simp; omega
          have b2 : decide (i < m) = true := by simpa using hin
          go_wp2_with (with_reducible show wpList _ _ _ (⟨some 114, _, _, _, _, _⟩ :: _) _ _
                       go_must (
                         refine wpList_push_term rfl (.tmp 109) (.tmp 113) rfl (wc.heap.size + 1) (fun _ => False) (.slice q1 i k1) (newV i) _ _ _ _ (varT (-1 - (i : Int))) _ rfl HM.out.args rfl rfl (var_is _ _ _) (by rw [newV_len]; omega) (by omega) ?_
                         intro va' w9 ho9 hb9 hg9 hv9
                         rw [← newV_succ] at ho9
                         obtain ⟨q2, k2, e2⟩ := ho9.form
                         rw [newV_len] at e2
                         subst e2
                         obtain ⟨hx1, hfz, hm9⟩ := HM.out.next ho9 hb9
                         have HRL := Lib.hid (show NvRel sy m wc wc.heap.size (.int .i64 ((i + 1 : Nat) : Int)) _ from ⟨i + 1, _, by omega, rfl, hm9⟩)
                         clear ho9 hb9 hg9 hv9 hm9 y0 y1 y2 y3))
          go_roundw
          case measure => simp [intOf]; omega
          case rel => exact HRL.out
        · have b1 : decide ((i : Int) < (m : Int)) = false := by simp; omega
          have b2 : decide (i < m) = false := by simpa using hin
          obtain rfl : i = m := by omega
          have hsl := HM.out.args.reads
          have HR5 := Lib.hid (row_on HR3.out (HM.out.bel))
          have HB5 := Lib.hid (HB3.out.trans (HM.out.bel.mono HB3.out.size))
          have hs5 : w.heap.size + 2 ≤ wr.heap.size := by omega
          have hT : IsTm wr AnyB (.agg #[.int .i64 4, .int .i64 0, .string sy, .slice q1 (newV i).length k1]) (compT sy (newV i)) := (IsTm.mk' (t := compT sy (newV i)) (by show IsSl wr _ (.slice q1 (newV i).length k1) (newV i); rw [newV_len]; exact hsl)).any
          have hS := row1 (x := compT sy (newV i)) (a := q1) (c := k1) hT
          have HIS := Lib.hid (show IsSl (wr.alloc (.cells #[.int .i64 4, .int .i64 0, .string sy, .slice q1 (newV i).length k1] 49 (0, 0))) AnyB (.slice (some ⟨wr.heap.size, 0, none⟩) 1 1) [compT sy (newV i)] from hS)
          rw [newV_len] at HIS
          have hTs : (compT sy (newV i)).size ≤ 1000000000 := by
            have := newV_size i
            simp only [compT, Tm.size]
            omega
          have HA6 := Lib.hid ((Below.refl wr.heap.size wr).alloc (Nat.le_refl _) (.cells #[.int .i64 4, .int .i64 0, .string sy, .slice q1 i k1] 49 (0, 0)))
          clear hsl hT hS
          go_wp2_with fail
          clear y0 y1 y2 y3
          refine (sh_made 0 [compT sy (newV i)] _ AnyB _ (by decide) (by decide) (by simp) (by simpa using hTs) HIS.out).mono ?_
          rintro e9 w9 ⟨va, vt, rfl, hi9, hs9, hb9⟩
          obtain ⟨q1, k1, e1⟩ : ∃ q k, va = .slice q 1 k := hi9.firsts
          obtain ⟨q2, k2, e2⟩ : ∃ q k, vt = .slice q 1 k := hs9.form
          subst e1 e2
          have hbx := (HB5.out.trans (HA6.out.mono (by have := HB5.out.size; omega))).trans (hb9.mono (by have := HB5.out.size; have := HA6.out.size; omega))
          have HFIN := Lib.hid (fun cs => DidOk.fin (r := w.heap.size + 1) cs hbx (by omega) (by have := HA6.out.size; omega) hi9 hs9)
          have HR9 := Lib.hid (row_on (row_on HR5.out HA6.out) hb9)
          clear hi9 hs9 hb9 hbx
          go_wp2_with (with_reducible show wpList _ _ _ (⟨none, .store _ (.tmp 2) _, _, _, _, _⟩ :: _) _ _
                       go_must (
                         refine wpList_store_row rfl 71 (.tmp 2) (.tmp 119) rfl (w.heap.size + 1) #[.bool true, .slice q1 1 k1, .slice q2 1 k2, .int .i64 0, .int .i64 0, .string ⟨#[]⟩, .slice none 0 0] rfl rfl _ _ HR9.out size_did rfl (one7 _ _ _ _ _ _ _) ?_))
          have hz := setRow_heap w9 (w.heap.size + 1) _ (#[.bool true, .slice q1 1 k1, .slice q2 1 k2, .int .i64 0, .int .i64 0, .string ⟨#[]⟩, .slice none 0 0] : Array Value) _ _ HR9.out
          exact bodyPost_ret (v := .agg #[.bool true, .slice q1 1 k1, .slice q2 1 k2, .int .i64 0, .int .i64 0, .string ⟨#[]⟩, .slice none 0 0]) (results_cell_row Try.results88 _ _ (w.heap.size + 1) _ _ _ _ rfl hz Try.underlying71 rfl (by kernel_rfl)) rfl ((by rw [HE.out.1, HE.out.2]; exact HFIN.out _))
end Go.Proofs.Ytkhchmgdaolojaa.Tms
