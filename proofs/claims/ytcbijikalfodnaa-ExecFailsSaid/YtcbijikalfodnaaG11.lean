/-
  Layer 21: anyone, num, name, slot of a run, walked.
  Layer 21: pattern of a run, walked, given comp's contract.
  Layer 21: what comp of a run needs of memory: a slice of variables that is being filled, a map, blocks of its own.
  Layer 21: comp of a run, walked, given pattern's contract.
-/
import Derived.Test.YtcbijikalfodnaaG10
namespace Go.Proofs.Ytcbijikalfodnaa.Tms
open Go Go.RowKit Go.Proofs.Ytcbijikalfodnaa.Reg Go.Proofs.Ytcbijikalfodnaa.Rws Go.Proofs.Ytcbijikalfodnaa.Maps
open Go.Proofs.Ytcbijikalfodnaa.Cod (Ins Cod sk check slotsN InsSl InsAt)
set_option linter.unusedVariables false
set_option linter.unusedSimpArgs false

section
variable {w0 w : World} {p rb qb a k : Nat} {S : Sto} {D : Nat → Prop} {lv : Value} {L : List Ins} {sl : List Int}
set_option maxRecDepth 100000 in
set_option maxHeartbeats 4000000 in
theorem ex_any (h : ExAt w0 p rb qb S D lv L a sl k w) (hI : Inv S) (i : Ins) : Calls Try.prog 53 #[.pointer (some ⟨rb, 0, none⟩), i.val] w (ExPost w0 p rb qb lv L k D w ⟨(freshA S).1, (freshA S).2, a, freshW S, sl⟩) := by
  have hal := (Below.refl w.heap.size w).alloc (Nat.le_refl _) (.cells #[.int .i64 i.op, .int .i64 i.a, .int .i64 i.n, .string i.s] 71 (0, 0))
  have hnw := heap_alloc_new w (.cells #[.int .i64 i.op, .int .i64 i.a, .int .i64 i.n, .string i.s] 71 (0, 0))
  obtain ⟨h1, s1, f1⟩ := h.below hal
  have HGE := Lib.hid (f1 w.heap.size (Nat.le_refl _) (by simp))
  have HW := Lib.hid h1
  have HS := Lib.hid s1
  have HN := Lib.hid hnw
  clear hal hnw h1 s1 f1 h
  go_enter Try.func53, Try.ntmps53
  obtain ⟨c0, c1, c2, c3, c11⟩ := row12 HW.out.row
  go_wp2_with fail
  refine (law_FreshE HW.out.law hI).mono ?_
  rintro e3 w3 ⟨rfl, D3, l3, s3⟩
  obtain ⟨h3, t3⟩ := HW.out.did l3 s3
  have H3 := Lib.hid h3
  have HS3 := Lib.hid (HS.out.trans t3)
  clear h3 t3 l3 s3 c0 c1 c2 c3 c11 HW HS HN
  go_wp2
  go_ret2
  exact ⟨rfl, D3, H3.out, HS3.out⟩
set_option maxRecDepth 100000 in
set_option maxHeartbeats 4000000 in
theorem ex_num (h : ExAt w0 p rb qb S D lv L a sl k w) (hI : Inv S) (i : Ins) : Calls Try.prog 55 #[.pointer (some ⟨rb, 0, none⟩), i.val] w (ExPost w0 p rb qb lv L k D w (putXE a S sl [] (intT i.n))) := by
  have hal := (Below.refl w.heap.size w).alloc (Nat.le_refl _) (.cells #[.int .i64 i.op, .int .i64 i.a, .int .i64 i.n, .string i.s] 71 (0, 0))
  have hnw := heap_alloc_new w (.cells #[.int .i64 i.op, .int .i64 i.a, .int .i64 i.n, .string i.s] 71 (0, 0))
  obtain ⟨h1, s1, f1⟩ := h.below hal
  have HGE := Lib.hid (f1 w.heap.size (Nat.le_refl _) (by simp))
  have HW := Lib.hid h1
  have HS := Lib.hid s1
  have HN := Lib.hid hnw
  clear hal hnw h1 s1 f1 h
  go_enter Try.func55, Try.ntmps55
  go_upto_region 1 with fail
  generalize w.alloc (.cells #[.int .i64 i.op, .int .i64 i.a, .int .i64 i.n, .string i.s] 71 (0, 0)) = W1 at *
  generalize w.heap.size = g at *
  refine wp_region_rest (by kernel_rfl) ?_
  have hd := (Below.refl W1.heap.size W1).drew
  obtain ⟨h2, s2, -⟩ := HW.out.below hd
  have HW0 := Lib.hid h2
  have HS0 := Lib.hid (HS.out.trans s2)
  have hn2 := row_on HN.out hd
  have HGE0 := Lib.hid (s2.blk g HGE.out).1
  clear h2 s2 hd
  generalize W1.drew = W0 at *
  obtain ⟨c0, c1, c2, c3, c11⟩ := row12 HW0.out.row
  obtain ⟨x0, x1, x2, x3⟩ := row4 hn2
  have HN0 := Lib.hid hn2
  clear hn2
  clear HW HS HN
  refine rest_chainP (fun u => u = W0) 0 7 (.soft 0 (.soft 1 (.soft 2 (.soft 3 (.soft 4 (.soft 5 (.soft 6 .nil))))))) (.soft _ (.soft _ (.soft _ (.soft _ (.soft _ (.soft _ (.soft _ .nil))))))) ⟨rfl, ⟨rfl, ⟨rfl, ⟨rfl, ⟨rfl, ⟨rfl, ⟨rfl, trivial⟩⟩⟩⟩⟩⟩⟩ (by kernel_rfl) (by kernel_rfl) (by kernel_rfl) (by kernel_rfl) (.inr (by kernel_rfl)) rfl ?_
  refine chainP_soft (a1 := ?ma1) (by kernel_rfl) (by kernel_rfl) ?mh1 ?mr1
  case mh1 =>
    intro u hu E hE
    subst hu
    go_wp2
    rfl
  refine chainP_nck _ _ rfl rfl rfl ?_
  simp only [Act.put, List.getElem?_toArray, List.getElem?_cons_succ, List.getElem?_cons_zero, Option.bind_some, List.setIfInBounds_toArray, List.set_cons_succ, List.set_cons_zero, Nat.reduceAdd]
  refine chainP_soft (a1 := ?ma2) (by kernel_rfl) (by kernel_rfl) ?mh2 ?mr2
  case mh2 =>
    intro u hu E hE
    subst hu
    go_wp2
    rfl
  refine chainP_soft (a1 := ?ma3) (by kernel_rfl) (by kernel_rfl) ?mh3 ?mr3
  case mh3 =>
    intro u hu E hE
    subst hu
    go_wp2
    rfl
  refine chainP_soft (a1 := ?ma4) (by kernel_rfl) (by kernel_rfl) ?mh4 ?mr4
  case mh4 =>
    intro u hu E hE
    subst hu
    go_wp2
    rfl
  refine chainP_soft (a1 := ?ma5) (by kernel_rfl) (by kernel_rfl) ?mh5 ?mr5
  case mh5 =>
    intro u hu E hE
    subst hu
    go_wp2
    rfl
  refine chainP_soft (a1 := ?ma6) (by kernel_rfl) (by kernel_rfl) ?mh6 ?mr6
  case mh6 =>
    intro u hu E hE
    subst hu
    go_wp2
    rfl
  refine chainP_nil ?_
  clear c0 c1 c2 c3 c11 x0 x1 x2 x3
  refine rest_chainP (fun _ => True) 7 10 (.one 7 (.soft 8 (.soft 9 .nil))) (.one _ (.soft _ (.soft _ .nil))) ⟨rfl, ⟨rfl, ⟨rfl, trivial⟩⟩⟩ (by kernel_rfl) (by kernel_rfl) (by kernel_rfl) (by kernel_rfl) (.inr (by kernel_rfl)) trivial ?_
  refine chainP_one ?_
  intro E hE
  go_wp2_with (refine (law_Put0 HW0.out.law hI (int_is _ (fun _ => False) _) (fun b hb => hb.elim) (by simp [intT, atomT, Tm.size, sizeL])).mono ?_; rintro e3 w3 ⟨rfl, D3, l3, s3⟩)
  obtain ⟨h3, t3⟩ := HW0.out.did l3 s3
  have H3 := Lib.hid h3
  have HS3 := Lib.hid (HS0.out.trans t3)
  clear h3 t3 l3 s3 HW0 HS0 HN0
  refine ⟨trivial, ?_⟩
  refine chainP_softv (.int .i64 (putA S [] (intT i.n)).1) (by kernel_rfl) (by kernel_rfl) ?_ ?_
  · simp only [Act.put, List.getElem?_toArray, List.getElem?_cons_succ, List.getElem?_cons_zero, Option.bind_some, List.setIfInBounds_toArray, List.set_cons_succ, List.set_cons_zero, Nat.reduceAdd]
    intro u hu E hE
    go_wp2
    exact hE
  simp only [Act.put, List.getElem?_toArray, List.getElem?_cons_succ, List.getElem?_cons_zero, Option.bind_some, List.setIfInBounds_toArray, List.set_cons_succ, List.set_cons_zero, Nat.reduceAdd]
  refine chainP_softv (.int .i64 (putA S [] (intT i.n)).2) (by kernel_rfl) (by kernel_rfl) ?_ ?_
  · simp only [Act.put, List.getElem?_toArray, List.getElem?_cons_succ, List.getElem?_cons_zero, Option.bind_some, List.setIfInBounds_toArray, List.set_cons_succ, List.set_cons_zero, Nat.reduceAdd]
    intro u hu E hE
    go_wp2
    exact hE
  simp only [Act.put, List.getElem?_toArray, List.getElem?_cons_succ, List.getElem?_cons_zero, Option.bind_some, List.setIfInBounds_toArray, List.set_cons_succ, List.set_cons_zero, Nat.reduceAdd]
  refine chainP_nil ?_
  refine rest_lineL 10 12 [_, _] rfl (by kernel_rfl) (by decide) (by decide) (by kernel_rfl) ?_
  go_wp2
  refine then_rest (rest_end (by decide) ?_)
  go_wp2
  go_ret2
  exact ⟨rfl, D3, H3.out, HS3.out⟩
set_option maxRecDepth 100000 in
set_option maxHeartbeats 4000000 in
theorem ex_name (h : ExAt w0 p rb qb S D lv L a sl k w) (hI : Inv S) (i : Ins) : Calls Try.prog 56 #[.pointer (some ⟨rb, 0, none⟩), i.val] w (ExPost w0 p rb qb lv L k D w (putXE a S sl [] (atomT i.s))) := by
  have hal := (Below.refl w.heap.size w).alloc (Nat.le_refl _) (.cells #[.int .i64 i.op, .int .i64 i.a, .int .i64 i.n, .string i.s] 71 (0, 0))
  have hnw := heap_alloc_new w (.cells #[.int .i64 i.op, .int .i64 i.a, .int .i64 i.n, .string i.s] 71 (0, 0))
  obtain ⟨h1, s1, f1⟩ := h.below hal
  have HGE := Lib.hid (f1 w.heap.size (Nat.le_refl _) (by simp))
  have HW := Lib.hid h1
  have HS := Lib.hid s1
  have HN := Lib.hid hnw
  clear hal hnw h1 s1 f1 h
  go_enter Try.func56, Try.ntmps56
  go_upto_region 1 with fail
  generalize w.alloc (.cells #[.int .i64 i.op, .int .i64 i.a, .int .i64 i.n, .string i.s] 71 (0, 0)) = W1 at *
  generalize w.heap.size = g at *
  refine wp_region_rest (by kernel_rfl) ?_
  have hd := (Below.refl W1.heap.size W1).drew
  obtain ⟨h2, s2, -⟩ := HW.out.below hd
  have HW0 := Lib.hid h2
  have HS0 := Lib.hid (HS.out.trans s2)
  have hn2 := row_on HN.out hd
  have HGE0 := Lib.hid (s2.blk g HGE.out).1
  clear h2 s2 hd
  generalize W1.drew = W0 at *
  obtain ⟨c0, c1, c2, c3, c11⟩ := row12 HW0.out.row
  obtain ⟨x0, x1, x2, x3⟩ := row4 hn2
  have HN0 := Lib.hid hn2
  clear hn2
  clear HW HS HN
  refine rest_chainP (fun u => u = W0) 0 7 (.soft 0 (.soft 1 (.soft 2 (.soft 3 (.soft 4 (.soft 5 (.soft 6 .nil))))))) (.soft _ (.soft _ (.soft _ (.soft _ (.soft _ (.soft _ (.soft _ .nil))))))) ⟨rfl, ⟨rfl, ⟨rfl, ⟨rfl, ⟨rfl, ⟨rfl, ⟨rfl, trivial⟩⟩⟩⟩⟩⟩⟩ (by kernel_rfl) (by kernel_rfl) (by kernel_rfl) (by kernel_rfl) (.inr (by kernel_rfl)) rfl ?_
  refine chainP_soft (a1 := ?ma7) (by kernel_rfl) (by kernel_rfl) ?mh7 ?mr7
  case mh7 =>
    intro u hu E hE
    subst hu
    go_wp2
    rfl
  refine chainP_nck _ _ rfl rfl rfl ?_
  simp only [Act.put, List.getElem?_toArray, List.getElem?_cons_succ, List.getElem?_cons_zero, Option.bind_some, List.setIfInBounds_toArray, List.set_cons_succ, List.set_cons_zero, Nat.reduceAdd]
  refine chainP_soft (a1 := ?ma8) (by kernel_rfl) (by kernel_rfl) ?mh8 ?mr8
  case mh8 =>
    intro u hu E hE
    subst hu
    go_wp2
    rfl
  refine chainP_soft (a1 := ?ma9) (by kernel_rfl) (by kernel_rfl) ?mh9 ?mr9
  case mh9 =>
    intro u hu E hE
    subst hu
    go_wp2
    rfl
  refine chainP_soft (a1 := ?ma10) (by kernel_rfl) (by kernel_rfl) ?mh10 ?mr10
  case mh10 =>
    intro u hu E hE
    subst hu
    go_wp2
    rfl
  refine chainP_soft (a1 := ?ma11) (by kernel_rfl) (by kernel_rfl) ?mh11 ?mr11
  case mh11 =>
    intro u hu E hE
    subst hu
    go_wp2
    rfl
  refine chainP_soft (a1 := ?ma12) (by kernel_rfl) (by kernel_rfl) ?mh12 ?mr12
  case mh12 =>
    intro u hu E hE
    subst hu
    go_wp2
    rfl
  refine chainP_nil ?_
  clear c0 c1 c2 c3 c11 x0 x1 x2 x3
  refine rest_chainP (fun _ => True) 7 10 (.one 7 (.soft 8 (.soft 9 .nil))) (.one _ (.soft _ (.soft _ .nil))) ⟨rfl, ⟨rfl, ⟨rfl, trivial⟩⟩⟩ (by kernel_rfl) (by kernel_rfl) (by kernel_rfl) (by kernel_rfl) (.inr (by kernel_rfl)) trivial ?_
  refine chainP_one ?_
  intro E hE
  go_wp2_with (refine (law_Put0 HW0.out.law hI (atom_is _ (fun _ => False) _) (fun b hb => hb.elim) (by simp [intT, atomT, Tm.size, sizeL])).mono ?_; rintro e3 w3 ⟨rfl, D3, l3, s3⟩)
  obtain ⟨h3, t3⟩ := HW0.out.did l3 s3
  have H3 := Lib.hid h3
  have HS3 := Lib.hid (HS0.out.trans t3)
  clear h3 t3 l3 s3 HW0 HS0 HN0
  refine ⟨trivial, ?_⟩
  refine chainP_softv (.int .i64 (putA S [] (atomT i.s)).1) (by kernel_rfl) (by kernel_rfl) ?_ ?_
  · simp only [Act.put, List.getElem?_toArray, List.getElem?_cons_succ, List.getElem?_cons_zero, Option.bind_some, List.setIfInBounds_toArray, List.set_cons_succ, List.set_cons_zero, Nat.reduceAdd]
    intro u hu E hE
    go_wp2
    exact hE
  simp only [Act.put, List.getElem?_toArray, List.getElem?_cons_succ, List.getElem?_cons_zero, Option.bind_some, List.setIfInBounds_toArray, List.set_cons_succ, List.set_cons_zero, Nat.reduceAdd]
  refine chainP_softv (.int .i64 (putA S [] (atomT i.s)).2) (by kernel_rfl) (by kernel_rfl) ?_ ?_
  · simp only [Act.put, List.getElem?_toArray, List.getElem?_cons_succ, List.getElem?_cons_zero, Option.bind_some, List.setIfInBounds_toArray, List.set_cons_succ, List.set_cons_zero, Nat.reduceAdd]
    intro u hu E hE
    go_wp2
    exact hE
  simp only [Act.put, List.getElem?_toArray, List.getElem?_cons_succ, List.getElem?_cons_zero, Option.bind_some, List.setIfInBounds_toArray, List.set_cons_succ, List.set_cons_zero, Nat.reduceAdd]
  refine chainP_nil ?_
  refine rest_lineL 10 12 [_, _] rfl (by kernel_rfl) (by decide) (by decide) (by kernel_rfl) ?_
  go_wp2
  refine then_rest (rest_end (by decide) ?_)
  go_wp2
  go_ret2
  exact ⟨rfl, D3, H3.out, HS3.out⟩
set_option maxRecDepth 100000 in
set_option maxHeartbeats 8000000 in
theorem ex_slot (h : ExAt w0 p rb qb S D lv L a sl k w) (hI : Inv S) (i : Ins) (j : Nat) (hj : i.a = (j : Int)) (hjl : j < sl.length) (hsl : ∀ x ∈ sl, x = -1 ∨ 0 ≤ x) (hlen : sl.length ≤ 1000000) : Calls Try.prog 54 #[.pointer (some ⟨rb, 0, none⟩), i.val] w (ExPost w0 p rb qb lv L k D w (slotX i a S sl)) := by
  have hg0 := h.slots.got j hjl
  have HJ := Lib.hid hj
  clear hj
  have hal := (Below.refl w.heap.size w).alloc (Nat.le_refl _) (.cells #[.int .i64 i.op, .int .i64 i.a, .int .i64 i.n, .string i.s] 71 (0, 0))
  have hnw := heap_alloc_new w (.cells #[.int .i64 i.op, .int .i64 i.a, .int .i64 i.n, .string i.s] 71 (0, 0))
  obtain ⟨h1, s1, f1⟩ := h.below hal
  have HGE := Lib.hid (f1 w.heap.size (Nat.le_refl _) (by simp))
  have HW := Lib.hid h1
  have HS := Lib.hid s1
  have HN := Lib.hid hnw
  clear hal hnw h1 s1 f1 h hg0
  go_enter Try.func54, Try.ntmps54
  go_upto_region 1 with fail
  generalize w.alloc (.cells #[.int .i64 i.op, .int .i64 i.a, .int .i64 i.n, .string i.s] 71 (0, 0)) = W1 at *
  generalize w.heap.size = g at *
  refine wp_region_rest (by kernel_rfl) ?_
  have hd := (Below.refl W1.heap.size W1).drew
  obtain ⟨h2, s2, -⟩ := HW.out.below hd
  have HW0 := Lib.hid h2
  have HS0 := Lib.hid (HS.out.trans s2)
  have hn2 := row_on HN.out hd
  have HGE0 := Lib.hid (s2.blk g HGE.out).1
  clear h2 s2 hd
  generalize W1.drew = W0 at *
  obtain ⟨c0, c1, c2, c3, c11⟩ := row12 HW0.out.row
  obtain ⟨x0, x1, x2, x3⟩ := row4 hn2
  have HN0 := Lib.hid hn2
  clear hn2
  clear HW HS HN
  rw [HJ.out] at x1
  have hq := HW0.out.slots.got j hjl
  obtain ⟨v, hv⟩ : ∃ v, v = sl[j] := ⟨_, rfl⟩
  rw [← hv] at hq
  have HV := Lib.hid hv
  clear hv
  have hcl : sl.length ≤ maxLen := by unfold maxLen; omega
  have hjt : i.a.toNat = j := by rw [HJ.out]; simp
  have hgd : sl.getD i.a.toNat 0 = v := by rw [hjt, HV.out]; simp [List.getD, List.getElem?_eq_getElem hjl]
  have HGD := Lib.hid (And.intro hjt hgd)
  clear hjt hgd
  by_cases hn : v < 0
  · have b1 : decide (v < 0) = true := by simpa using hn
    have HX := Lib.hid (show slotX i a S sl = (if (freshA S).2 ≠ 0 then ⟨0, (freshA S).2, a, freshW S, sl⟩ else ⟨(freshA S).1, 0, a, freshW S, sl.set j (freshA S).1⟩) by unfold slotX; rw [HGD.out.2, HGD.out.1, if_pos hn])
    clear hn
    refine rest_chainP (fun u => u = W0) 0 6 (.soft 0 (.soft 1 (.soft 2 (.soft 3 (.soft 4 (.soft 5 .nil)))))) (.soft _ (.soft _ (.soft _ (.soft _ (.soft _ (.soft _ .nil)))))) ⟨rfl, ⟨rfl, ⟨rfl, ⟨rfl, ⟨rfl, ⟨rfl, trivial⟩⟩⟩⟩⟩⟩ (by kernel_rfl) (by kernel_rfl) (by kernel_rfl) (by kernel_rfl) (.inr (by kernel_rfl)) rfl ?_
    refine chainP_soft (a1 := ?ma13) (by kernel_rfl) (by kernel_rfl) ?mh13 ?mr13
    case mh13 =>
      intro u hu E hE
      subst hu
      go_wp2
      rfl
    refine chainP_nck _ _ rfl rfl rfl ?_
    simp only [Act.put, List.getElem?_toArray, List.getElem?_cons_succ, List.getElem?_cons_zero, Option.bind_some, List.setIfInBounds_toArray, List.set_cons_succ, List.set_cons_zero, Nat.reduceAdd]
    refine chainP_soft (a1 := ?ma14) (by kernel_rfl) (by kernel_rfl) ?mh14 ?mr14
    case mh14 =>
      intro u hu E hE
      subst hu
      go_wp2
      rfl
    refine chainP_soft (a1 := ?ma15) (by kernel_rfl) (by kernel_rfl) ?mh15 ?mr15
    case mh15 =>
      intro u hu E hE
      subst hu
      go_wp2
      rfl
    refine chainP_soft (a1 := ?ma16) (by kernel_rfl) (by kernel_rfl) ?mh16 ?mr16
    case mh16 =>
      intro u hu E hE
      subst hu
      go_wp2
      rfl
    refine chainP_soft (a1 := ?ma17) (by kernel_rfl) (by kernel_rfl) ?mh17 ?mr17
    case mh17 =>
      intro u hu E hE
      subst hu
      go_wp2
      rfl
    refine chainP_nil ?_
    refine rest_lineL 6 9 [_, _, _] rfl (by kernel_rfl) (by decide) (by decide) (by kernel_rfl) ?_
    go_wp2
    refine then_rest (rest_end (by decide) ?_)
    clear hq
    go_wp2_with fail
    refine (law_FreshE HW0.out.law hI).mono ?_
    rintro e3 w3 ⟨rfl, D3, l3, s3⟩
    obtain ⟨h3, t3⟩ := HW0.out.did l3 s3
    have H3 := Lib.hid h3
    have HS3 := Lib.hid (HS0.out.trans t3)
    have HN3 := Lib.hid ((t3.blk g HGE0.out).2.trans HN0.out)
    have HG3 := Lib.hid (t3.blk g HGE0.out).1
    obtain ⟨f1, hf1⟩ : ∃ f, f = (freshA S).1 := ⟨_, rfl⟩
    obtain ⟨f2, hf2⟩ : ∃ f, f = (freshA S).2 := ⟨_, rfl⟩
    rw [← hf1, ← hf2] at HX ⊢
    clear h3 t3 l3 s3 c0 c1 c2 c3 c11 x0 x1 x2 x3 HW0 HS0 HN0 HGE0 hf1 hf2
    by_cases he : f2 = 0
    · have b2 : (f2 != 0) = false := by simpa using he
      have HE := Lib.hid he
      clear he
      go_upto_region 5 with fail
      refine wp_region_rest (by kernel_rfl) ?_
      have hd := (Below.refl w3.heap.size w3).drew
      obtain ⟨h4, s4, -⟩ := H3.out.below hd
      have hn4 := row_on HN3.out hd
      have HG4 := Lib.hid (s4.blk g HG3.out).1
      have HS4 := Lib.hid (HS3.out.trans s4)
      clear hd s4 H3 HS3 HN3 HG3
      generalize w3.drew = W4 at *
      obtain ⟨c0, c1, c2, c3, c11⟩ := row12 h4.row
      obtain ⟨x0, x1, x2, x3⟩ := row4 hn4
      rw [HJ.out] at x1
      obtain ⟨⟨y, hy⟩, hfz, h5, s5⟩ := h4.setSlot j hjl f1
      have H5 := Lib.hid h5
      have HS5 := Lib.hid (HS4.out.trans s5)
      have HN5 := Lib.hid ((s5.blk g HG4.out).2.trans hn4)
      have HG5 := Lib.hid (s5.blk g HG4.out).1
      clear h4 h5 s5 hn4 HS4 HG4
      refine rest_chainP (fun u => u = W4) 0 7 (.soft 0 (.soft 1 (.soft 2 (.soft 3 (.soft 4 (.soft 5 (.soft 6 .nil))))))) (.soft _ (.soft _ (.soft _ (.soft _ (.soft _ (.soft _ (.soft _ .nil))))))) ⟨rfl, ⟨rfl, ⟨rfl, ⟨rfl, ⟨rfl, ⟨rfl, ⟨rfl, trivial⟩⟩⟩⟩⟩⟩⟩ (by kernel_rfl) (by kernel_rfl) (by kernel_rfl) (by kernel_rfl) (.inr (by kernel_rfl)) rfl ?_
      refine chainP_soft (a1 := ?ma18) (by kernel_rfl) (by kernel_rfl) ?mh18 ?mr18
      case mh18 =>
        intro u hu E hE
        subst hu
        go_wp2
        rfl
      refine chainP_nck _ _ rfl rfl rfl ?_
      simp only [Act.put, List.getElem?_toArray, List.getElem?_cons_succ, List.getElem?_cons_zero, Option.bind_some, List.setIfInBounds_toArray, List.set_cons_succ, List.set_cons_zero, Nat.reduceAdd]
      refine chainP_soft (a1 := ?ma19) (by kernel_rfl) (by kernel_rfl) ?mh19 ?mr19
      case mh19 =>
        intro u hu E hE
        subst hu
        go_wp2
        rfl
      refine chainP_soft (a1 := ?ma20) (by kernel_rfl) (by kernel_rfl) ?mh20 ?mr20
      case mh20 =>
        intro u hu E hE
        subst hu
        go_wp2
        rfl
      refine chainP_soft (a1 := ?ma21) (by kernel_rfl) (by kernel_rfl) ?mh21 ?mr21
      case mh21 =>
        intro u hu E hE
        subst hu
        go_wp2
        rfl
      refine chainP_soft (a1 := ?ma22) (by kernel_rfl) (by kernel_rfl) ?mh22 ?mr22
      case mh22 =>
        intro u hu E hE
        subst hu
        go_wp2
        rfl
      refine chainP_soft (a1 := ?ma23) (by kernel_rfl) (by kernel_rfl) ?mh23 ?mr23
      case mh23 =>
        intro u hu E hE
        subst hu
        go_wp2
        rfl
      refine chainP_nil ?_
      refine rest_lineL 7 9 [_, _] rfl (by kernel_rfl) (by decide) (by decide) (by kernel_rfl) ?_
      go_wp2
      refine then_rest (rest_end (by decide) ?_)
      clear c0 c1 c2 c3 c11 x0 x1 x2 x3 hy hfz
      go_upto_region 6 with fail
      generalize W4.setCell ⟨qb, j, none⟩ (.int .i64 f1) = W5 at *
      refine wp_region_rest (by kernel_rfl) ?_
      have hd := (Below.refl W5.heap.size W5).drew
      obtain ⟨h6, s6, -⟩ := H5.out.below hd
      have hn6 := row_on HN5.out hd
      have HS6 := Lib.hid (HS5.out.trans s6)
      clear hd s6 H5 HS5 HN5 HG5
      generalize W5.drew = W6 at *
      obtain ⟨c0, c1, c2, c3, c11⟩ := row12 h6.row
      obtain ⟨x0, x1, x2, x3⟩ := row4 hn6
      rw [HJ.out] at x1
      have hq : W6.cell? ⟨qb, j, none⟩ = some (.int .i64 f1) := (h6.slots.got j (by rw [List.length_set]; exact hjl)).trans (by rw [List.getElem_set_self])
      have H6 := Lib.hid h6
      clear h6 hn6
      refine rest_chainP (fun u => u = W6) 0 6 (.soft 0 (.soft 1 (.soft 2 (.soft 3 (.soft 4 (.soft 5 .nil)))))) (.soft _ (.soft _ (.soft _ (.soft _ (.soft _ (.soft _ .nil)))))) ⟨rfl, ⟨rfl, ⟨rfl, ⟨rfl, ⟨rfl, ⟨rfl, trivial⟩⟩⟩⟩⟩⟩ (by kernel_rfl) (by kernel_rfl) (by kernel_rfl) (by kernel_rfl) (.inr (by kernel_rfl)) rfl ?_
      refine chainP_soft (a1 := ?ma24) (by kernel_rfl) (by kernel_rfl) ?mh24 ?mr24
      case mh24 =>
        intro u hu E hE
        subst hu
        go_wp2
        rfl
      refine chainP_nck _ _ rfl rfl rfl ?_
      simp only [Act.put, List.getElem?_toArray, List.getElem?_cons_succ, List.getElem?_cons_zero, Option.bind_some, List.setIfInBounds_toArray, List.set_cons_succ, List.set_cons_zero, Nat.reduceAdd]
      refine chainP_soft (a1 := ?ma25) (by kernel_rfl) (by kernel_rfl) ?mh25 ?mr25
      case mh25 =>
        intro u hu E hE
        subst hu
        go_wp2
        rfl
      refine chainP_soft (a1 := ?ma26) (by kernel_rfl) (by kernel_rfl) ?mh26 ?mr26
      case mh26 =>
        intro u hu E hE
        subst hu
        go_wp2
        rfl
      refine chainP_soft (a1 := ?ma27) (by kernel_rfl) (by kernel_rfl) ?mh27 ?mr27
      case mh27 =>
        intro u hu E hE
        subst hu
        go_wp2
        rfl
      refine chainP_soft (a1 := ?ma28) (by kernel_rfl) (by kernel_rfl) ?mh28 ?mr28
      case mh28 =>
        intro u hu E hE
        subst hu
        go_wp2
        rfl
      refine chainP_nil ?_
      refine rest_lineL 6 10 [_, _, _, _] rfl (by kernel_rfl) (by decide) (by decide) (by kernel_rfl) ?_
      go_wp2
      refine then_rest (rest_end (by decide) ?_)
      go_wp2
      go_ret2
      rw [HX.out, if_neg (fun h => h HE.out)]
      rw [List.length_set] at *
      exact ⟨rfl, D3, H6.out, HS6.out⟩
    · have b2 : (f2 != 0) = true := by simpa using he
      have HE := Lib.hid he
      clear he
      go_wp2
      go_ret2
      rw [HX.out, if_pos HE.out]
      exact ⟨rfl, D3, H3.out, HS3.out⟩
  · have b1 : decide (v < 0) = false := by simpa using hn
    have HX := Lib.hid (show slotX i a S sl = ⟨v, 0, a, S, sl⟩ by unfold slotX; rw [HGD.out.2, if_neg hn])
    clear hn
    refine rest_chainP (fun u => u = W0) 0 6 (.soft 0 (.soft 1 (.soft 2 (.soft 3 (.soft 4 (.soft 5 .nil)))))) (.soft _ (.soft _ (.soft _ (.soft _ (.soft _ (.soft _ .nil)))))) ⟨rfl, ⟨rfl, ⟨rfl, ⟨rfl, ⟨rfl, ⟨rfl, trivial⟩⟩⟩⟩⟩⟩ (by kernel_rfl) (by kernel_rfl) (by kernel_rfl) (by kernel_rfl) (.inr (by kernel_rfl)) rfl ?_
    refine chainP_soft (a1 := ?ma29) (by kernel_rfl) (by kernel_rfl) ?mh29 ?mr29
    case mh29 =>
      intro u hu E hE
      subst hu
      go_wp2
      rfl
    refine chainP_nck _ _ rfl rfl rfl ?_
    simp only [Act.put, List.getElem?_toArray, List.getElem?_cons_succ, List.getElem?_cons_zero, Option.bind_some, List.setIfInBounds_toArray, List.set_cons_succ, List.set_cons_zero, Nat.reduceAdd]
    refine chainP_soft (a1 := ?ma30) (by kernel_rfl) (by kernel_rfl) ?mh30 ?mr30
    case mh30 =>
      intro u hu E hE
      subst hu
      go_wp2
      rfl
    refine chainP_soft (a1 := ?ma31) (by kernel_rfl) (by kernel_rfl) ?mh31 ?mr31
    case mh31 =>
      intro u hu E hE
      subst hu
      go_wp2
      rfl
    refine chainP_soft (a1 := ?ma32) (by kernel_rfl) (by kernel_rfl) ?mh32 ?mr32
    case mh32 =>
      intro u hu E hE
      subst hu
      go_wp2
      rfl
    refine chainP_soft (a1 := ?ma33) (by kernel_rfl) (by kernel_rfl) ?mh33 ?mr33
    case mh33 =>
      intro u hu E hE
      subst hu
      go_wp2
      rfl
    refine chainP_nil ?_
    refine rest_lineL 6 9 [_, _, _] rfl (by kernel_rfl) (by decide) (by decide) (by kernel_rfl) ?_
    go_wp2
    refine then_rest (rest_end (by decide) ?_)
    clear hq c0 c1 c2 c3 c11 x0 x1 x2 x3
    go_upto_region 6 with fail
    refine wp_region_rest (by kernel_rfl) ?_
    have hd := (Below.refl W0.heap.size W0).drew
    obtain ⟨h6, s6, -⟩ := HW0.out.below hd
    have hn6 := row_on HN0.out hd
    have HS6 := Lib.hid (HS0.out.trans s6)
    clear hd s6 HW0 HS0 HN0 HGE0
    generalize W0.drew = W6 at *
    obtain ⟨c0, c1, c2, c3, c11⟩ := row12 h6.row
    obtain ⟨x0, x1, x2, x3⟩ := row4 hn6
    rw [HJ.out] at x1
    have hq : W6.cell? ⟨qb, j, none⟩ = some (.int .i64 v) := by rw [HV.out]; exact h6.slots.got j hjl
    have H6 := Lib.hid h6
    clear h6 hn6
    refine rest_chainP (fun u => u = W6) 0 6 (.soft 0 (.soft 1 (.soft 2 (.soft 3 (.soft 4 (.soft 5 .nil)))))) (.soft _ (.soft _ (.soft _ (.soft _ (.soft _ (.soft _ .nil)))))) ⟨rfl, ⟨rfl, ⟨rfl, ⟨rfl, ⟨rfl, ⟨rfl, trivial⟩⟩⟩⟩⟩⟩ (by kernel_rfl) (by kernel_rfl) (by kernel_rfl) (by kernel_rfl) (.inr (by kernel_rfl)) rfl ?_
    refine chainP_soft (a1 := ?ma34) (by kernel_rfl) (by kernel_rfl) ?mh34 ?mr34
    case mh34 =>
      intro u hu E hE
      subst hu
      go_wp2
      rfl
    refine chainP_nck _ _ rfl rfl rfl ?_
    simp only [Act.put, List.getElem?_toArray, List.getElem?_cons_succ, List.getElem?_cons_zero, Option.bind_some, List.setIfInBounds_toArray, List.set_cons_succ, List.set_cons_zero, Nat.reduceAdd]
    refine chainP_soft (a1 := ?ma35) (by kernel_rfl) (by kernel_rfl) ?mh35 ?mr35
    case mh35 =>
      intro u hu E hE
      subst hu
      go_wp2
      rfl
    refine chainP_soft (a1 := ?ma36) (by kernel_rfl) (by kernel_rfl) ?mh36 ?mr36
    case mh36 =>
      intro u hu E hE
      subst hu
      go_wp2
      rfl
    refine chainP_soft (a1 := ?ma37) (by kernel_rfl) (by kernel_rfl) ?mh37 ?mr37
    case mh37 =>
      intro u hu E hE
      subst hu
      go_wp2
      rfl
    refine chainP_soft (a1 := ?ma38) (by kernel_rfl) (by kernel_rfl) ?mh38 ?mr38
    case mh38 =>
      intro u hu E hE
      subst hu
      go_wp2
      rfl
    refine chainP_nil ?_
    refine rest_lineL 6 10 [_, _, _, _] rfl (by kernel_rfl) (by decide) (by decide) (by kernel_rfl) ?_
    go_wp2
    refine then_rest (rest_end (by decide) ?_)
    go_wp2
    go_ret2
    rw [HX.out]
    exact ⟨rfl, D, H6.out, HS6.out⟩
end
end Go.Proofs.Ytcbijikalfodnaa.Tms
namespace Go.Proofs.Ytcbijikalfodnaa.Tms
open Go Go.RowKit Go.Proofs.Ytcbijikalfodnaa.Reg Go.Proofs.Ytcbijikalfodnaa.Rws Go.Proofs.Ytcbijikalfodnaa.Maps
open Go.Proofs.Ytcbijikalfodnaa.Cod (Ins Cod sk check slotsN InsSl InsAt)
set_option linter.unusedVariables false
set_option linter.unusedSimpArgs false

theorem ExAt.setAtO {w0 w : World} {p rb qb at_ k : Nat} {S : Sto} {D : Nat → Prop} {lv : Value} {L : List Ins} {sl : List Int} (h : ExAt w0 p rb qb S D lv L at_ sl k w) (x : Nat) : (∀ b, b ≠ rb → (w.setCell ⟨rb, 2, none⟩ (.int .i64 x)).heap[b]? = w.heap[b]?) ∧ w.frozen? ⟨rb, 2, none⟩ = false := ⟨fun b hb => Below.heap_setCell _ _ _ _ hb, by simp [World.frozen?, h.row]⟩
theorem size_instr : (Try.prog.info? 71).map (·.size) = some 4 := by kernel_rfl
/-- a row of the call's own is written -/
theorem ExAt.setOut {w0 w : World} {p rb qb at_ k g : Nat} {S : Sto} {D : Nat → Prop} {lv : Value} {L : List Ins} {sl : List Int} (h : ExAt w0 p rb qb S D lv L at_ sl k w) (hg : EOut rb qb D w g) (h0 : w0.heap.size ≤ g) (hn : slBlk lv ≠ some g) (cs : Array Value) : ExAt w0 p rb qb S D lv L at_ sl k (w.setRow g cs) :=
  h.other (below_setRow h.law.bel h0 cs) (by simp) fun b _ hb => setRow_other _ _ _ _ fun e => by
    subst e
    rcases hb with hb | hb | hb | hb
    · exact hg.1 hb
    · exact hg.2.1 hb
    · exact hg.2.2.1 hb
    · exact hn hb
theorem EStep.setRow {rb qb g : Nat} {D D' : Nat → Prop} {w w' : World} (h : EStep rb qb D w D' w') (hg : w.heap.size ≤ g) (cs : Array Value) : EStep rb qb D w D' (w'.setRow g cs) :=
  ⟨by simpa using h.size, fun b hb => ⟨⟨(h.blk b hb).1.1, (h.blk b hb).1.2.1, (h.blk b hb).1.2.2.1, by simpa using (h.blk b hb).1.2.2.2⟩, (setRow_other _ _ _ _ (by have := hb.2.2.2; omega)).trans (h.blk b hb).2⟩⟩
def PatC (w0 : World) (p rb qb : Nat) (lv : Value) (L : List Ins) (sn k N : Nat) : Prop := ∀ (a j : Nat) (S : Sto) (sl : List Int) (D : Nat → Prop) (w : World), ExAt w0 p rb qb S D lv L a sl k w → Inv S → SlOk S sl → sl.length = sn → sk (L.drop a) 1 = some j → j ≤ N → Calls Try.prog 28 #[.pointer (some ⟨rb, 0, none⟩)] w (ExPost w0 p rb qb lv L k D w (patX L N a S sl))
def CompC (w0 : World) (p rb qb : Nat) (lv : Value) (L : List Ins) (sn k N : Nat) : Prop := ∀ (i : Ins) (a q : Nat) (S : Sto) (sl : List Int) (D : Nat → Prop) (w : World), ExAt w0 p rb qb S D lv L a sl k w → Inv S → SlOk S sl → sl.length = sn → i ∈ L → i.op = 6 → 1 ≤ i.a → i.a ≤ 255 → sk (L.drop a) i.a.toNat = some q → q ≤ N → Calls Try.prog 57 #[.pointer (some ⟨rb, 0, none⟩), i.val] w (ExPost w0 p rb qb lv L k D w (compX i (patsX (patX L N) i.a.toNat a S sl)))
set_option maxRecDepth 100000 in
set_option maxHeartbeats 16000000 in
theorem ex_pat {w0 : World} {p rb qb sn k N : Nat} {lv : Value} {L : List Ins} (hL : L.length ≤ 20000) (hsn : sn ≤ 1000000) (hsl : ∀ i ∈ L, i.op = 2 ∨ i.op = 3 → 0 ≤ i.a ∧ i.a < sn) (hC : CompC w0 p rb qb lv L sn k N) : PatC w0 p rb qb lv L sn k (N + 1) := by
  intro a j S sl D w h hI hs hl hk hj
  obtain ⟨i, l', q, hd, hb, hq, hjq⟩ := sk_one hk
  obtain ⟨b1, b2, b3⟩ := not_bad hb
  have hla : L[a]? = some i := by
    have := congrArg List.head? hd
    rw [List.head?_drop] at this
    simpa using this
  have hl' : L.drop (a + 1) = l' := by
    have := congrArg List.tail hd
    rw [List.tail_drop] at this
    simpa using this
  have hm : i ∈ L := List.mem_of_getElem? hla
  have halt : a < L.length := (List.getElem?_eq_some_iff.1 hla).1
  have hai : L[a] = i := (List.getElem?_eq_some_iff.1 hla).2
  obtain ⟨la, lc, rfl, hic⟩ := h.ins
  obtain ⟨ib, io, ea, z0, z1, z2, z3⟩ := hic a halt
  subst ea
  rw [hai] at z0 z1 z2 z3
  have HP := Lib.hid (And.intro hla (And.intro hl' (And.intro hm (And.intro hq hjq))))
  have HW := Lib.hid h
  have HB := Lib.hid (And.intro b1 (And.intro b2 b3))
  have HZ := Lib.hid (And.intro z0 (And.intro z1 (And.intro z2 z3)))
  have HSL := Lib.hid (And.intro hs hl)
  have HK := Lib.hid hk
  clear hic hla hl' hm hq hjq hd hb b1 b2 b3 hai h z0 z1 z2 z3 hs hl hk
  go_enter Try.func28, Try.ntmps28
  go_upto_region 1 with fail
  refine wp_region_rest (by kernel_rfl) ?_
  have hd := (Below.refl w.heap.size w).drew
  obtain ⟨h2, s2, -⟩ := HW.out.below hd
  have HW0 := Lib.hid h2
  have HS0 := Lib.hid s2
  have hib := (HW.out.iF ib rfl).1.2
  obtain ⟨c0, c1, c2, c3, c11⟩ := row12 h2.row
  have hrl := h2.rlt
  have z0 := (hd.cell (p := ⟨ib, io + a * 4, none⟩) hib).trans HZ.out.1
  have z1 := (hd.cell (p := ⟨ib, io + a * 4 + 1, none⟩) hib).trans HZ.out.2.1
  have z2 := (hd.cell (p := ⟨ib, io + a * 4 + 2, none⟩) hib).trans HZ.out.2.2.1
  have z3 := (hd.cell (p := ⟨ib, io + a * 4 + 3, none⟩) hib).trans HZ.out.2.2.2
  have hibl := Nat.lt_of_lt_of_le hib hd.size
  clear h2 s2 hd hib HZ HW
  generalize w.drew = W0 at *
  refine rest_chainP (fun u => Below W0.heap.size W0 u) 0 11 (.soft 0 (.soft 1 (.soft 2 (.soft 3 (.soft 4 (.soft 5 (.soft 6 (.soft 7 (.soft 8 (.soft 9 (.one 10 .nil))))))))))) (.soft _ (.soft _ (.soft _ (.soft _ (.soft _ (.soft _ (.soft _ (.soft _ (.soft _ (.soft _ (.one _ .nil))))))))))) ⟨rfl, ⟨rfl, ⟨rfl, ⟨rfl, ⟨rfl, ⟨rfl, ⟨rfl, ⟨rfl, ⟨rfl, ⟨rfl, ⟨rfl, trivial⟩⟩⟩⟩⟩⟩⟩⟩⟩⟩⟩ (by kernel_rfl) (by kernel_rfl) (by kernel_rfl) (by kernel_rfl) (.inr (by kernel_rfl)) (Below.refl _ _) ?_
  refine chainP_soft (a1 := ?ma1) (by kernel_rfl) (by kernel_rfl) ?mh1 ?mr1
  case mh1 =>
    intro u hu E hE
    go_wp2
    rfl
  refine chainP_nck _ _ rfl rfl rfl ?_
  simp only [Act.put, List.getElem?_toArray, List.getElem?_cons_succ, List.getElem?_cons_zero, Option.bind_some, List.setIfInBounds_toArray, List.set_cons_succ, List.set_cons_zero, Nat.reduceAdd]
  refine chainP_soft (a1 := ?ma2) (by kernel_rfl) (by kernel_rfl) ?mh2 ?mr2
  case mh2 =>
    intro u hu E hE
    go_wp2
    rfl
  refine chainP_soft (a1 := ?ma3) (by kernel_rfl) (by kernel_rfl) ?mh3 ?mr3
  case mh3 =>
    intro u hu E hE
    have e1 := (hu.cell (p := ⟨rb, 1, none⟩) hrl).trans c1
    go_wp2
    rfl
  refine chainP_soft (a1 := ?ma4) (by kernel_rfl) (by kernel_rfl) ?mh4 ?mr4
  case mh4 =>
    intro u hu E hE
    go_wp2
    rfl
  refine chainP_nck _ _ rfl rfl rfl ?_
  simp only [Act.put, List.getElem?_toArray, List.getElem?_cons_succ, List.getElem?_cons_zero, Option.bind_some, List.setIfInBounds_toArray, List.set_cons_succ, List.set_cons_zero, Nat.reduceAdd]
  refine chainP_soft (a1 := ?ma5) (by kernel_rfl) (by kernel_rfl) ?mh5 ?mr5
  case mh5 =>
    intro u hu E hE
    go_wp2
    rfl
  refine chainP_soft (a1 := ?ma6) (by kernel_rfl) (by kernel_rfl) ?mh6 ?mr6
  case mh6 =>
    intro u hu E hE
    have e1 := (hu.cell (p := ⟨rb, 2, none⟩) hrl).trans c2
    go_wp2
    rfl
  refine chainP_soft (a1 := ?ma7) (by kernel_rfl) (by kernel_rfl) ?mh7 ?mr7
  case mh7 =>
    intro u hu E hE
    have ha0 : (0 : Int) ≤ (a : Int) := by omega
    have ha1 : (a : Int) < (L.length : Int) := by omega
    go_wp2
    rfl
  refine chainP_soft (a1 := ?ma8) (by kernel_rfl) (by kernel_rfl) ?mh8 ?mr8
  case mh8 =>
    intro u hu E hE
    have e0 := (hu.cell (p := ⟨ib, io + a * 4, none⟩) hibl).trans z0
    have e1 := (hu.cell (p := ⟨ib, io + a * 4 + 1, none⟩) hibl).trans z1
    have e2 := (hu.cell (p := ⟨ib, io + a * 4 + 2, none⟩) hibl).trans z2
    have e3 := (hu.cell (p := ⟨ib, io + a * 4 + 3, none⟩) hibl).trans z3
    go_wp2
    rfl
  refine chainP_one ?_
  intro E hE
  go_wp2
  have hal := (Below.refl W0.heap.size W0).alloc (Nat.le_refl _) (.cells #[.int .i64 0, .int .i64 0, .int .i64 0, .string ⟨#[]⟩] 71 (0, 0))
  have hr4 := heap_alloc_new W0 (.cells #[.int .i64 0, .int .i64 0, .int .i64 0, .string ⟨#[]⟩] 71 (0, 0))
  obtain ⟨h3, s3, f3⟩ := HW0.out.below hal
  have hgo := f3 W0.heap.size (Nat.le_refl _) (by simp)
  have hw0 := Nat.le_trans HW0.out.law.bel.size (Nat.le_refl W0.heap.size)
  have hnb : slBlk (.slice (some ⟨ib, io, none⟩) L.length lc) ≠ some W0.heap.size := fun e => by
    have e2 : ib = W0.heap.size := by simpa [slBlk] using e
    omega
  refine ⟨hal, ?_⟩
  have h5 := h3.setOut hgo hw0 hnb #[.int .i64 i.op, .int .i64 i.a, .int .i64 i.n, .string i.s]
  have s5 := (HS0.out.trans s3).setRow HS0.out.size #[.int .i64 i.op, .int .i64 i.a, .int .i64 i.n, .string i.s]
  have r5 := setRow_heap _ W0.heap.size _ (#[.int .i64 i.op, .int .i64 i.a, .int .i64 i.n, .string i.s] : Array Value) _ _ hr4
  have H5 := Lib.hid h5
  have HS5 := Lib.hid s5
  have HR5 := Lib.hid r5
  have HG5 := Lib.hid (show EOut rb qb D ((W0.alloc (.cells #[.int .i64 0, .int .i64 0, .int .i64 0, .string ⟨#[]⟩] 71 (0, 0))).setRow W0.heap.size #[.int .i64 i.op, .int .i64 i.a, .int .i64 i.n, .string i.s]) W0.heap.size from ⟨hgo.1, hgo.2.1, hgo.2.2.1, by simp⟩)
  have HR4 := Lib.hid hr4
  clear hal hr4 h3 s3 f3 hgo hw0 hnb h5 s5 r5 c0 c1 c2 c3 c11 z0 z1 z2 z3 HW0 HS0 hrl hibl
  refine chainP_nil ?_
  refine rest_lineL 11 12 [_] rfl (by kernel_rfl) (by decide) (by decide) (by kernel_rfl) ?_
  go_wp2_with (refine wpList_store_row rfl 71 (.tmp 4) (.tmp 14) rfl W0.heap.size #[.int .i64 i.op, .int .i64 i.a, .int .i64 i.n, .string i.s] rfl rfl _ _ HR4.out size_instr rfl (by simp [Value.oneCell']) ?_)
  refine then_rest (rest_end (by decide) ?_)
  generalize (W0.alloc (.cells #[.int .i64 0, .int .i64 0, .int .i64 0, .string ⟨#[]⟩] 71 (0, 0))).setRow W0.heap.size #[.int .i64 i.op, .int .i64 i.a, .int .i64 i.n, .string i.s] = W5 at *
  generalize W0.heap.size = g at *
  clear HR4
  obtain ⟨c0, c1, c2, c3, c11⟩ := row12 H5.out.row
  have hfz := (H5.out.setAtO (a + 1)).2
  obtain ⟨h6, s6⟩ := H5.out.setAt (a + 1)
  have r6 := ((H5.out.setAtO (a + 1)).1 g HG5.out.2.1).trans HR5.out
  have g6 := (s6.blk g HG5.out).1
  rw [show ((a + 1 : Nat) : Int) = (a : Int) + 1 by omega] at h6 s6 r6 g6
  have H6 := Lib.hid h6
  have HS6 := Lib.hid (HS5.out.trans s6)
  have HR6 := Lib.hid r6
  have HG6 := Lib.hid g6
  clear h6 s6 r6 g6 HS5 HR5 HG5 H5
  go_upto_region 3 with fail
  clear c0 c1 c2 c3 c11 hfz
  generalize W5.setCell ⟨rb, 2, none⟩ (.int .i64 ((a : Int) + 1)) = W6 at *
  refine wp_region_rest (by kernel_rfl) ?_
  have hd := (Below.refl W6.heap.size W6).drew
  obtain ⟨h7, s7, -⟩ := H6.out.below hd
  have r7 := row_on HR6.out hd
  have H7 := Lib.hid h7
  have HS7 := Lib.hid (HS6.out.trans s7)
  have hrow := h7.row
  clear hd s7 h7 H6 HS6 HR6 HG6
  generalize W6.drew = W7 at *
  obtain ⟨x0, x1, x2, x3⟩ := row4 r7
  clear r7
  have hops : i.op = 1 ∨ i.op = 2 ∨ i.op = 3 ∨ i.op = 4 ∨ i.op = 5 ∨ i.op = 6 := by have := HB.out.1; have := HB.out.2.1; omega
  rcases hops with ho | ho | ho | ho | ho | ho
  · have HO := Lib.hid ho
    rw [ho] at x0
    have cf := cell_of_row _ _ 5 _ _ _ hrow
    have HX := Lib.hid (show patX L (N + 1) a S sl = ⟨(freshA S).1, (freshA S).2, a + 1, freshW S, sl⟩ by
      unfold patX
      rw [HP.out.1]
      simp only [ho, HO.out]
      rfl)
    clear ho hrow
    refine rest_chainP (fun u => u = W7) 0 9 (.soft 0 (.soft 1 (.soft 2 (.soft 3 (.soft 4 (.soft 5 (.soft 6 (.soft 7 (.soft 8 .nil))))))))) (.soft _ (.soft _ (.soft _ (.soft _ (.soft _ (.soft _ (.soft _ (.soft _ (.soft _ .nil))))))))) ⟨rfl, ⟨rfl, ⟨rfl, ⟨rfl, ⟨rfl, ⟨rfl, ⟨rfl, ⟨rfl, ⟨rfl, trivial⟩⟩⟩⟩⟩⟩⟩⟩⟩ (by kernel_rfl) (by kernel_rfl) (by kernel_rfl) (by kernel_rfl) (.inr (by kernel_rfl)) rfl ?_
    refine chainP_soft (a1 := ?ma9) (by kernel_rfl) (by kernel_rfl) ?mh9 ?mr9
    case mh9 =>
      intro u hu E hE
      subst hu
      go_wp2
      rfl
    refine chainP_soft (a1 := ?ma10) (by kernel_rfl) (by kernel_rfl) ?mh10 ?mr10
    case mh10 =>
      intro u hu E hE
      subst hu
      go_wp2
      rfl
    refine chainP_soft (a1 := ?ma11) (by kernel_rfl) (by kernel_rfl) ?mh11 ?mr11
    case mh11 =>
      intro u hu E hE
      subst hu
      go_wp2
      rfl
    refine chainP_nck _ _ rfl rfl rfl ?_
    simp only [Act.put, List.getElem?_toArray, List.getElem?_cons_succ, List.getElem?_cons_zero, Option.bind_some, List.setIfInBounds_toArray, List.set_cons_succ, List.set_cons_zero, Nat.reduceAdd]
    refine chainP_soft (a1 := ?ma12) (by kernel_rfl) (by kernel_rfl) ?mh12 ?mr12
    case mh12 =>
      intro u hu E hE
      subst hu
      go_wp2
      rfl
    refine chainP_soft (a1 := ?ma13) (by kernel_rfl) (by kernel_rfl) ?mh13 ?mr13
    case mh13 =>
      intro u hu E hE
      subst hu
      go_wp2
      rfl
    refine chainP_soft (a1 := ?ma14) (by kernel_rfl) (by kernel_rfl) ?mh14 ?mr14
    case mh14 =>
      intro u hu E hE
      subst hu
      go_wp2
      rfl
    refine chainP_soft (a1 := ?ma15) (by kernel_rfl) (by kernel_rfl) ?mh15 ?mr15
    case mh15 =>
      intro u hu E hE
      subst hu
      go_wp2
      rfl
    refine chainP_soft (a1 := ?ma16) (by kernel_rfl) (by kernel_rfl) ?mh16 ?mr16
    case mh16 =>
      intro u hu E hE
      subst hu
      go_wp2
      rfl
    refine chainP_nil ?_
    clear x0 x1 x2 x3 cf
    have hv : i.val = .agg #[.int .i64 1, .int .i64 i.a, .int .i64 i.n, .string i.s] := by show Value.agg #[.int .i64 i.op, .int .i64 i.a, .int .i64 i.n, .string i.s] = _; rw [HO.out]
    have hc := ex_any H7.out hI i
    obtain ⟨R, hR⟩ : ∃ R : PtR, R = ⟨(freshA S).1, (freshA S).2, a + 1, freshW S, sl⟩ := ⟨_, rfl⟩
    rw [hv, ← hR] at hc
    have HCC := Lib.hid hc
    have HXR := Lib.hid (show patX L (N + 1) a S sl = R by rw [hR]; exact HX.out)
    clear hv hc hR HX
    refine rest_chainP (fun _ => True) 9 12 (.one 9 (.soft 10 (.soft 11 .nil))) (.one _ (.soft _ (.soft _ .nil))) ⟨rfl, ⟨rfl, ⟨rfl, trivial⟩⟩⟩ (by kernel_rfl) (by kernel_rfl) (by kernel_rfl) (by kernel_rfl) (.inr (by kernel_rfl)) trivial ?_
    refine chainP_one ?_
    intro E hE
    go_wp2_with (refine (HCC.out).mono ?_; rintro e3 w3 ⟨rfl, D3, h3, s3⟩)
    have H3 := Lib.hid h3
    have HS3 := Lib.hid (HS7.out.trans s3)
    clear h3 s3 H7 HS7
    refine ⟨trivial, ?_⟩
    refine chainP_softv (.int .i64 R.cell) (by kernel_rfl) (by kernel_rfl) ?_ ?_
    · simp only [Act.put, List.getElem?_toArray, List.getElem?_cons_succ, List.getElem?_cons_zero, Option.bind_some, List.setIfInBounds_toArray, List.set_cons_succ, List.set_cons_zero, Nat.reduceAdd]
      intro u hu E hE
      go_wp2
      exact hE
    simp only [Act.put, List.getElem?_toArray, List.getElem?_cons_succ, List.getElem?_cons_zero, Option.bind_some, List.setIfInBounds_toArray, List.set_cons_succ, List.set_cons_zero, Nat.reduceAdd]
    refine chainP_softv (.int .i64 R.err) (by kernel_rfl) (by kernel_rfl) ?_ ?_
    · simp only [Act.put, List.getElem?_toArray, List.getElem?_cons_succ, List.getElem?_cons_zero, Option.bind_some, List.setIfInBounds_toArray, List.set_cons_succ, List.set_cons_zero, Nat.reduceAdd]
      intro u hu E hE
      go_wp2
      exact hE
    simp only [Act.put, List.getElem?_toArray, List.getElem?_cons_succ, List.getElem?_cons_zero, Option.bind_some, List.setIfInBounds_toArray, List.set_cons_succ, List.set_cons_zero, Nat.reduceAdd]
    refine chainP_nil ?_
    refine rest_lineL 12 14 [_, _] rfl (by kernel_rfl) (by decide) (by decide) (by kernel_rfl) ?_
    go_wp2
    refine then_rest (rest_end (by decide) ?_)
    go_wp2
    go_ret2
    rw [HXR.out]
    exact ⟨rfl, D3, H3.out, HS3.out⟩
  · have HO := Lib.hid ho
    rw [ho] at x0
    have cf := cell_of_row _ _ 6 _ _ _ hrow
    have HX := Lib.hid (show patX L (N + 1) a S sl = slotX i (a + 1) S sl by
      unfold patX
      rw [HP.out.1]
      simp only [ho, HO.out]
      rfl)
    obtain ⟨m, hm⟩ : ∃ m : Nat, i.a = (m : Int) := ⟨i.a.toNat, by have := (hsl i HP.out.2.2.1 (by omega)).1; omega⟩
    have hml : m < sl.length := by have := (hsl i HP.out.2.2.1 (by omega)).2; have := HSL.out.2; omega
    have hsv : ∀ x ∈ sl, x = -1 ∨ 0 ≤ x := fun x hx => (HSL.out.1 x hx).imp id fun h => h.1
    have hsz : sl.length ≤ 1000000 := by rw [HSL.out.2]; exact hsn
    have HM := Lib.hid (And.intro hm (And.intro hml (And.intro hsv hsz)))
    clear hm hml hsv hsz
    clear ho hrow
    refine rest_chainP (fun u => u = W7) 0 9 (.soft 0 (.soft 1 (.soft 2 (.soft 3 (.soft 4 (.soft 5 (.soft 6 (.soft 7 (.soft 8 .nil))))))))) (.soft _ (.soft _ (.soft _ (.soft _ (.soft _ (.soft _ (.soft _ (.soft _ (.soft _ .nil))))))))) ⟨rfl, ⟨rfl, ⟨rfl, ⟨rfl, ⟨rfl, ⟨rfl, ⟨rfl, ⟨rfl, ⟨rfl, trivial⟩⟩⟩⟩⟩⟩⟩⟩⟩ (by kernel_rfl) (by kernel_rfl) (by kernel_rfl) (by kernel_rfl) (.inr (by kernel_rfl)) rfl ?_
    refine chainP_soft (a1 := ?ma17) (by kernel_rfl) (by kernel_rfl) ?mh17 ?mr17
    case mh17 =>
      intro u hu E hE
      subst hu
      go_wp2
      rfl
    refine chainP_soft (a1 := ?ma18) (by kernel_rfl) (by kernel_rfl) ?mh18 ?mr18
    case mh18 =>
      intro u hu E hE
      subst hu
      go_wp2
      rfl
    refine chainP_soft (a1 := ?ma19) (by kernel_rfl) (by kernel_rfl) ?mh19 ?mr19
    case mh19 =>
      intro u hu E hE
      subst hu
      go_wp2
      rfl
    refine chainP_nck _ _ rfl rfl rfl ?_
    simp only [Act.put, List.getElem?_toArray, List.getElem?_cons_succ, List.getElem?_cons_zero, Option.bind_some, List.setIfInBounds_toArray, List.set_cons_succ, List.set_cons_zero, Nat.reduceAdd]
    refine chainP_soft (a1 := ?ma20) (by kernel_rfl) (by kernel_rfl) ?mh20 ?mr20
    case mh20 =>
      intro u hu E hE
      subst hu
      go_wp2
      rfl
    refine chainP_soft (a1 := ?ma21) (by kernel_rfl) (by kernel_rfl) ?mh21 ?mr21
    case mh21 =>
      intro u hu E hE
      subst hu
      go_wp2
      rfl
    refine chainP_soft (a1 := ?ma22) (by kernel_rfl) (by kernel_rfl) ?mh22 ?mr22
    case mh22 =>
      intro u hu E hE
      subst hu
      go_wp2
      rfl
    refine chainP_soft (a1 := ?ma23) (by kernel_rfl) (by kernel_rfl) ?mh23 ?mr23
    case mh23 =>
      intro u hu E hE
      subst hu
      go_wp2
      rfl
    refine chainP_soft (a1 := ?ma24) (by kernel_rfl) (by kernel_rfl) ?mh24 ?mr24
    case mh24 =>
      intro u hu E hE
      subst hu
      go_wp2
      rfl
    refine chainP_nil ?_
    clear x0 x1 x2 x3 cf
    have hv : i.val = .agg #[.int .i64 2, .int .i64 i.a, .int .i64 i.n, .string i.s] := by show Value.agg #[.int .i64 i.op, .int .i64 i.a, .int .i64 i.n, .string i.s] = _; rw [HO.out]
    have hc := ex_slot H7.out hI i m HM.out.1 HM.out.2.1 HM.out.2.2.1 HM.out.2.2.2
    obtain ⟨R, hR⟩ : ∃ R : PtR, R = slotX i (a + 1) S sl := ⟨_, rfl⟩
    rw [hv, ← hR] at hc
    have HCC := Lib.hid hc
    have HXR := Lib.hid (show patX L (N + 1) a S sl = R by rw [hR]; exact HX.out)
    clear hv hc hR HX
    refine rest_chainP (fun _ => True) 9 12 (.one 9 (.soft 10 (.soft 11 .nil))) (.one _ (.soft _ (.soft _ .nil))) ⟨rfl, ⟨rfl, ⟨rfl, trivial⟩⟩⟩ (by kernel_rfl) (by kernel_rfl) (by kernel_rfl) (by kernel_rfl) (.inr (by kernel_rfl)) trivial ?_
    refine chainP_one ?_
    intro E hE
    go_wp2_with (refine (HCC.out).mono ?_; rintro e3 w3 ⟨rfl, D3, h3, s3⟩)
    have H3 := Lib.hid h3
    have HS3 := Lib.hid (HS7.out.trans s3)
    clear h3 s3 H7 HS7
    refine ⟨trivial, ?_⟩
    refine chainP_softv (.int .i64 R.cell) (by kernel_rfl) (by kernel_rfl) ?_ ?_
    · simp only [Act.put, List.getElem?_toArray, List.getElem?_cons_succ, List.getElem?_cons_zero, Option.bind_some, List.setIfInBounds_toArray, List.set_cons_succ, List.set_cons_zero, Nat.reduceAdd]
      intro u hu E hE
      go_wp2
      exact hE
    simp only [Act.put, List.getElem?_toArray, List.getElem?_cons_succ, List.getElem?_cons_zero, Option.bind_some, List.setIfInBounds_toArray, List.set_cons_succ, List.set_cons_zero, Nat.reduceAdd]
    refine chainP_softv (.int .i64 R.err) (by kernel_rfl) (by kernel_rfl) ?_ ?_
    · simp only [Act.put, List.getElem?_toArray, List.getElem?_cons_succ, List.getElem?_cons_zero, Option.bind_some, List.setIfInBounds_toArray, List.set_cons_succ, List.set_cons_zero, Nat.reduceAdd]
      intro u hu E hE
      go_wp2
      exact hE
    simp only [Act.put, List.getElem?_toArray, List.getElem?_cons_succ, List.getElem?_cons_zero, Option.bind_some, List.setIfInBounds_toArray, List.set_cons_succ, List.set_cons_zero, Nat.reduceAdd]
    refine chainP_nil ?_
    refine rest_lineL 12 14 [_, _] rfl (by kernel_rfl) (by decide) (by decide) (by kernel_rfl) ?_
    go_wp2
    refine then_rest (rest_end (by decide) ?_)
    go_wp2
    go_ret2
    rw [HXR.out]
    exact ⟨rfl, D3, H3.out, HS3.out⟩
  · have HO := Lib.hid ho
    rw [ho] at x0
    have cf := cell_of_row _ _ 7 _ _ _ hrow
    have HX := Lib.hid (show patX L (N + 1) a S sl = slotX i (a + 1) S sl by
      unfold patX
      rw [HP.out.1]
      simp only [ho, HO.out]
      rfl)
    obtain ⟨m, hm⟩ : ∃ m : Nat, i.a = (m : Int) := ⟨i.a.toNat, by have := (hsl i HP.out.2.2.1 (by omega)).1; omega⟩
    have hml : m < sl.length := by have := (hsl i HP.out.2.2.1 (by omega)).2; have := HSL.out.2; omega
    have hsv : ∀ x ∈ sl, x = -1 ∨ 0 ≤ x := fun x hx => (HSL.out.1 x hx).imp id fun h => h.1
    have hsz : sl.length ≤ 1000000 := by rw [HSL.out.2]; exact hsn
    have HM := Lib.hid (And.intro hm (And.intro hml (And.intro hsv hsz)))
    clear hm hml hsv hsz
    clear ho hrow
    refine rest_chainP (fun u => u = W7) 0 9 (.soft 0 (.soft 1 (.soft 2 (.soft 3 (.soft 4 (.soft 5 (.soft 6 (.soft 7 (.soft 8 .nil))))))))) (.soft _ (.soft _ (.soft _ (.soft _ (.soft _ (.soft _ (.soft _ (.soft _ (.soft _ .nil))))))))) ⟨rfl, ⟨rfl, ⟨rfl, ⟨rfl, ⟨rfl, ⟨rfl, ⟨rfl, ⟨rfl, ⟨rfl, trivial⟩⟩⟩⟩⟩⟩⟩⟩⟩ (by kernel_rfl) (by kernel_rfl) (by kernel_rfl) (by kernel_rfl) (.inr (by kernel_rfl)) rfl ?_
    refine chainP_soft (a1 := ?ma25) (by kernel_rfl) (by kernel_rfl) ?mh25 ?mr25
    case mh25 =>
      intro u hu E hE
      subst hu
      go_wp2
      rfl
    refine chainP_soft (a1 := ?ma26) (by kernel_rfl) (by kernel_rfl) ?mh26 ?mr26
    case mh26 =>
      intro u hu E hE
      subst hu
      go_wp2
      rfl
    refine chainP_soft (a1 := ?ma27) (by kernel_rfl) (by kernel_rfl) ?mh27 ?mr27
    case mh27 =>
      intro u hu E hE
      subst hu
      go_wp2
      rfl
    refine chainP_nck _ _ rfl rfl rfl ?_
    simp only [Act.put, List.getElem?_toArray, List.getElem?_cons_succ, List.getElem?_cons_zero, Option.bind_some, List.setIfInBounds_toArray, List.set_cons_succ, List.set_cons_zero, Nat.reduceAdd]
    refine chainP_soft (a1 := ?ma28) (by kernel_rfl) (by kernel_rfl) ?mh28 ?mr28
    case mh28 =>
      intro u hu E hE
      subst hu
      go_wp2
      rfl
    refine chainP_soft (a1 := ?ma29) (by kernel_rfl) (by kernel_rfl) ?mh29 ?mr29
    case mh29 =>
      intro u hu E hE
      subst hu
      go_wp2
      rfl
    refine chainP_soft (a1 := ?ma30) (by kernel_rfl) (by kernel_rfl) ?mh30 ?mr30
    case mh30 =>
      intro u hu E hE
      subst hu
      go_wp2
      rfl
    refine chainP_soft (a1 := ?ma31) (by kernel_rfl) (by kernel_rfl) ?mh31 ?mr31
    case mh31 =>
      intro u hu E hE
      subst hu
      go_wp2
      rfl
    refine chainP_soft (a1 := ?ma32) (by kernel_rfl) (by kernel_rfl) ?mh32 ?mr32
    case mh32 =>
      intro u hu E hE
      subst hu
      go_wp2
      rfl
    refine chainP_nil ?_
    clear x0 x1 x2 x3 cf
    have hv : i.val = .agg #[.int .i64 3, .int .i64 i.a, .int .i64 i.n, .string i.s] := by show Value.agg #[.int .i64 i.op, .int .i64 i.a, .int .i64 i.n, .string i.s] = _; rw [HO.out]
    have hc := ex_slot H7.out hI i m HM.out.1 HM.out.2.1 HM.out.2.2.1 HM.out.2.2.2
    obtain ⟨R, hR⟩ : ∃ R : PtR, R = slotX i (a + 1) S sl := ⟨_, rfl⟩
    rw [hv, ← hR] at hc
    have HCC := Lib.hid hc
    have HXR := Lib.hid (show patX L (N + 1) a S sl = R by rw [hR]; exact HX.out)
    clear hv hc hR HX
    refine rest_chainP (fun _ => True) 9 12 (.one 9 (.soft 10 (.soft 11 .nil))) (.one _ (.soft _ (.soft _ .nil))) ⟨rfl, ⟨rfl, ⟨rfl, trivial⟩⟩⟩ (by kernel_rfl) (by kernel_rfl) (by kernel_rfl) (by kernel_rfl) (.inr (by kernel_rfl)) trivial ?_
    refine chainP_one ?_
    intro E hE
    go_wp2_with (refine (HCC.out).mono ?_; rintro e3 w3 ⟨rfl, D3, h3, s3⟩)
    have H3 := Lib.hid h3
    have HS3 := Lib.hid (HS7.out.trans s3)
    clear h3 s3 H7 HS7
    refine ⟨trivial, ?_⟩
    refine chainP_softv (.int .i64 R.cell) (by kernel_rfl) (by kernel_rfl) ?_ ?_
    · simp only [Act.put, List.getElem?_toArray, List.getElem?_cons_succ, List.getElem?_cons_zero, Option.bind_some, List.setIfInBounds_toArray, List.set_cons_succ, List.set_cons_zero, Nat.reduceAdd]
      intro u hu E hE
      go_wp2
      exact hE
    simp only [Act.put, List.getElem?_toArray, List.getElem?_cons_succ, List.getElem?_cons_zero, Option.bind_some, List.setIfInBounds_toArray, List.set_cons_succ, List.set_cons_zero, Nat.reduceAdd]
    refine chainP_softv (.int .i64 R.err) (by kernel_rfl) (by kernel_rfl) ?_ ?_
    · simp only [Act.put, List.getElem?_toArray, List.getElem?_cons_succ, List.getElem?_cons_zero, Option.bind_some, List.setIfInBounds_toArray, List.set_cons_succ, List.set_cons_zero, Nat.reduceAdd]
      intro u hu E hE
      go_wp2
      exact hE
    simp only [Act.put, List.getElem?_toArray, List.getElem?_cons_succ, List.getElem?_cons_zero, Option.bind_some, List.setIfInBounds_toArray, List.set_cons_succ, List.set_cons_zero, Nat.reduceAdd]
    refine chainP_nil ?_
    refine rest_lineL 12 14 [_, _] rfl (by kernel_rfl) (by decide) (by decide) (by kernel_rfl) ?_
    go_wp2
    refine then_rest (rest_end (by decide) ?_)
    go_wp2
    go_ret2
    rw [HXR.out]
    exact ⟨rfl, D3, H3.out, HS3.out⟩
  · have HO := Lib.hid ho
    rw [ho] at x0
    have cf := cell_of_row _ _ 8 _ _ _ hrow
    have HX := Lib.hid (show patX L (N + 1) a S sl = putXE (a + 1) S sl [] (intT i.n) by
      unfold patX
      rw [HP.out.1]
      simp only [ho, HO.out]
      rfl)
    clear ho hrow
    refine rest_chainP (fun u => u = W7) 0 9 (.soft 0 (.soft 1 (.soft 2 (.soft 3 (.soft 4 (.soft 5 (.soft 6 (.soft 7 (.soft 8 .nil))))))))) (.soft _ (.soft _ (.soft _ (.soft _ (.soft _ (.soft _ (.soft _ (.soft _ (.soft _ .nil))))))))) ⟨rfl, ⟨rfl, ⟨rfl, ⟨rfl, ⟨rfl, ⟨rfl, ⟨rfl, ⟨rfl, ⟨rfl, trivial⟩⟩⟩⟩⟩⟩⟩⟩⟩ (by kernel_rfl) (by kernel_rfl) (by kernel_rfl) (by kernel_rfl) (.inr (by kernel_rfl)) rfl ?_
    refine chainP_soft (a1 := ?ma33) (by kernel_rfl) (by kernel_rfl) ?mh33 ?mr33
    case mh33 =>
      intro u hu E hE
      subst hu
      go_wp2
      rfl
    refine chainP_soft (a1 := ?ma34) (by kernel_rfl) (by kernel_rfl) ?mh34 ?mr34
    case mh34 =>
      intro u hu E hE
      subst hu
      go_wp2
      rfl
    refine chainP_soft (a1 := ?ma35) (by kernel_rfl) (by kernel_rfl) ?mh35 ?mr35
    case mh35 =>
      intro u hu E hE
      subst hu
      go_wp2
      rfl
    refine chainP_nck _ _ rfl rfl rfl ?_
    simp only [Act.put, List.getElem?_toArray, List.getElem?_cons_succ, List.getElem?_cons_zero, Option.bind_some, List.setIfInBounds_toArray, List.set_cons_succ, List.set_cons_zero, Nat.reduceAdd]
    refine chainP_soft (a1 := ?ma36) (by kernel_rfl) (by kernel_rfl) ?mh36 ?mr36
    case mh36 =>
      intro u hu E hE
      subst hu
      go_wp2
      rfl
    refine chainP_soft (a1 := ?ma37) (by kernel_rfl) (by kernel_rfl) ?mh37 ?mr37
    case mh37 =>
      intro u hu E hE
      subst hu
      go_wp2
      rfl
    refine chainP_soft (a1 := ?ma38) (by kernel_rfl) (by kernel_rfl) ?mh38 ?mr38
    case mh38 =>
      intro u hu E hE
      subst hu
      go_wp2
      rfl
    refine chainP_soft (a1 := ?ma39) (by kernel_rfl) (by kernel_rfl) ?mh39 ?mr39
    case mh39 =>
      intro u hu E hE
      subst hu
      go_wp2
      rfl
    refine chainP_soft (a1 := ?ma40) (by kernel_rfl) (by kernel_rfl) ?mh40 ?mr40
    case mh40 =>
      intro u hu E hE
      subst hu
      go_wp2
      rfl
    refine chainP_nil ?_
    clear x0 x1 x2 x3 cf
    have hv : i.val = .agg #[.int .i64 4, .int .i64 i.a, .int .i64 i.n, .string i.s] := by show Value.agg #[.int .i64 i.op, .int .i64 i.a, .int .i64 i.n, .string i.s] = _; rw [HO.out]
    have hc := ex_num H7.out hI i
    obtain ⟨R, hR⟩ : ∃ R : PtR, R = putXE (a + 1) S sl [] (intT i.n) := ⟨_, rfl⟩
    rw [hv, ← hR] at hc
    have HCC := Lib.hid hc
    have HXR := Lib.hid (show patX L (N + 1) a S sl = R by rw [hR]; exact HX.out)
    clear hv hc hR HX
    refine rest_chainP (fun _ => True) 9 12 (.one 9 (.soft 10 (.soft 11 .nil))) (.one _ (.soft _ (.soft _ .nil))) ⟨rfl, ⟨rfl, ⟨rfl, trivial⟩⟩⟩ (by kernel_rfl) (by kernel_rfl) (by kernel_rfl) (by kernel_rfl) (.inr (by kernel_rfl)) trivial ?_
    refine chainP_one ?_
    intro E hE
    go_wp2_with (refine (HCC.out).mono ?_; rintro e3 w3 ⟨rfl, D3, h3, s3⟩)
    have H3 := Lib.hid h3
    have HS3 := Lib.hid (HS7.out.trans s3)
    clear h3 s3 H7 HS7
    refine ⟨trivial, ?_⟩
    refine chainP_softv (.int .i64 R.cell) (by kernel_rfl) (by kernel_rfl) ?_ ?_
    · simp only [Act.put, List.getElem?_toArray, List.getElem?_cons_succ, List.getElem?_cons_zero, Option.bind_some, List.setIfInBounds_toArray, List.set_cons_succ, List.set_cons_zero, Nat.reduceAdd]
      intro u hu E hE
      go_wp2
      exact hE
    simp only [Act.put, List.getElem?_toArray, List.getElem?_cons_succ, List.getElem?_cons_zero, Option.bind_some, List.setIfInBounds_toArray, List.set_cons_succ, List.set_cons_zero, Nat.reduceAdd]
    refine chainP_softv (.int .i64 R.err) (by kernel_rfl) (by kernel_rfl) ?_ ?_
    · simp only [Act.put, List.getElem?_toArray, List.getElem?_cons_succ, List.getElem?_cons_zero, Option.bind_some, List.setIfInBounds_toArray, List.set_cons_succ, List.set_cons_zero, Nat.reduceAdd]
      intro u hu E hE
      go_wp2
      exact hE
    simp only [Act.put, List.getElem?_toArray, List.getElem?_cons_succ, List.getElem?_cons_zero, Option.bind_some, List.setIfInBounds_toArray, List.set_cons_succ, List.set_cons_zero, Nat.reduceAdd]
    refine chainP_nil ?_
    refine rest_lineL 12 14 [_, _] rfl (by kernel_rfl) (by decide) (by decide) (by kernel_rfl) ?_
    go_wp2
    refine then_rest (rest_end (by decide) ?_)
    go_wp2
    go_ret2
    rw [HXR.out]
    exact ⟨rfl, D3, H3.out, HS3.out⟩
  · have HO := Lib.hid ho
    rw [ho] at x0
    have cf := cell_of_row _ _ 9 _ _ _ hrow
    have HX := Lib.hid (show patX L (N + 1) a S sl = putXE (a + 1) S sl [] (atomT i.s) by
      unfold patX
      rw [HP.out.1]
      simp only [ho, HO.out]
      rfl)
    clear ho hrow
    refine rest_chainP (fun u => u = W7) 0 9 (.soft 0 (.soft 1 (.soft 2 (.soft 3 (.soft 4 (.soft 5 (.soft 6 (.soft 7 (.soft 8 .nil))))))))) (.soft _ (.soft _ (.soft _ (.soft _ (.soft _ (.soft _ (.soft _ (.soft _ (.soft _ .nil))))))))) ⟨rfl, ⟨rfl, ⟨rfl, ⟨rfl, ⟨rfl, ⟨rfl, ⟨rfl, ⟨rfl, ⟨rfl, trivial⟩⟩⟩⟩⟩⟩⟩⟩⟩ (by kernel_rfl) (by kernel_rfl) (by kernel_rfl) (by kernel_rfl) (.inr (by kernel_rfl)) rfl ?_
    refine chainP_soft (a1 := ?ma41) (by kernel_rfl) (by kernel_rfl) ?mh41 ?mr41
    case mh41 =>
      intro u hu E hE
      subst hu
      go_wp2
      rfl
    refine chainP_soft (a1 := ?ma42) (by kernel_rfl) (by kernel_rfl) ?mh42 ?mr42
    case mh42 =>
      intro u hu E hE
      subst hu
      go_wp2
      rfl
    refine chainP_soft (a1 := ?ma43) (by kernel_rfl) (by kernel_rfl) ?mh43 ?mr43
    case mh43 =>
      intro u hu E hE
      subst hu
      go_wp2
      rfl
    refine chainP_nck _ _ rfl rfl rfl ?_
    simp only [Act.put, List.getElem?_toArray, List.getElem?_cons_succ, List.getElem?_cons_zero, Option.bind_some, List.setIfInBounds_toArray, List.set_cons_succ, List.set_cons_zero, Nat.reduceAdd]
    refine chainP_soft (a1 := ?ma44) (by kernel_rfl) (by kernel_rfl) ?mh44 ?mr44
    case mh44 =>
      intro u hu E hE
      subst hu
      go_wp2
      rfl
    refine chainP_soft (a1 := ?ma45) (by kernel_rfl) (by kernel_rfl) ?mh45 ?mr45
    case mh45 =>
      intro u hu E hE
      subst hu
      go_wp2
      rfl
    refine chainP_soft (a1 := ?ma46) (by kernel_rfl) (by kernel_rfl) ?mh46 ?mr46
    case mh46 =>
      intro u hu E hE
      subst hu
      go_wp2
      rfl
    refine chainP_soft (a1 := ?ma47) (by kernel_rfl) (by kernel_rfl) ?mh47 ?mr47
    case mh47 =>
      intro u hu E hE
      subst hu
      go_wp2
      rfl
    refine chainP_soft (a1 := ?ma48) (by kernel_rfl) (by kernel_rfl) ?mh48 ?mr48
    case mh48 =>
      intro u hu E hE
      subst hu
      go_wp2
      rfl
    refine chainP_nil ?_
    clear x0 x1 x2 x3 cf
    have hv : i.val = .agg #[.int .i64 5, .int .i64 i.a, .int .i64 i.n, .string i.s] := by show Value.agg #[.int .i64 i.op, .int .i64 i.a, .int .i64 i.n, .string i.s] = _; rw [HO.out]
    have hc := ex_name H7.out hI i
    obtain ⟨R, hR⟩ : ∃ R : PtR, R = putXE (a + 1) S sl [] (atomT i.s) := ⟨_, rfl⟩
    rw [hv, ← hR] at hc
    have HCC := Lib.hid hc
    have HXR := Lib.hid (show patX L (N + 1) a S sl = R by rw [hR]; exact HX.out)
    clear hv hc hR HX
    refine rest_chainP (fun _ => True) 9 12 (.one 9 (.soft 10 (.soft 11 .nil))) (.one _ (.soft _ (.soft _ .nil))) ⟨rfl, ⟨rfl, ⟨rfl, trivial⟩⟩⟩ (by kernel_rfl) (by kernel_rfl) (by kernel_rfl) (by kernel_rfl) (.inr (by kernel_rfl)) trivial ?_
    refine chainP_one ?_
    intro E hE
    go_wp2_with (refine (HCC.out).mono ?_; rintro e3 w3 ⟨rfl, D3, h3, s3⟩)
    have H3 := Lib.hid h3
    have HS3 := Lib.hid (HS7.out.trans s3)
    clear h3 s3 H7 HS7
    refine ⟨trivial, ?_⟩
    refine chainP_softv (.int .i64 R.cell) (by kernel_rfl) (by kernel_rfl) ?_ ?_
    · simp only [Act.put, List.getElem?_toArray, List.getElem?_cons_succ, List.getElem?_cons_zero, Option.bind_some, List.setIfInBounds_toArray, List.set_cons_succ, List.set_cons_zero, Nat.reduceAdd]
      intro u hu E hE
      go_wp2
      exact hE
    simp only [Act.put, List.getElem?_toArray, List.getElem?_cons_succ, List.getElem?_cons_zero, Option.bind_some, List.setIfInBounds_toArray, List.set_cons_succ, List.set_cons_zero, Nat.reduceAdd]
    refine chainP_softv (.int .i64 R.err) (by kernel_rfl) (by kernel_rfl) ?_ ?_
    · simp only [Act.put, List.getElem?_toArray, List.getElem?_cons_succ, List.getElem?_cons_zero, Option.bind_some, List.setIfInBounds_toArray, List.set_cons_succ, List.set_cons_zero, Nat.reduceAdd]
      intro u hu E hE
      go_wp2
      exact hE
    simp only [Act.put, List.getElem?_toArray, List.getElem?_cons_succ, List.getElem?_cons_zero, Option.bind_some, List.setIfInBounds_toArray, List.set_cons_succ, List.set_cons_zero, Nat.reduceAdd]
    refine chainP_nil ?_
    refine rest_lineL 12 14 [_, _] rfl (by kernel_rfl) (by decide) (by decide) (by kernel_rfl) ?_
    go_wp2
    refine then_rest (rest_end (by decide) ?_)
    go_wp2
    go_ret2
    rw [HXR.out]
    exact ⟨rfl, D3, H3.out, HS3.out⟩
  · have HO := Lib.hid ho
    rw [ho] at x0
    have cf := cell_of_row _ _ 10 _ _ _ hrow
    have HX := Lib.hid (show patX L (N + 1) a S sl = compX i (patsX (patX L N) i.a.toNat (a + 1) S sl) by
      unfold patX
      rw [HP.out.1]
      simp only [ho, HO.out]
      rfl)
    have HQ := Lib.hid (show sk (L.drop (a + 1)) i.a.toNat = some q ∧ q ≤ N from ⟨by rw [HP.out.2.1]; have := HP.out.2.2.2.1; unfold Cod.Ins.ar at this; rw [if_pos HO.out] at this; exact this, by have := HP.out.2.2.2.2; omega⟩)
    clear ho hrow
    refine rest_chainP (fun u => u = W7) 0 9 (.soft 0 (.soft 1 (.soft 2 (.soft 3 (.soft 4 (.soft 5 (.soft 6 (.soft 7 (.soft 8 .nil))))))))) (.soft _ (.soft _ (.soft _ (.soft _ (.soft _ (.soft _ (.soft _ (.soft _ (.soft _ .nil))))))))) ⟨rfl, ⟨rfl, ⟨rfl, ⟨rfl, ⟨rfl, ⟨rfl, ⟨rfl, ⟨rfl, ⟨rfl, trivial⟩⟩⟩⟩⟩⟩⟩⟩⟩ (by kernel_rfl) (by kernel_rfl) (by kernel_rfl) (by kernel_rfl) (.inr (by kernel_rfl)) rfl ?_
    refine chainP_soft (a1 := ?ma49) (by kernel_rfl) (by kernel_rfl) ?mh49 ?mr49
    case mh49 =>
      intro u hu E hE
      subst hu
      go_wp2
      rfl
    refine chainP_soft (a1 := ?ma50) (by kernel_rfl) (by kernel_rfl) ?mh50 ?mr50
    case mh50 =>
      intro u hu E hE
      subst hu
      go_wp2
      rfl
    refine chainP_soft (a1 := ?ma51) (by kernel_rfl) (by kernel_rfl) ?mh51 ?mr51
    case mh51 =>
      intro u hu E hE
      subst hu
      go_wp2
      rfl
    refine chainP_nck _ _ rfl rfl rfl ?_
    simp only [Act.put, List.getElem?_toArray, List.getElem?_cons_succ, List.getElem?_cons_zero, Option.bind_some, List.setIfInBounds_toArray, List.set_cons_succ, List.set_cons_zero, Nat.reduceAdd]
    refine chainP_soft (a1 := ?ma52) (by kernel_rfl) (by kernel_rfl) ?mh52 ?mr52
    case mh52 =>
      intro u hu E hE
      subst hu
      go_wp2
      rfl
    refine chainP_soft (a1 := ?ma53) (by kernel_rfl) (by kernel_rfl) ?mh53 ?mr53
    case mh53 =>
      intro u hu E hE
      subst hu
      go_wp2
      rfl
    refine chainP_soft (a1 := ?ma54) (by kernel_rfl) (by kernel_rfl) ?mh54 ?mr54
    case mh54 =>
      intro u hu E hE
      subst hu
      go_wp2
      rfl
    refine chainP_soft (a1 := ?ma55) (by kernel_rfl) (by kernel_rfl) ?mh55 ?mr55
    case mh55 =>
      intro u hu E hE
      subst hu
      go_wp2
      rfl
    refine chainP_soft (a1 := ?ma56) (by kernel_rfl) (by kernel_rfl) ?mh56 ?mr56
    case mh56 =>
      intro u hu E hE
      subst hu
      go_wp2
      rfl
    refine chainP_nil ?_
    clear x0 x1 x2 x3 cf
    have hv : i.val = .agg #[.int .i64 6, .int .i64 i.a, .int .i64 i.n, .string i.s] := by show Value.agg #[.int .i64 i.op, .int .i64 i.a, .int .i64 i.n, .string i.s] = _; rw [HO.out]
    have hc := hC i (a + 1) q S sl D W7 H7.out hI HSL.out.1 HSL.out.2 HP.out.2.2.1 HO.out (HB.out.2.2 HO.out).1 (HB.out.2.2 HO.out).2 HQ.out.1 HQ.out.2
    obtain ⟨R, hR⟩ : ∃ R : PtR, R = compX i (patsX (patX L N) i.a.toNat (a + 1) S sl) := ⟨_, rfl⟩
    rw [hv, ← hR] at hc
    have HCC := Lib.hid hc
    have HXR := Lib.hid (show patX L (N + 1) a S sl = R by rw [hR]; exact HX.out)
    clear hv hc hR HX
    refine rest_chainP (fun _ => True) 9 12 (.one 9 (.soft 10 (.soft 11 .nil))) (.one _ (.soft _ (.soft _ .nil))) ⟨rfl, ⟨rfl, ⟨rfl, trivial⟩⟩⟩ (by kernel_rfl) (by kernel_rfl) (by kernel_rfl) (by kernel_rfl) (.inr (by kernel_rfl)) trivial ?_
    refine chainP_one ?_
    intro E hE
    go_wp2_with (refine (HCC.out).mono ?_; rintro e3 w3 ⟨rfl, D3, h3, s3⟩)
    have H3 := Lib.hid h3
    have HS3 := Lib.hid (HS7.out.trans s3)
    clear h3 s3 H7 HS7
    refine ⟨trivial, ?_⟩
    refine chainP_softv (.int .i64 R.cell) (by kernel_rfl) (by kernel_rfl) ?_ ?_
    · simp only [Act.put, List.getElem?_toArray, List.getElem?_cons_succ, List.getElem?_cons_zero, Option.bind_some, List.setIfInBounds_toArray, List.set_cons_succ, List.set_cons_zero, Nat.reduceAdd]
      intro u hu E hE
      go_wp2
      exact hE
    simp only [Act.put, List.getElem?_toArray, List.getElem?_cons_succ, List.getElem?_cons_zero, Option.bind_some, List.setIfInBounds_toArray, List.set_cons_succ, List.set_cons_zero, Nat.reduceAdd]
    refine chainP_softv (.int .i64 R.err) (by kernel_rfl) (by kernel_rfl) ?_ ?_
    · simp only [Act.put, List.getElem?_toArray, List.getElem?_cons_succ, List.getElem?_cons_zero, Option.bind_some, List.setIfInBounds_toArray, List.set_cons_succ, List.set_cons_zero, Nat.reduceAdd]
      intro u hu E hE
      go_wp2
      exact hE
    simp only [Act.put, List.getElem?_toArray, List.getElem?_cons_succ, List.getElem?_cons_zero, Option.bind_some, List.setIfInBounds_toArray, List.set_cons_succ, List.set_cons_zero, Nat.reduceAdd]
    refine chainP_nil ?_
    refine rest_lineL 12 14 [_, _] rfl (by kernel_rfl) (by decide) (by decide) (by kernel_rfl) ?_
    go_wp2
    refine then_rest (rest_end (by decide) ?_)
    go_wp2
    go_ret2
    rw [HXR.out]
    exact ⟨rfl, D3, H3.out, HS3.out⟩
end Go.Proofs.Ytcbijikalfodnaa.Tms
namespace Go.Proofs.Ytcbijikalfodnaa.Tms
open Go Go.RowKit Go.Proofs.Ytcbijikalfodnaa.Reg Go.Proofs.Ytcbijikalfodnaa.Rws Go.Proofs.Ytcbijikalfodnaa.Maps
open Go.Proofs.Ytcbijikalfodnaa.Cod (Ins Cod sk check slotsN InsSl InsAt)
set_option linter.unusedVariables false
set_option linter.unusedSimpArgs false

theorem wpList_imap_cap {P : Program} {w : World} {ops : Array Oper} {rest : List Oper} {o : Oper} {a : Act} {Q : Exit → Act → World → Prop} (hgd : o.guard = none) (t : TypeId) (x : Operand) (ho : o.op = .makeMap t (some x)) (kt et : TypeId) (h : P.underlying t = some (.map kt et)) (n : Int) (hx : a.eval x = .int .i64 n)
    (hK : wpList P ops Q rest (a.put o.dst (.map (some w.heap.size))) (w.alloc (.map #[] 0))) : wpList P ops Q (o :: rest) a w := by
  refine wpList_plain hgd fun K hK' => ?_
  have hrun : (Instr.makeMap t (some (.int .i64 n))).run P w = .ok (.map (some w.heap.size)) (w.alloc (.map #[] 0)) := by
    simp [Instr.makeMap, run_underlying h, asInt, asIntOf, Result.andThen]
  unfold Oper.wp
  simp [execOp, ho, hx, hrun, Result.andThen]
  exact hK' _ _ hK
theorem tmAt_var {w : World} {P P' : Nat → Prop} {g o : Nat} {n : Int} (h : TmAt w P g o (varT n)) : TmAt w P' g o (varT n) := by
  unfold varT TmAt at h ⊢
  obtain ⟨a, cap, h0, h1, h2, h3, h4⟩ := h
  exact ⟨a, cap, h0, h1, h2, h3, trivial⟩
theorem varsX_len (n : Nat) : (varsX n).length = n := by simp [varsX]
theorem varsX_at (n i : Nat) (h : i < (varsX n).length) : (varsX n)[i] = varT (i : Int) := by simp [varsX]
theorem varsX_snoc (n : Nat) : varsX (n + 1) = varsX n ++ [varT (n : Int)] := by simp [varsX, List.range_succ]
theorem vFill_keep {w w' : World} {g n r : Nat} (h : Fill w g n 0 (varsX r)) (hg : w'.heap[g]? = w.heap[g]?) : Fill w' g n 0 (varsX r) := by
  obtain ⟨cs, h1, h2⟩ := h.row
  refine ⟨⟨cs, hg.trans h1, h2⟩, fun i hi => ?_⟩
  have h3 := h.got i hi
  rw [varsX_at] at h3 ⊢
  exact tmAt_var (TmAt.imp' (P' := fun _ => False) (fun _ h => h) (fun b hb => hb.elim) _ _ _ (fun j _ => World.cell?_of_block (a := ⟨g, i * 4 + j, none⟩) hg) (tmAt_var (P' := fun _ => False) h3))
theorem vFill_sl {w : World} {g n : Nat} (h : Fill w g n 0 (varsX n)) : IsSl w (fun b => b = g) (.slice (some ⟨g, 0, none⟩) n n) (varsX n) := by
  have hn := varsX_len n
  have hs : IsSl w (fun b => b = g) (.slice (some ⟨g, 0, none⟩) (varsX n).length n) (varsX n) := by
    refine IsSl.mk' fun i hi => ⟨g, 0, rfl, rfl, ?_⟩
    rw [Nat.zero_add]
    have h3 := h.got i hi
    rw [varsX_at] at h3 ⊢
    exact tmAt_var h3
  rw [hn] at hs
  exact hs
theorem vFill_put {w : World} {g n r : Nat} (h : Fill w g n 0 (varsX r)) (hr : r < n) : w.there g (r * 4) 4 ∧ Fill (w.setCells g (r * 4) [.int .i64 1, .int .i64 r, .string ⟨#[]⟩, .slice none 0 0]) g n 0 (varsX (r + 1)) ∧ Keeps w (w.setCells g (r * 4) [.int .i64 1, .int .i64 r, .string ⟨#[]⟩, .slice none 0 0]) (fun b => b = g) := by
  have h1 := h.put (t := varT (r : Int)) (a := none) (c := 0) (varsX_len r) hr (var_is _ _ _)
  rw [← varsX_snoc] at h1
  exact h1
section
variable {w0 w w' w'' : World} {p rb qb at_ k x : Nat} {S : Sto} {D D' : Nat → Prop} {lv : Value} {L : List Ins} {sl : List Int}
/-- a block of the caller's own is written -/
theorem ExAt.own (h : ExAt w0 p rb qb S D lv L at_ sl k w) (hk : Keeps w w' (fun b => b = x)) (hx : EOut rb qb D w x) (h0 : w0.heap.size ≤ x) (hn : slBlk lv ≠ some x) : ExAt w0 p rb qb S D lv L at_ sl k w' := by
  have hb := h.law.bel
  refine h.other ⟨hk.os.trans hb.os, hk.tape.trans hb.tape, hk.output.trans hb.output, Nat.le_trans hb.size hk.size, fun b hlt => (hk.block b (Nat.lt_of_lt_of_le hlt hb.size) (by omega)).trans (hb.block b hlt)⟩ hk.size fun b hlt hb' => hk.block b hlt fun e => ?_
  subst e
  rcases hb' with hb' | hb' | hb' | hb'
  · exact hx.1 hb'
  · exact hx.2.1 hb'
  · exact hx.2.2.1 hb'
  · exact hn hb'
theorem EStep.own (h : EStep rb qb D w D' w') (hk : Keeps w' w'' (fun b => b = x)) (hx : w.heap.size ≤ x) : EStep rb qb D w D' w'' :=
  ⟨Nat.le_trans h.size hk.size, fun b hb => ⟨⟨(h.blk b hb).1.1, hb.2.1, hb.2.2.1, Nat.lt_of_lt_of_le (h.blk b hb).1.2.2.2 hk.size⟩, (hk.block b (h.blk b hb).1.2.2.2 (by have := hb.2.2.2; omega)).trans (h.blk b hb).2⟩⟩
theorem EOut.keep {b : Nat} (h : EOut rb qb D w b) (hz : w.heap.size ≤ w'.heap.size) : EOut rb qb D w' b := ⟨h.1, h.2.1, h.2.2.1, Nat.lt_of_lt_of_le h.2.2.2 hz⟩
end
/-- comp of a run, on its way: r of n variables are laid, r cells are in the map -/
structure CpAt (w0 : World) (p rb qb k : Nat) (D : Nat → Prop) (lv : Value) (L : List Ins) (w : World) (g tb mb n : Nat) (s : ByteArray) (r : Nat) (Q : PsR) (D1 : Nat → Prop) (wr : World) : Prop where
  ex : ExAt w0 p rb qb Q.S D1 lv L Q.at_ Q.sl k wr
  st : EStep rb qb D w D1 wr
  fill : Fill wr g n 0 (varsX r)
  box : wr.heap[tb]? = some (.cells #[.int .i64 4, .int .i64 0, .string s, .slice (some ⟨g, 0, none⟩) n n] 49 (0, 0))
  map : IMapB wr mb (numM Q.cells)
  gO : EOut rb qb D1 wr g
  tO : EOut rb qb D1 wr tb
  mO : EOut rb qb D1 wr mb
  low : w0.heap.size ≤ w.heap.size ∧ w.heap.size ≤ g ∧ w.heap.size ≤ tb ∧ w.heap.size ≤ mb
  ne : g ≠ tb ∧ g ≠ mb ∧ tb ≠ mb
  lvF : ∀ b, slBlk lv = some b → b < w.heap.size
section
variable {w0 w wr w2 : World} {p rb qb k g tb mb n r : Nat} {D D1 D2 : Nat → Prop} {lv : Value} {L : List Ins} {s : ByteArray} {Q Q' : PsR}
theorem CpAt.did (h : CpAt w0 p rb qb k D lv L w g tb mb n s r Q D1 wr) (hx : ExAt w0 p rb qb Q'.S D2 lv L Q'.at_ Q'.sl k w2) (hs : EStep rb qb D1 wr D2 w2) (hc : Q'.cells = Q.cells) : CpAt w0 p rb qb k D lv L w g tb mb n s r Q' D2 w2 :=
  ⟨hx, h.st.trans hs, vFill_keep h.fill (hs.blk g h.gO).2, (hs.blk tb h.tO).2.trans h.box, by rw [hc]; exact h.map.below (hs.blk mb h.mO).2, (hs.blk g h.gO).1, (hs.blk tb h.tO).1, (hs.blk mb h.mO).1, h.low, h.ne, h.lvF⟩
theorem CpAt.below (h : CpAt w0 p rb qb k D lv L w g tb mb n s r Q D1 wr) (hb : Below wr.heap.size wr w2) : CpAt w0 p rb qb k D lv L w g tb mb n s r Q D1 w2 :=
  let ⟨h1, h2, _⟩ := h.ex.below hb
  h.did h1 h2 rfl
theorem CpAt.fillPut (h : CpAt w0 p rb qb k D lv L w g tb mb n s r Q D1 wr) (hr : r < n) : wr.there g (r * 4) 4 ∧ CpAt w0 p rb qb k D lv L w g tb mb n s (r + 1) Q D1 (wr.setCells g (r * 4) [.int .i64 1, .int .i64 r, .string ⟨#[]⟩, .slice none 0 0]) := by
  obtain ⟨h1, h2, h3⟩ := vFill_put h.fill hr
  have hlv : slBlk lv ≠ some g := fun e => by have := h.lvF g e; have := h.low; omega
  exact ⟨h1, h.ex.own h3 h.gO (Nat.le_trans h.low.1 h.low.2.1) hlv, h.st.own h3 h.low.2.1, h2, (h3.block tb h.tO.2.2.2 (fun e => h.ne.1 e.symm)).trans h.box, h.map.below (h3.block mb h.mO.2.2.2 (fun e => h.ne.2.1 e.symm)), h.gO.keep h3.size, h.tO.keep h3.size, h.mO.keep h3.size, h.low, h.ne, h.lvF⟩
theorem CpAt.mapPut (h : CpAt w0 p rb qb k D lv L w g tb mb n s r Q D1 wr) {cs : List Int} (hg : wr.grownBy w2 (some mb)) (hm : IMapB w2 mb (numM cs)) : CpAt w0 p rb qb k D lv L w g tb mb n s r ⟨cs, Q.err, Q.at_, Q.S, Q.sl⟩ D1 w2 := by
  have h3 : Keeps wr w2 (fun b => b = mb) := Keeps.grown hg fun b e => .inl (by cases e; rfl)
  have hlv : slBlk lv ≠ some mb := fun e => by have := h.lvF mb e; have := h.low; omega
  exact ⟨h.ex.own h3 h.mO (Nat.le_trans h.low.1 h.low.2.2.2) hlv, h.st.own h3 h.low.2.2.2, vFill_keep h.fill (h3.block g h.gO.2.2.2 h.ne.2.1), (h3.block tb h.tO.2.2.2 h.ne.2.2).trans h.box, hm, h.gO.keep h3.size, h.tO.keep h3.size, h.mO.keep h3.size, h.low, h.ne, h.lvF⟩
end
theorem numM_snoc (l : List Int) (x : Int) : numM (l ++ [x]) = mset (l.length : Int) x (numM l) := by
  have hk : mget (numM l) (l.length : Int) = none := by
    rw [mget_none]
    intro q hq
    unfold numM at hq
    obtain ⟨⟨y, j⟩, hq2, rfl⟩ := List.mem_map.1 hq
    have := List.snd_lt_of_mem_zipIdx hq2
    simp at this ⊢
    omega
  rw [mset_new hk]
  simp [numM, List.zipIdx_append]
theorem CpAt.put {w0 w wr w2 : World} {p rb qb k g tb mb n r : Nat} {D D1 D2 : Nat → Prop} {lv : Value} {L : List Ins} {s : ByteArray} {Q : PsR} {S' : Sto} {M N' F : List (Int × Int)} (h : CpAt w0 p rb qb k D lv L w g tb mb n s r Q D1 wr) (hl : LawPut w0 p D1 mb M N' wr S' D2 F w2) : ExAt w0 p rb qb S' D2 lv L Q.at_ Q.sl k w2 ∧ EStep rb qb D w D2 w2 := by
  have hx := h.ex
  have hr := hl.blk rb ⟨hx.rF.1, hx.rlt⟩ (fun e => h.mO.2.1 e.symm)
  have hq := hl.blk qb ⟨hx.qF.1, hx.qlt⟩ (fun e => h.mO.2.2.1 e.symm)
  have hlv : ∀ b, slBlk lv = some b → b ≠ mb := fun b e => by have := h.lvF b e; have := h.low; omega
  refine ⟨⟨hl.law, hr.2.trans hx.row, hx.slots.keep hq.2, insSl_keepX hx.ins fun b e => (hl.blk b (hx.iF b e).1 (hlv b e)).2, ⟨hr.1.1, hx.rF.2⟩, ⟨hq.1.1, hx.qF.2⟩, fun b e => ⟨(hl.blk b (hx.iF b e).1 (hlv b e)).1, (hx.iF b e).2⟩⟩, Nat.le_trans h.st.size hl.size, fun b hb => ?_⟩
  have g1 := h.st.blk b hb
  have g2 := hl.blk b ⟨g1.1.1, g1.1.2.2.2⟩ (by have := hb.2.2.2; have := h.low; omega)
  exact ⟨⟨g2.1.1, hb.2.1, hb.2.2.1, g2.1.2⟩, g2.2.trans g1.2⟩
theorem patsX_err {f : Nat → Sto → List Int → PtR} {a : Nat} {S : Sto} {sl : List Int} {m : Nat} (h : (patsX f m a S sl).err ≠ 0) : ∀ n, m ≤ n → patsX f n a S sl = patsX f m a S sl := by
  intro n hn
  induction n with
  | zero => obtain rfl : m = 0 := by omega
            rfl
  | succ n ih =>
    by_cases e : m = n + 1
    · rw [e]
    · have := ih (by omega)
      show (if (patsX f n a S sl).err ≠ 0 then patsX f n a S sl else _) = _
      rw [this, if_pos h]
theorem patsX_step {f : Nat → Sto → List Int → PtR} {a : Nat} {S : Sto} {sl : List Int} {r : Nat} {Q : PsR} {R : PtR} (hQ : patsX f r a S sl = Q) (hR : f Q.at_ Q.S Q.sl = R) (h : Q.err = 0) : patsX f (r + 1) a S sl = if R.err ≠ 0 then ⟨Q.cells, R.err, R.at_, R.S, R.sl⟩ else ⟨Q.cells ++ [R.cell], 0, R.at_, R.S, R.sl⟩ := by
  show (if (patsX f r a S sl).err ≠ 0 then patsX f r a S sl else if (f (patsX f r a S sl).at_ (patsX f r a S sl).S (patsX f r a S sl).sl).err ≠ 0 then _ else _) = _
  simp only [hQ, hR, h]
  rw [if_neg (by simp)]
/-- the loop of comp -/
def ExRel (w0 : World) (p rb qb k : Nat) (D : Nat → Prop) (lv : Value) (L : List Ins) (w : World) (g tb mb n : Nat) (s : ByteArray) (N a q : Nat) (S : Sto) (sl : List Int) (vi : Value) (wr : World) : Prop := ∃ (r c d : Nat) (D1 : Nat → Prop), vi = .int .i64 r ∧ r ≤ n ∧ (patsX (patX L N) r a S sl).err = 0 ∧ CpAt w0 p rb qb k D lv L w g tb mb n s r (patsX (patX L N) r a S sl) D1 wr ∧ sk (L.drop a) r = some c ∧ sk (L.drop (a + c)) (n - r) = some d ∧ c + d = q
end Go.Proofs.Ytcbijikalfodnaa.Tms
namespace Go.Proofs.Ytcbijikalfodnaa.Tms
open Go Go.RowKit Go.Proofs.Ytcbijikalfodnaa.Reg Go.Proofs.Ytcbijikalfodnaa.Rws Go.Proofs.Ytcbijikalfodnaa.Maps
open Go.Proofs.Ytcbijikalfodnaa.Cod (Ins Cod sk check slotsN InsSl InsAt)
set_option linter.unusedVariables false
set_option linter.unusedSimpArgs false

set_option maxRecDepth 100000 in
set_option maxHeartbeats 16000000 in
theorem ex_comp {w0 : World} {p rb qb sn k N : Nat} {lv : Value} {L : List Ins} (hok : ∀ i ∈ L, i.ok = true) (hsl : ∀ i ∈ L, i.op = 2 ∨ i.op = 3 → 0 ≤ i.a ∧ i.a < sn) (hP : PatC w0 p rb qb lv L sn k N) : CompC w0 p rb qb lv L sn k N := by
  intro i a q S sl D w h hI hs hl hm ho h1 h2 hk hq
  obtain ⟨n, hn⟩ : ∃ n : Nat, i.a = (n : Int) := ⟨i.a.toNat, by omega⟩
  have htn : i.a.toNat = n := by rw [hn]; simp
  have hn1 : 1 ≤ n ∧ n ≤ 255 := by omega
  rw [htn] at hk
  have hps := fun r c => patsX_ok (patX_ok hok hsl N) r a c S sl
  have HPS := Lib.hid hps
  have HSZ := Lib.hid (ok6X ho (hok i hm))
  have HA := Lib.hid (And.intro hI (And.intro hs (And.intro hl (And.intro hk hq))))
  have HN0 := Lib.hid (And.intro hn htn)
  have HLV := Lib.hid (fun b e => (h.iF b e).1.2 : ∀ b, slBlk lv = some b → b < w.heap.size)
  have HLW := Lib.hid h.law.bel.size
  clear hps hI hs hl hk hq hn htn ho h1 h2 hm
  have hal := (Below.refl w.heap.size w).alloc (Nat.le_refl _) (.cells #[.int .i64 i.op, .int .i64 i.a, .int .i64 i.n, .string i.s] 71 (0, 0))
  have hnw := heap_alloc_new w (.cells #[.int .i64 i.op, .int .i64 i.a, .int .i64 i.n, .string i.s] 71 (0, 0))
  obtain ⟨h1, s1, f1⟩ := h.below hal
  have HW := Lib.hid h1
  have HS := Lib.hid s1
  have HN := Lib.hid hnw
  clear hal hnw h1 s1 f1 h
  go_enter Try.func57, Try.ntmps57
  go_upto_region 1 with fail
  generalize w.alloc (.cells #[.int .i64 i.op, .int .i64 i.a, .int .i64 i.n, .string i.s] 71 (0, 0)) = W1 at *
  generalize hgi : w.heap.size = gi at HN ⊢
  refine wp_region_rest (by kernel_rfl) ?_
  have hd := (Below.refl W1.heap.size W1).drew
  obtain ⟨h2, s2, -⟩ := HW.out.below hd
  have HW0 := Lib.hid h2
  have HS0 := Lib.hid (HS.out.trans s2)
  have hn2 := row_on HN.out hd
  clear h2 s2 hd HW HS HN
  generalize W1.drew = W0 at *
  have HI3 := Lib.hid hn2
  have lgi := (Array.getElem?_eq_some_iff.1 hn2).1
  have hgz := HS0.out.size
  have HGI := Lib.hid hgi
  clear hn2 hgi
  obtain ⟨i0, hti, hz0, hz1, hz2⟩ := info_parts info_term
  refine rest_chainP (fun u => Below W0.heap.size W0 u) 0 7 (.soft 0 (.soft 1 (.soft 2 (.soft 3 (.two 4 6 (.soft 5 (.one 6 .nil)) (.one 4 (.soft 5 .nil))))))) (.soft _ (.soft _ (.soft _ (.soft _ (.two _ _ (.soft _ (.one _ .nil)) (.one _ (.soft _ .nil))))))) ⟨rfl, ⟨rfl, ⟨rfl, ⟨rfl, ⟨rfl, rfl, ⟨rfl, ⟨rfl, trivial⟩⟩, ⟨rfl, ⟨rfl, trivial⟩⟩⟩⟩⟩⟩⟩ (by kernel_rfl) (by kernel_rfl) (by kernel_rfl) (by kernel_rfl) (.inr (by kernel_rfl)) (Below.refl _ _) ?_
  refine chainP_soft (a1 := ?ma1) (by kernel_rfl) (by kernel_rfl) ?mh1 ?mr1
  case mh1 =>
    intro u hu E hE
    go_wp2
    rfl
  refine chainP_soft (a1 := ?ma2) (by kernel_rfl) (by kernel_rfl) ?mh2 ?mr2
  case mh2 =>
    intro u hu E hE
    obtain ⟨y0, y1, y2, y3⟩ := row4 ((hu.block gi lgi).trans HI3.out)
    go_wp2
    rfl
  refine chainP_soft (a1 := ?ma3) (by kernel_rfl) (by kernel_rfl) ?mh3 ?mr3
  case mh3 =>
    intro u hu E hE
    go_wp2
    rfl
  refine chainP_soft (a1 := ?ma4) (by kernel_rfl) (by kernel_rfl) ?mh4 ?mr4
  case mh4 =>
    intro u hu E hE
    obtain ⟨y0, y1, y2, y3⟩ := row4 ((hu.block gi lgi).trans HI3.out)
    rw [HN0.out.1] at y1
    go_wp2
    rfl
  refine chainP_two ?_ ?_
  · intro E hE
    refine wpList_make_full _ rfl (.tmp 14) (.tmp 14) 47 rfl W0.heap.size 49 i0 _ 4 Try.underlying47 hti hz0 hz1 .i64 .i64 _ _ n rfl rfl rfl rfl (by rw [hz2]; omega) (by unfold maxLen; omega) (Nat.le_refl _) ?_
    intro wA hown hgr
    obtain ⟨row, hrow, hrs⟩ := own_row hown
    have hbA : Below W0.heap.size W0 wA := (Below.refl _ _).grown hgr (Nat.le_refl _) (by simp)
    clear hown hgr
    refine hE _ _ ⟨hbA, ?_⟩
    simp only [Act.put, List.getElem?_toArray, List.getElem?_cons_succ, List.getElem?_cons_zero, Option.bind_some, List.setIfInBounds_toArray, List.set_cons_succ, List.set_cons_zero, Nat.reduceAdd]
    refine chainP_soft (a1 := ?ma5) (by kernel_rfl) (by kernel_rfl) ?mh5 ?mr5
    case mh5 =>
      intro u hu E hE
      go_wp2
      rfl
    refine chainP_one ?_
    intro E hE
    go_wp2
    refine ⟨hbA.trans ((below_new _ _).mono hbA.size), ?_⟩
    refine chainP_nil ?_
    have hbU := below_new wA (.cells #[.int .i64 0, .int .i64 0, .string ⟨#[]⟩, .slice none 0 0] 49 (0, 0))
    have hnU := heap_alloc_new wA (.cells #[.int .i64 0, .int .i64 0, .string ⟨#[]⟩, .slice none 0 0] 49 (0, 0))
    have hbX := hbA.trans (hbU.mono hbA.size)
    obtain ⟨h4, s4, f4⟩ := HW0.out.below hbX
    have hzA : W0.heap.size < wA.heap.size := (Array.getElem?_eq_some_iff.1 hrow).1
    have HX4 := Lib.hid h4
    have HS4 := Lib.hid (HS0.out.trans s4)
    have HG4 := Lib.hid ((hbX.block gi lgi).trans HI3.out)
    have HGR := Lib.hid ((hbU.block W0.heap.size hzA).trans hrow)
    have HTB := Lib.hid hnU
    have HO := Lib.hid (And.intro (f4 W0.heap.size (Nat.le_refl _) (by simp; omega)) (And.intro (f4 wA.heap.size (by omega) (by simp)) trivial))
    have HLO := Lib.hid (show w.heap.size ≤ W0.heap.size ∧ w.heap.size ≤ wA.heap.size ∧ W0.heap.size ≠ wA.heap.size ∧ gi ≠ wA.heap.size ∧ True from ⟨HS0.out.size, by have := HS0.out.size; omega, by omega, by omega, trivial⟩)
    clear hbU hnU hbA hbX hrow h4 s4 f4 hzA HW0 HS0 HI3 hE
    generalize wA.alloc (.cells #[.int .i64 0, .int .i64 0, .string ⟨#[]⟩, .slice none 0 0] 49 (0, 0)) = UX at *
    generalize wA.heap.size = tb at *
    generalize W0.heap.size = g at *
    refine rest_lineL 7 8 [_] rfl (by kernel_rfl) (by decide) (by decide) (by kernel_rfl) ?_
    refine wpList_store_row rfl 49 (.tmp 6) (.tmp 16) rfl tb #[.int .i64 4, .int .i64 0, .string i.s, .slice (some ⟨g, 0, none⟩) n n] rfl rfl _ _ HTB.out size_term rfl (one4 _ _ _ _ _ _) ?_
    go_wp2
    refine then_rest (rest_end (by decide) ?_)
    have hbox := setRow_heap UX tb _ (#[.int .i64 4, .int .i64 0, .string i.s, .slice (some ⟨g, 0, none⟩) n n] : Array Value) _ _ HTB.out
    have hoth : ∀ b, b ≠ tb → (UX.setRow tb #[.int .i64 4, .int .i64 0, .string i.s, .slice (some ⟨g, 0, none⟩) n n]).heap[b]? = UX.heap[b]? := fun b hb => setRow_other _ _ _ _ hb
    have hk : Keeps UX (UX.setRow tb #[.int .i64 4, .int .i64 0, .string i.s, .slice (some ⟨g, 0, none⟩) n n]) (fun b => b = tb) := ⟨rfl, rfl, rfl, by simp, fun b _ hb => hoth b hb⟩
    have hx5 := HX4.out.own hk HO.out.2.1 (Nat.le_trans HLW.out HLO.out.2.1) (fun e => by have := HLV.out tb e; have := HLO.out; omega)
    have hs5 := HS4.out.own hk HLO.out.2.1
    have hgi5 := (hoth gi HLO.out.2.2.2.1).trans HG4.out
    have hrow5 := (hoth g HLO.out.2.2.1).trans HGR.out
    have HO5 := Lib.hid (And.intro (HO.out.1.keep hk.size) (HO.out.2.1.keep hk.size))
    clear hoth hk HX4 HS4 HG4 HO HTB HGR
    generalize UX.setRow tb #[.int .i64 4, .int .i64 0, .string i.s, .slice (some ⟨g, 0, none⟩) n n] = X at *
    have hbm := below_new X (.map #[] 0)
    obtain ⟨h6, s6, f6⟩ := hx5.below hbm
    have hst : ExRel w0 p rb qb k D lv L w g tb X.heap.size n i.s N a q S sl (.int .i64 ((0 : Nat) : Int)) (X.alloc (.map #[] 0)) :=
      ⟨0, 0, q, D, rfl, by omega, rfl, ⟨h6, hs5.trans s6, Fill.start ((hbm.block g HO5.out.1.2.2.2).trans hrow5) hrs, (hbm.block tb HO5.out.2.2.2.2).trans hbox, IMapB.made X, (s6.blk g HO5.out.1).1, (s6.blk tb HO5.out.2).1, f6 _ (Nat.le_refl _) (by simp), ⟨HLW.out, HLO.out.1, HLO.out.2.1, hs5.size⟩, ⟨HLO.out.2.2.1, by have := HO5.out.1.2.2.2; omega, by have := HO5.out.2.2.2.2; omega⟩, HLV.out⟩, Cod.sk_zero _, HA.out.2.2.2.1, by omega⟩
    have HST := Lib.hid hst
    obtain ⟨y0, y1, y2, y3⟩ := row4 hgi5
    rw [HN0.out.1] at y1
    have x3 := (row4 ((hbm.block tb HO5.out.2.2.2.2).trans hbox)).2.2.2
    clear hst hbm h6 s6 f6 hx5 hs5 hgi5 hrow5 hbox hrs
    go_wp2_with (refine wpList_imap_cap rfl 53 (.tmp 18) rfl _ _ Try.underlying53 n rfl ?_)
    clear y0 y1 y2 y3 x3
    generalize X.alloc (.map #[] 0) = WL at *
    generalize X.heap.size = mb at *
    go_loopw [23] (fun vi wr => ExRel w0 p rb qb k D lv L w g tb mb n i.s N a q S sl vi wr) (fun vi _ => n - (intOf vi).toNat)
    case atStart => exact HST.out
    case round =>
      clear HST
      obtain ⟨r, c, d, D1, rfl, hrn0, her, hcp, hc, hd, hcd⟩ := hrel
      have hps := HPS.out r c hc (by have := HA.out.2.2.2.2; omega) HA.out.1 HA.out.2.1 HA.out.2.2.1
      have hpe := hps.done her
      obtain ⟨Q, hQ⟩ : ∃ Q, Q = patsX (patX L N) r a S sl := ⟨_, rfl⟩
      rw [← hQ] at her hcp hps hpe
      by_cases hrn : r < n
      · obtain ⟨j1, d1, e1, e2, e3⟩ := sk_split _ 1 (n - r - 1) d (by rw [show 1 + (n - r - 1) = n - r by omega]; exact hd)
        rw [List.drop_drop] at e2
        have hjn := sk_join _ r 1 c j1 hc (by rw [List.drop_drop]; exact e1)
        obtain ⟨R, hR⟩ : ∃ R, R = patX L N Q.at_ Q.S Q.sl := ⟨_, rfl⟩
        have hstep := patsX_step (f := patX L N) hQ.symm hR.symm her
        have hcall := hP Q.at_ j1 Q.S Q.sl D1 wr hcp.ex hps.go.inv hps.slots (hps.len.trans HA.out.2.2.1) (by rw [hpe.1]; exact e1) (by have := HA.out.2.2.2.2; omega)
        rw [← hR] at hcall
        have HC := Lib.hid hcp
        have HCALL := Lib.hid hcall
        have HSTEP := Lib.hid hstep
        have HJ := Lib.hid (And.intro hjn (And.intro e2 (And.intro e3 (And.intro hpe.2.1 hcd))))
        have b1 : decide ((r : Int) < (n : Int)) = true := by simp; omega
        clear hps hpe her hcp hc hd hcd e1 e2 e3 hjn hR hQ hstep hcall hrn0
        by_cases he : R.err = 0
        · have b2 : (R.err != 0) = false := by simpa using he
          have HE := Lib.hid he
          clear he
          have hin0 : (0 : Int) ≤ (r : Int) := by omega
          have hin1 : (r : Int) < (n : Int) := by omega
          go_wp2_with (first
            | (go_at_call 28
               refine (HCALL.out).mono ?_
               rintro e3 w3 ⟨rfl, D3, h3, s3⟩
               have h4 := HC.out.did (Q' := ⟨Q.cells, 0, R.at_, R.S, R.sl⟩) h3 s3 rfl
               have x3 := (row4 h4.box).2.2.2
               obtain ⟨hth, h5⟩ := h4.fillPut hrn
               have HTH := Lib.hid hth
               have H5 := Lib.hid h5
               clear h3 s3 h4 hth h5)
            | (with_reducible show wpList _ _ _ (⟨none, .store _ (.tmp 39) _, _, _, _, _⟩ :: _) _ _
               refine wpList_store_mid rfl 49 (.tmp 39) (.tmp 38) rfl g (r * 4) #[.int .i64 1, .int .i64 r, .string ⟨#[]⟩, .slice none 0 0] rfl rfl HTH.out size_term (one4 _ _ _ _ _ _) ?_
               clear x3
               skip)
            | (with_reducible show wpList _ _ _ (⟨none, .mapUpdate _ _ _ _, _, _, _, _⟩ :: _) _ _
               refine wpList_imapb_set rfl 53 (.tmp 40) (.tmp 41) (.tmp 42) rfl _ _ _ Try.underlying53 Try.underlying2 mb (numM Q.cells) rfl H5.out.map r rfl R.cell rfl ?_
               intro w6 hm6 hg6))
          have h6 := H5.out.mapPut (cs := Q.cells ++ [R.cell]) hg6 (by rw [numM_snoc, HJ.out.2.2.2.1]; exact hm6)
          have hfin : patsX (patX L N) (r + 1) a S sl = ⟨Q.cells ++ [R.cell], 0, R.at_, R.S, R.sl⟩ := by rw [HSTEP.out, if_neg (fun h => h HE.out)]
          go_roundw
          case rel =>
            refine ⟨r + 1, c + j1, d1, D3, by go_num, by omega, by rw [hfin], by rw [hfin]; exact h6, HJ.out.1, ?_, by have := HJ.out.2.2; omega⟩
            rw [show a + (c + j1) = a + c + j1 by omega, show n - (r + 1) = n - r - 1 by omega]; exact HJ.out.2.1
          case measure => simp [intOf]; omega
        · have b2 : (R.err != 0) = true := by simpa using he
          have HE := Lib.hid he
          clear he
          go_wp2_with (refine (HCALL.out).mono ?_; rintro e3 w3 ⟨rfl, D3, h3, s3⟩)
          go_ret2
          have hfin : patsX (patX L N) i.a.toNat a S sl = ⟨Q.cells, R.err, R.at_, R.S, R.sl⟩ := by
            have e1 := HSTEP.out
            rw [if_pos HE.out] at e1
            rw [HN0.out.2, patsX_err (m := r + 1) (by rw [e1]; exact HE.out) n (by omega), e1]
          rw [hfin]
          unfold compX
          rw [if_pos HE.out]
          exact ⟨rfl, D3, h3, HC.out.st.trans s3⟩
      · obtain rfl : r = n := by omega
        have b1 : decide ((r : Int) < (r : Int)) = false := by simp
        have hcok := fun c hc => (hpe.2.2 c hc)
        have HQ := Lib.hid hQ
        have HE := Lib.hid her
        have HI7 := Lib.hid hps.go.inv
        have HC := Lib.hid hcp
        clear hps hpe her hcp hc hd hcd hQ hrn0 hcok
        go_upto_region 12 with fail
        refine wp_region_rest (by kernel_rfl) ?_
        have hd := (Below.refl wr.heap.size wr).drew
        have hc7 := HC.out.below hd
        have HC7 := Lib.hid hc7
        obtain ⟨c0, c1, c2, c3, c11⟩ := row12 hc7.ex.row
        obtain ⟨x0, x1, x2, x3⟩ := row4 hc7.box
        clear hd hc7 HC
        generalize wr.drew = W7 at *
        obtain ⟨R, hR⟩ : ∃ R : PtR, R = putXE Q.at_ Q.S Q.sl (numM Q.cells) (compT i.s (varsX r)) := ⟨_, rfl⟩
        have HR := Lib.hid hR
        clear hR
        refine rest_chainP (fun u => u = W7) 0 6 (.soft 0 (.soft 1 (.soft 2 (.soft 3 (.soft 4 (.soft 5 .nil)))))) (.soft _ (.soft _ (.soft _ (.soft _ (.soft _ (.soft _ .nil)))))) ⟨rfl, ⟨rfl, ⟨rfl, ⟨rfl, ⟨rfl, ⟨rfl, trivial⟩⟩⟩⟩⟩⟩ (by kernel_rfl) (by kernel_rfl) (by kernel_rfl) (by kernel_rfl) (.inr (by kernel_rfl)) rfl ?_
        refine chainP_soft (a1 := ?ma6) (by kernel_rfl) (by kernel_rfl) ?mh6 ?mr6
        case mh6 =>
          intro u hu E hE
          subst hu
          go_wp2
          rfl
        refine chainP_nck _ _ rfl rfl rfl ?_
        simp only [Act.put, List.getElem?_toArray, List.getElem?_cons_succ, List.getElem?_cons_zero, Option.bind_some, List.setIfInBounds_toArray, List.set_cons_succ, List.set_cons_zero, Nat.reduceAdd]
        refine chainP_soft (a1 := ?ma7) (by kernel_rfl) (by kernel_rfl) ?mh7 ?mr7
        case mh7 =>
          intro u hu E hE
          subst hu
          go_wp2
          rfl
        refine chainP_soft (a1 := ?ma8) (by kernel_rfl) (by kernel_rfl) ?mh8 ?mr8
        case mh8 =>
          intro u hu E hE
          subst hu
          go_wp2
          rfl
        refine chainP_soft (a1 := ?ma9) (by kernel_rfl) (by kernel_rfl) ?mh9 ?mr9
        case mh9 =>
          intro u hu E hE
          subst hu
          go_wp2
          rfl
        refine chainP_soft (a1 := ?ma10) (by kernel_rfl) (by kernel_rfl) ?mh10 ?mr10
        case mh10 =>
          intro u hu E hE
          subst hu
          go_wp2
          rfl
        refine chainP_nil ?_
        clear c0 c1 c2 c3 c11 x0 x1 x2 x3
        have hT : IsTm W7 (fun b => b = g) (.agg #[.int .i64 4, .int .i64 0, .string i.s, .slice (some ⟨g, 0, none⟩) r r]) (compT i.s (varsX r)) := by
          have h := IsTm.mk' (w := W7) (P := fun b => b = g) (t := compT i.s (varsX r)) (a := some ⟨g, 0, none⟩) (cap := r) (by show IsSl _ _ (.slice _ (varsX r).length r) _; rw [varsX_len]; exact vFill_sl HC7.out.fill)
          have e : (compT i.s (varsX r)).args.length = r := varsX_len r
          rw [e] at h
          exact h
        have HT := Lib.hid hT
        clear hT
        refine rest_chainP (fun _ => True) 6 9 (.one 6 (.soft 7 (.soft 8 .nil))) (.one _ (.soft _ (.soft _ .nil))) ⟨rfl, ⟨rfl, ⟨rfl, trivial⟩⟩⟩ (by kernel_rfl) (by kernel_rfl) (by kernel_rfl) (by kernel_rfl) (.inr (by kernel_rfl)) trivial ?_
        refine chainP_one ?_
        intro E hE
        go_wp2_with (refine (law_PutV HC7.out.ex.law HI7.out HC7.out.map HC7.out.mO.1 (Nat.le_trans HC7.out.low.1 HC7.out.low.2.2.2) HT.out (fun b e => e ▸ HC7.out.gO.1) (by simp [compT, Tm.size, vars_size]; omega)).mono ?_; rintro e3 w3 ⟨rfl, D3, F, hl⟩)
        have HL := Lib.hid hl
        clear hl
        obtain ⟨f1, hf1⟩ : ∃ f, f = (putA Q.S (numM Q.cells) (compT i.s (varsX r))).1 := ⟨_, rfl⟩
        obtain ⟨f2, hf2⟩ : ∃ f, f = (putA Q.S (numM Q.cells) (compT i.s (varsX r))).2 := ⟨_, rfl⟩
        rw [← hf1, ← hf2]
        have HF := Lib.hid (And.intro hf1 hf2)
        clear hf1 hf2
        refine ⟨trivial, ?_⟩
        refine chainP_softv (.int .i64 f1) (by kernel_rfl) (by kernel_rfl) ?_ ?_
        · simp only [Act.put, List.getElem?_toArray, List.getElem?_cons_succ, List.getElem?_cons_zero, Option.bind_some, List.setIfInBounds_toArray, List.set_cons_succ, List.set_cons_zero, Nat.reduceAdd]
          intro u hu E hE
          go_wp2
          exact hE
        simp only [Act.put, List.getElem?_toArray, List.getElem?_cons_succ, List.getElem?_cons_zero, Option.bind_some, List.setIfInBounds_toArray, List.set_cons_succ, List.set_cons_zero, Nat.reduceAdd]
        refine chainP_softv (.int .i64 f2) (by kernel_rfl) (by kernel_rfl) ?_ ?_
        · simp only [Act.put, List.getElem?_toArray, List.getElem?_cons_succ, List.getElem?_cons_zero, Option.bind_some, List.setIfInBounds_toArray, List.set_cons_succ, List.set_cons_zero, Nat.reduceAdd]
          intro u hu E hE
          go_wp2
          exact hE
        simp only [Act.put, List.getElem?_toArray, List.getElem?_cons_succ, List.getElem?_cons_zero, Option.bind_some, List.setIfInBounds_toArray, List.set_cons_succ, List.set_cons_zero, Nat.reduceAdd]
        refine chainP_nil ?_
        refine rest_lineL 9 11 [_, _] rfl (by kernel_rfl) (by decide) (by decide) (by kernel_rfl) ?_
        go_wp2
        refine then_rest (rest_end (by decide) ?_)
        go_wp2
        go_ret2
        obtain ⟨g1, g2⟩ := HC7.out.put HL.out
        rw [HN0.out.2, ← HQ.out]
        unfold compX putXE
        rw [if_neg (fun h => h HE.out), HN0.out.2, ← HF.out.1, ← HF.out.2]
        exact ⟨rfl, D3, g1, g2⟩
  · intro E hE
    go_wp2
    refine ⟨below_new _ _, ?_⟩
    have hbU := below_new W0 (.cells #[.int .i64 0, .int .i64 0, .string ⟨#[]⟩, .slice none 0 0] 49 (0, 0))
    have hnU := heap_alloc_new W0 (.cells #[.int .i64 0, .int .i64 0, .string ⟨#[]⟩, .slice none 0 0] 49 (0, 0))
    have hzU : W0.heap.size < (W0.alloc (.cells #[.int .i64 0, .int .i64 0, .string ⟨#[]⟩, .slice none 0 0] 49 (0, 0))).heap.size := by simp
    generalize W0.alloc (.cells #[.int .i64 0, .int .i64 0, .string ⟨#[]⟩, .slice none 0 0] 49 (0, 0)) = wU at *
    refine chainP_one ?_
    intro E hE
    refine wpList_make_full _ rfl (.tmp 14) (.tmp 14) 47 rfl wU.heap.size 49 i0 _ 4 Try.underlying47 hti hz0 hz1 .i64 .i64 _ _ n rfl rfl rfl rfl (by rw [hz2]; omega) (by unfold maxLen; omega) (Nat.le_refl _) ?_
    intro UX hown hgr
    obtain ⟨row, hrow, hrs⟩ := own_row hown
    have hbA : Below wU.heap.size wU UX := (Below.refl _ _).grown hgr (Nat.le_refl _) (by simp)
    clear hown hgr
    refine hE _ _ ⟨hbU.trans (hbA.mono hbU.size), ?_⟩
    simp only [Act.put, List.getElem?_toArray, List.getElem?_cons_succ, List.getElem?_cons_zero, Option.bind_some, List.setIfInBounds_toArray, List.set_cons_succ, List.set_cons_zero, Nat.reduceAdd]
    refine chainP_soft (a1 := ?ma11) (by kernel_rfl) (by kernel_rfl) ?mh11 ?mr11
    case mh11 =>
      intro u hu E hE
      go_wp2
      rfl
    refine chainP_nil ?_
    have hbX := hbU.trans (hbA.mono hbU.size)
    obtain ⟨h4, s4, f4⟩ := HW0.out.below hbX
    have hzA : wU.heap.size < UX.heap.size := (Array.getElem?_eq_some_iff.1 hrow).1
    have HX4 := Lib.hid h4
    have HS4 := Lib.hid (HS0.out.trans s4)
    have HG4 := Lib.hid ((hbX.block gi lgi).trans HI3.out)
    have HGR := Lib.hid hrow
    have HTB := Lib.hid ((hbA.block W0.heap.size hzU).trans hnU)
    have HO := Lib.hid (And.intro (f4 wU.heap.size (by omega) hzA) (And.intro (f4 W0.heap.size (Nat.le_refl _) (by omega)) trivial))
    have HLO := Lib.hid (show w.heap.size ≤ wU.heap.size ∧ w.heap.size ≤ W0.heap.size ∧ wU.heap.size ≠ W0.heap.size ∧ gi ≠ W0.heap.size ∧ True from ⟨by have := HS0.out.size; omega, HS0.out.size, by omega, by omega, trivial⟩)
    clear hbU hnU hbA hbX hrow h4 s4 f4 hzA hzU HW0 HS0 HI3 hE
    generalize wU.heap.size = g at *
    generalize W0.heap.size = tb at *
    refine rest_lineL 7 8 [_] rfl (by kernel_rfl) (by decide) (by decide) (by kernel_rfl) ?_
    refine wpList_store_row rfl 49 (.tmp 6) (.tmp 16) rfl tb #[.int .i64 4, .int .i64 0, .string i.s, .slice (some ⟨g, 0, none⟩) n n] rfl rfl _ _ HTB.out size_term rfl (one4 _ _ _ _ _ _) ?_
    go_wp2
    refine then_rest (rest_end (by decide) ?_)
    have hbox := setRow_heap UX tb _ (#[.int .i64 4, .int .i64 0, .string i.s, .slice (some ⟨g, 0, none⟩) n n] : Array Value) _ _ HTB.out
    have hoth : ∀ b, b ≠ tb → (UX.setRow tb #[.int .i64 4, .int .i64 0, .string i.s, .slice (some ⟨g, 0, none⟩) n n]).heap[b]? = UX.heap[b]? := fun b hb => setRow_other _ _ _ _ hb
    have hk : Keeps UX (UX.setRow tb #[.int .i64 4, .int .i64 0, .string i.s, .slice (some ⟨g, 0, none⟩) n n]) (fun b => b = tb) := ⟨rfl, rfl, rfl, by simp, fun b _ hb => hoth b hb⟩
    have hx5 := HX4.out.own hk HO.out.2.1 (Nat.le_trans HLW.out HLO.out.2.1) (fun e => by have := HLV.out tb e; have := HLO.out; omega)
    have hs5 := HS4.out.own hk HLO.out.2.1
    have hgi5 := (hoth gi HLO.out.2.2.2.1).trans HG4.out
    have hrow5 := (hoth g HLO.out.2.2.1).trans HGR.out
    have HO5 := Lib.hid (And.intro (HO.out.1.keep hk.size) (HO.out.2.1.keep hk.size))
    clear hoth hk HX4 HS4 HG4 HO HTB HGR
    generalize UX.setRow tb #[.int .i64 4, .int .i64 0, .string i.s, .slice (some ⟨g, 0, none⟩) n n] = X at *
    have hbm := below_new X (.map #[] 0)
    obtain ⟨h6, s6, f6⟩ := hx5.below hbm
    have hst : ExRel w0 p rb qb k D lv L w g tb X.heap.size n i.s N a q S sl (.int .i64 ((0 : Nat) : Int)) (X.alloc (.map #[] 0)) :=
      ⟨0, 0, q, D, rfl, by omega, rfl, ⟨h6, hs5.trans s6, Fill.start ((hbm.block g HO5.out.1.2.2.2).trans hrow5) hrs, (hbm.block tb HO5.out.2.2.2.2).trans hbox, IMapB.made X, (s6.blk g HO5.out.1).1, (s6.blk tb HO5.out.2).1, f6 _ (Nat.le_refl _) (by simp), ⟨HLW.out, HLO.out.1, HLO.out.2.1, hs5.size⟩, ⟨HLO.out.2.2.1, by have := HO5.out.1.2.2.2; omega, by have := HO5.out.2.2.2.2; omega⟩, HLV.out⟩, Cod.sk_zero _, HA.out.2.2.2.1, by omega⟩
    have HST := Lib.hid hst
    obtain ⟨y0, y1, y2, y3⟩ := row4 hgi5
    rw [HN0.out.1] at y1
    have x3 := (row4 ((hbm.block tb HO5.out.2.2.2.2).trans hbox)).2.2.2
    clear hst hbm h6 s6 f6 hx5 hs5 hgi5 hrow5 hbox hrs
    go_wp2_with (refine wpList_imap_cap rfl 53 (.tmp 18) rfl _ _ Try.underlying53 n rfl ?_)
    clear y0 y1 y2 y3 x3
    generalize X.alloc (.map #[] 0) = WL at *
    generalize X.heap.size = mb at *
    go_loopw [23] (fun vi wr => ExRel w0 p rb qb k D lv L w g tb mb n i.s N a q S sl vi wr) (fun vi _ => n - (intOf vi).toNat)
    case atStart => exact HST.out
    case round =>
      clear HST
      obtain ⟨r, c, d, D1, rfl, hrn0, her, hcp, hc, hd, hcd⟩ := hrel
      have hps := HPS.out r c hc (by have := HA.out.2.2.2.2; omega) HA.out.1 HA.out.2.1 HA.out.2.2.1
      have hpe := hps.done her
      obtain ⟨Q, hQ⟩ : ∃ Q, Q = patsX (patX L N) r a S sl := ⟨_, rfl⟩
      rw [← hQ] at her hcp hps hpe
      by_cases hrn : r < n
      · obtain ⟨j1, d1, e1, e2, e3⟩ := sk_split _ 1 (n - r - 1) d (by rw [show 1 + (n - r - 1) = n - r by omega]; exact hd)
        rw [List.drop_drop] at e2
        have hjn := sk_join _ r 1 c j1 hc (by rw [List.drop_drop]; exact e1)
        obtain ⟨R, hR⟩ : ∃ R, R = patX L N Q.at_ Q.S Q.sl := ⟨_, rfl⟩
        have hstep := patsX_step (f := patX L N) hQ.symm hR.symm her
        have hcall := hP Q.at_ j1 Q.S Q.sl D1 wr hcp.ex hps.go.inv hps.slots (hps.len.trans HA.out.2.2.1) (by rw [hpe.1]; exact e1) (by have := HA.out.2.2.2.2; omega)
        rw [← hR] at hcall
        have HC := Lib.hid hcp
        have HCALL := Lib.hid hcall
        have HSTEP := Lib.hid hstep
        have HJ := Lib.hid (And.intro hjn (And.intro e2 (And.intro e3 (And.intro hpe.2.1 hcd))))
        have b1 : decide ((r : Int) < (n : Int)) = true := by simp; omega
        clear hps hpe her hcp hc hd hcd e1 e2 e3 hjn hR hQ hstep hcall hrn0
        by_cases he : R.err = 0
        · have b2 : (R.err != 0) = false := by simpa using he
          have HE := Lib.hid he
          clear he
          have hin0 : (0 : Int) ≤ (r : Int) := by omega
          have hin1 : (r : Int) < (n : Int) := by omega
          go_wp2_with (first
            | (go_at_call 28
               refine (HCALL.out).mono ?_
               rintro e3 w3 ⟨rfl, D3, h3, s3⟩
               have h4 := HC.out.did (Q' := ⟨Q.cells, 0, R.at_, R.S, R.sl⟩) h3 s3 rfl
               have x3 := (row4 h4.box).2.2.2
               obtain ⟨hth, h5⟩ := h4.fillPut hrn
               have HTH := Lib.hid hth
               have H5 := Lib.hid h5
               clear h3 s3 h4 hth h5)
            | (with_reducible show wpList _ _ _ (⟨none, .store _ (.tmp 39) _, _, _, _, _⟩ :: _) _ _
               refine wpList_store_mid rfl 49 (.tmp 39) (.tmp 38) rfl g (r * 4) #[.int .i64 1, .int .i64 r, .string ⟨#[]⟩, .slice none 0 0] rfl rfl HTH.out size_term (one4 _ _ _ _ _ _) ?_
               clear x3
               skip)
            | (with_reducible show wpList _ _ _ (⟨none, .mapUpdate _ _ _ _, _, _, _, _⟩ :: _) _ _
               refine wpList_imapb_set rfl 53 (.tmp 40) (.tmp 41) (.tmp 42) rfl _ _ _ Try.underlying53 Try.underlying2 mb (numM Q.cells) rfl H5.out.map r rfl R.cell rfl ?_
               intro w6 hm6 hg6))
          have h6 := H5.out.mapPut (cs := Q.cells ++ [R.cell]) hg6 (by rw [numM_snoc, HJ.out.2.2.2.1]; exact hm6)
          have hfin : patsX (patX L N) (r + 1) a S sl = ⟨Q.cells ++ [R.cell], 0, R.at_, R.S, R.sl⟩ := by rw [HSTEP.out, if_neg (fun h => h HE.out)]
          go_roundw
          case rel =>
            refine ⟨r + 1, c + j1, d1, D3, by go_num, by omega, by rw [hfin], by rw [hfin]; exact h6, HJ.out.1, ?_, by have := HJ.out.2.2; omega⟩
            rw [show a + (c + j1) = a + c + j1 by omega, show n - (r + 1) = n - r - 1 by omega]; exact HJ.out.2.1
          case measure => simp [intOf]; omega
        · have b2 : (R.err != 0) = true := by simpa using he
          have HE := Lib.hid he
          clear he
          go_wp2_with (refine (HCALL.out).mono ?_; rintro e3 w3 ⟨rfl, D3, h3, s3⟩)
          go_ret2
          have hfin : patsX (patX L N) i.a.toNat a S sl = ⟨Q.cells, R.err, R.at_, R.S, R.sl⟩ := by
            have e1 := HSTEP.out
            rw [if_pos HE.out] at e1
            rw [HN0.out.2, patsX_err (m := r + 1) (by rw [e1]; exact HE.out) n (by omega), e1]
          rw [hfin]
          unfold compX
          rw [if_pos HE.out]
          exact ⟨rfl, D3, h3, HC.out.st.trans s3⟩
      · obtain rfl : r = n := by omega
        have b1 : decide ((r : Int) < (r : Int)) = false := by simp
        have hcok := fun c hc => (hpe.2.2 c hc)
        have HQ := Lib.hid hQ
        have HE := Lib.hid her
        have HI7 := Lib.hid hps.go.inv
        have HC := Lib.hid hcp
        clear hps hpe her hcp hc hd hcd hQ hrn0 hcok
        go_upto_region 12 with fail
        refine wp_region_rest (by kernel_rfl) ?_
        have hd := (Below.refl wr.heap.size wr).drew
        have hc7 := HC.out.below hd
        have HC7 := Lib.hid hc7
        obtain ⟨c0, c1, c2, c3, c11⟩ := row12 hc7.ex.row
        obtain ⟨x0, x1, x2, x3⟩ := row4 hc7.box
        clear hd hc7 HC
        generalize wr.drew = W7 at *
        obtain ⟨R, hR⟩ : ∃ R : PtR, R = putXE Q.at_ Q.S Q.sl (numM Q.cells) (compT i.s (varsX r)) := ⟨_, rfl⟩
        have HR := Lib.hid hR
        clear hR
        refine rest_chainP (fun u => u = W7) 0 6 (.soft 0 (.soft 1 (.soft 2 (.soft 3 (.soft 4 (.soft 5 .nil)))))) (.soft _ (.soft _ (.soft _ (.soft _ (.soft _ (.soft _ .nil)))))) ⟨rfl, ⟨rfl, ⟨rfl, ⟨rfl, ⟨rfl, ⟨rfl, trivial⟩⟩⟩⟩⟩⟩ (by kernel_rfl) (by kernel_rfl) (by kernel_rfl) (by kernel_rfl) (.inr (by kernel_rfl)) rfl ?_
        refine chainP_soft (a1 := ?ma12) (by kernel_rfl) (by kernel_rfl) ?mh12 ?mr12
        case mh12 =>
          intro u hu E hE
          subst hu
          go_wp2
          rfl
        refine chainP_nck _ _ rfl rfl rfl ?_
        simp only [Act.put, List.getElem?_toArray, List.getElem?_cons_succ, List.getElem?_cons_zero, Option.bind_some, List.setIfInBounds_toArray, List.set_cons_succ, List.set_cons_zero, Nat.reduceAdd]
        refine chainP_soft (a1 := ?ma13) (by kernel_rfl) (by kernel_rfl) ?mh13 ?mr13
        case mh13 =>
          intro u hu E hE
          subst hu
          go_wp2
          rfl
        refine chainP_soft (a1 := ?ma14) (by kernel_rfl) (by kernel_rfl) ?mh14 ?mr14
        case mh14 =>
          intro u hu E hE
          subst hu
          go_wp2
          rfl
        refine chainP_soft (a1 := ?ma15) (by kernel_rfl) (by kernel_rfl) ?mh15 ?mr15
        case mh15 =>
          intro u hu E hE
          subst hu
          go_wp2
          rfl
        refine chainP_soft (a1 := ?ma16) (by kernel_rfl) (by kernel_rfl) ?mh16 ?mr16
        case mh16 =>
          intro u hu E hE
          subst hu
          go_wp2
          rfl
        refine chainP_nil ?_
        clear c0 c1 c2 c3 c11 x0 x1 x2 x3
        have hT : IsTm W7 (fun b => b = g) (.agg #[.int .i64 4, .int .i64 0, .string i.s, .slice (some ⟨g, 0, none⟩) r r]) (compT i.s (varsX r)) := by
          have h := IsTm.mk' (w := W7) (P := fun b => b = g) (t := compT i.s (varsX r)) (a := some ⟨g, 0, none⟩) (cap := r) (by show IsSl _ _ (.slice _ (varsX r).length r) _; rw [varsX_len]; exact vFill_sl HC7.out.fill)
          have e : (compT i.s (varsX r)).args.length = r := varsX_len r
          rw [e] at h
          exact h
        have HT := Lib.hid hT
        clear hT
        refine rest_chainP (fun _ => True) 6 9 (.one 6 (.soft 7 (.soft 8 .nil))) (.one _ (.soft _ (.soft _ .nil))) ⟨rfl, ⟨rfl, ⟨rfl, trivial⟩⟩⟩ (by kernel_rfl) (by kernel_rfl) (by kernel_rfl) (by kernel_rfl) (.inr (by kernel_rfl)) trivial ?_
        refine chainP_one ?_
        intro E hE
        go_wp2_with (refine (law_PutV HC7.out.ex.law HI7.out HC7.out.map HC7.out.mO.1 (Nat.le_trans HC7.out.low.1 HC7.out.low.2.2.2) HT.out (fun b e => e ▸ HC7.out.gO.1) (by simp [compT, Tm.size, vars_size]; omega)).mono ?_; rintro e3 w3 ⟨rfl, D3, F, hl⟩)
        have HL := Lib.hid hl
        clear hl
        obtain ⟨f1, hf1⟩ : ∃ f, f = (putA Q.S (numM Q.cells) (compT i.s (varsX r))).1 := ⟨_, rfl⟩
        obtain ⟨f2, hf2⟩ : ∃ f, f = (putA Q.S (numM Q.cells) (compT i.s (varsX r))).2 := ⟨_, rfl⟩
        rw [← hf1, ← hf2]
        have HF := Lib.hid (And.intro hf1 hf2)
        clear hf1 hf2
        refine ⟨trivial, ?_⟩
        refine chainP_softv (.int .i64 f1) (by kernel_rfl) (by kernel_rfl) ?_ ?_
        · simp only [Act.put, List.getElem?_toArray, List.getElem?_cons_succ, List.getElem?_cons_zero, Option.bind_some, List.setIfInBounds_toArray, List.set_cons_succ, List.set_cons_zero, Nat.reduceAdd]
          intro u hu E hE
          go_wp2
          exact hE
        simp only [Act.put, List.getElem?_toArray, List.getElem?_cons_succ, List.getElem?_cons_zero, Option.bind_some, List.setIfInBounds_toArray, List.set_cons_succ, List.set_cons_zero, Nat.reduceAdd]
        refine chainP_softv (.int .i64 f2) (by kernel_rfl) (by kernel_rfl) ?_ ?_
        · simp only [Act.put, List.getElem?_toArray, List.getElem?_cons_succ, List.getElem?_cons_zero, Option.bind_some, List.setIfInBounds_toArray, List.set_cons_succ, List.set_cons_zero, Nat.reduceAdd]
          intro u hu E hE
          go_wp2
          exact hE
        simp only [Act.put, List.getElem?_toArray, List.getElem?_cons_succ, List.getElem?_cons_zero, Option.bind_some, List.setIfInBounds_toArray, List.set_cons_succ, List.set_cons_zero, Nat.reduceAdd]
        refine chainP_nil ?_
        refine rest_lineL 9 11 [_, _] rfl (by kernel_rfl) (by decide) (by decide) (by kernel_rfl) ?_
        go_wp2
        refine then_rest (rest_end (by decide) ?_)
        go_wp2
        go_ret2
        obtain ⟨g1, g2⟩ := HC7.out.put HL.out
        rw [HN0.out.2, ← HQ.out]
        unfold compX putXE
        rw [if_neg (fun h => h HE.out), HN0.out.2, ← HF.out.1, ← HF.out.2]
        exact ⟨rfl, D3, g1, g2⟩
end Go.Proofs.Ytcbijikalfodnaa.Tms
