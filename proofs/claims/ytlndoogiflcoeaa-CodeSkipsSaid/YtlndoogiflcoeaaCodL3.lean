/-
  The law CodeSkips, walked over the program: whatever the two codes, it answers true.
-/
import Derived.Test.YtlndoogiflcoeaaCodL2
namespace Go.Proofs.Ytlndoogiflcoeaa.Cod
open Go Go.RowKit Go.Proofs.Ytlndoogiflcoeaa.Reg

/-- an append to an empty slice without room: a new block, nothing that was there turns -/
theorem append_fresh {P : Program} {ops : Array Oper} {rest : List Oper} {o : Oper} {a : Act} {w : World} {Q : Exit → Act → World → Prop} (hgd : o.guard = none) (s x : Operand) (t : TypeId)
    (ho : o.op = .call { callee := .builtin .append, args := #[s, x], argTypes := #[t, t] })
    (e : TypeId) (i : TypeInfo) (z : Value) (size bytes : Nat) (ht : P.underlying t = some (.slice e)) (hi : P.info? e = some i) (hz : i.zero = some z)
    (hsize : i.size = size) (hby : i.bytes = bytes) (hzs : z.cells.size = size)
    (b : Addr) (hs : a.eval s = .slice (some b) 0 0)
    (ad : Addr) (m c : Nat) (news : List Value) (hx : a.eval x = .slice (some ad) m c) (hl : news.length = m * size) (hnews : ∀ j u, news[j]? = some u → w.cell? (ad.add j) = some u)
    (hm : 0 < m) (h63 : m ≤ maxLen) (hbytes : m * bytes ≤ 140737488355328)
    (h : ∀ v' w', w'.ownsRow w.heap.size e size v' m news → Below w.heap.size w w' → wpList P ops Q rest (a.put o.dst v') w') : wpList P ops Q (o :: rest) a w := by
  subst hsize hby
  refine wpList_plain hgd fun K hK => ?_
  have hfit : Builtin.nextslicecap (0 + m) 0 * i.bytes ≤ 281474976710656 := by
    have : Builtin.nextslicecap (0 + m) 0 = 0 + m := by unfold Builtin.nextslicecap; rw [if_pos (by omega)]
    rw [this, Nat.zero_add]; omega
  have hr := run_append_grow (P := P) w t o.type e i z ht hi hz b 0 0 [] (by simp) (by simp) ad m c news hl hnews (by omega) (by simp only [maxLen] at h63; omega) hfit
  rw [Nat.zero_add] at hr
  unfold Oper.wp execOp
  simp only [ho, resolve, invoke, builtin, Sem.run_bind, Sem.run_pure, Result.andThen_ok, List.map_toArray, List.map_cons, List.map_nil, hs, hx, hr]
  refine hK _ _ (h _ _ ⟨hl, .inr ⟨w.heap.size, _, _, rfl, Nat.le_refl _, heap_alloc_new w.drew _, grownCap_ge w m 0 e, grownCap_le_maxLen w _ _ e h63, ?_, ?_⟩⟩ ((Below.refl _ _).drew.alloc (Nat.le_refl _) _))
  · have hge := grownCap_ge w m 0 e
    simp only [Array.size_append, List.size_toArray, List.length_nil, size_zeroCells, hzs, hl, Nat.zero_add, ← Nat.add_mul]
    congr 1; omega
  · simp only [Array.toList_append, Array.empty_append, ← hl]
    simp

theorem duo {u : World} {B b4 b5 n n' : Nat} {z4 z5 : Array Value} {T E : TypeId} {l1 l2 : Value} {xs ys : List Value} (h4 : u.heap[b4]? = some (.cells z4 T (0, 0))) (h5 : u.heap[b5]? = some (.cells z5 T (0, 0)))
    (n45 : b4 ≠ b5) (hB4 : B ≤ b4) (hB5 : B ≤ b5) (hTE : E ≠ T) (o1 : u.ownsRow B E 4 l1 n xs) (o2 : u.ownsRow B E 4 l2 n' ys) (c4 c5 : Array Value) :
    ((u.setRow b4 c4).setRow b5 c5).heap[b4]? = some (.cells c4 T (0, 0)) ∧ ((u.setRow b4 c4).setRow b5 c5).heap[b5]? = some (.cells c5 T (0, 0)) ∧
    ((u.setRow b4 c4).setRow b5 c5).ownsRow B E 4 l1 n xs ∧ ((u.setRow b4 c4).setRow b5 c5).ownsRow B E 4 l2 n' ys ∧ Below B u ((u.setRow b4 c4).setRow b5 c5) ∧ ((u.setRow b4 c4).setRow b5 c5).heap.size = u.heap.size := by
  have key : ∀ k, k ≠ b4 → k ≠ b5 → ((u.setRow b4 c4).setRow b5 c5).heap[k]? = u.heap[k]? := fun k h1 h2 => by
    rw [setRow_other _ _ _ _ h2, setRow_other _ _ _ _ h1]
  have hsz : ((u.setRow b4 c4).setRow b5 c5).heap.size = u.heap.size := by simp
  refine ⟨?_, ?_, ?_, ?_, ⟨rfl, rfl, rfl, by rw [hsz]; exact Nat.le_refl _, fun k hk => key k (by omega) (by omega)⟩, hsz⟩
  · rw [setRow_other _ _ _ _ n45]; exact setRow_heap _ _ _ _ _ _ h4
  · exact setRow_heap _ _ _ _ _ _ (by rw [setRow_other _ _ _ _ (Ne.symm n45)]; exact h5)
  · exact owns_at o1 fun g hg => key g (owns_ne o1 h4 hTE g hg) (owns_ne o1 h5 hTE g hg)
  · exact owns_at o2 fun g hg => key g (owns_ne o2 h4 hTE g hg) (owns_ne o2 h5 hTE g hg)

theorem flat_append (L M : List Ins) : flat (L ++ M) = flat L ++ flat M := by unfold flat; exact List.flatMap_append

/-- where a pattern of the second one ends, behind the first -/
theorem skip_behind {L M : List Ins} {q : Nat} (h : 0 ≤ skip M q) : skip (L ++ M) ((L.length + q : Nat) : Int) = L.length + skip M q := by
  rw [skip_nat] at h ⊢
  rw [skip_nat]
  unfold skA at h ⊢
  rw [List.drop_append]
  rw [List.drop_eq_nil_of_le (by omega), List.nil_append, Nat.add_sub_cancel_left]
  cases h1 : sk (M.drop q) 1 with
  | none => simp [h1] at h
  | some j => simp; omega
/-- in a code that may be, each place begins a pattern -/
theorem sk_some : ∀ (l : List Ins) (n j : Nat), sk l n = some j → ∀ q, q < j → ∃ k, sk (l.drop q) 1 = some k
  | l, 0, j, h, q, hq => by rw [sk_zero] at h; cases h; omega
  | [], n + 1, j, h, q, hq => by simp [sk] at h
  | i :: l, n + 1, j, h, 0, hq => by
    unfold sk at h
    cases hb : i.bad with
    | true => simp [hb] at h
    | false =>
      simp only [hb, Bool.false_eq_true, if_false] at h
      cases h1 : sk l (n + i.ar) with
      | none => simp [h1] at h
      | some q1 =>
        have : ∃ k, sk l (0 + i.ar) = some k := less_some l (n + i.ar) q1 h1 _ (by omega)
        obtain ⟨k, hk⟩ := this
        rw [Nat.zero_add] at hk
        exact ⟨k + 1, by rw [List.drop_zero]; unfold sk; simp [hb, hk]⟩
  | i :: l, n + 1, j, h, q + 1, hq => by
    unfold sk at h
    cases hb : i.bad with
    | true => simp [hb] at h
    | false =>
      simp only [hb, Bool.false_eq_true, if_false] at h
      cases h1 : sk l (n + i.ar) with
      | none => simp [h1] at h
      | some q1 =>
        simp only [h1, Option.map_some, Option.some.injEq] at h
        exact sk_some l _ q1 h1 q (by omega)
where
  less_some : ∀ (l : List Ins) (n j : Nat), sk l n = some j → ∀ m, m ≤ n → ∃ k, sk l m = some k
    | l, n, j, h, 0, hm => ⟨0, sk_zero l⟩
    | [], n, j, h, m + 1, hm => by
      cases n with
      | zero => omega
      | succ n => simp [sk] at h
    | i :: l, n, j, h, m + 1, hm => by
      cases n with
      | zero => omega
      | succ n =>
        unfold sk at h
        cases hb : i.bad with
        | true => simp [hb] at h
        | false =>
          simp only [hb, Bool.false_eq_true, if_false] at h
          cases h1 : sk l (n + i.ar) with
          | none => simp [h1] at h
          | some q1 =>
            obtain ⟨k, hk⟩ := less_some l _ q1 h1 (m + i.ar) (by omega)
            exact ⟨k + 1, by unfold sk; simp [hb, hk]⟩

theorem pfw_cover {L : List Ins} : ∀ {k p : Nat}, pfw L k = some p → ∀ q, q < p → 0 ≤ skip L q
  | 0, p, h, q, hq => by simp [pfw] at h; omega
  | k + 1, p, h, q, hq => by
    cases h1 : pfw L k with
    | none => rw [pfw_none h1 (Nat.le_succ k)] at h; cases h
    | some r =>
      by_cases hqr : q < r
      · exact pfw_cover h1 q hqr
      · rw [pfw_succ h1] at h
        split at h
        · cases h
        · rename_i hs
          simp at h
          subst h
          rw [skip_nat] at hq hs ⊢
          unfold skA at hq hs ⊢
          cases h2 : sk (L.drop r) 1 with
          | none => simp [h2] at hs
          | some j =>
            simp only [h2] at hq
            obtain ⟨k', hk'⟩ := sk_some _ _ _ h2 (q - r) (by omega)
            rw [List.drop_drop, show r + (q - r) = q from by omega] at hk'
            rw [hk']
            simp; omega
theorem Fine.each {c : Cod} {a : Nat} (h : Fine c a) (q : Nat) (hq : q < c.l.length) : 0 ≤ skip c.l q ∧ (q : Int) < skip c.l q ∧ skip c.l q ≤ c.l.length :=
  have h0 := pfw_cover h.last q hq
  ⟨h0, (skip_gt h0).1, skip_hi _ _⟩

theorem flat_one (L : List Ins) : ∀ u ∈ flat L, u.oneCell' = true := by
  intro u hu
  unfold flat at hu
  obtain ⟨i, _, hi⟩ := List.mem_flatMap.1 hu
  exact cells_one i u hi
def NilSl (v : Value) : Prop := ∃ g, v = .slice (some ⟨g, 0, none⟩) 0 0
theorem owns_form1 {w : World} {base : Nat} {e : TypeId} {size : Nat} {v : Value} {n : Nat} {xs : List Value} (h : w.ownsRow base e size v n xs) (hn : 0 < n) : ∃ g cap, v = .slice (some ⟨g, 0, none⟩) n cap := by
  rcases h.2 with ⟨_, h0⟩ | ⟨g, cp, cur, h0, _⟩
  · omega
  · exact ⟨g, cp, h0⟩
theorem both_sl {w : World} {base : Nat} {e : TypeId} {v : Value} {L M : List Ins} (h : w.ownsRow base e 4 v (L.length + M.length) (flat L ++ flat M)) : InsSl w v (L ++ M) := by
  rw [← flat_append, ← List.length_append] at h
  exact insSl_of_owns h

def SlcRel (n : Nat) (W : World) (c : Value) (wr : World) : Prop := ∃ k : Nat, k ≤ n ∧ c = .int .i64 k ∧ Below W.heap.size W wr

set_option maxRecDepth 100000 in
set_option maxHeartbeats 3200000 in
theorem law_skips (c d : Cod) (v v' : Value) (w : World) (hv : InsSl w v c.l) (hv' : InsSl w v' d.l) :
    Calls Try.prog 7 #[codVal c v, codVal d v'] w (Says true w) := by
  obtain ⟨aa, cap, rfl⟩ := hv.form
  obtain ⟨ad, capd, rfl⟩ := hv'.form
  obtain ⟨nm, ar, sl, bo, L⟩ := c
  obtain ⟨nm', ar', sl', bo', M⟩ := d
  dsimp only at *
  obtain ⟨t0, t1, tsz, tbl⟩ := two w (.cells #[.string nm, .int .i64 ar, .int .i64 sl, .int .i64 bo, .slice aa L.length cap] 41) (.cells #[.string nm', .int .i64 ar', .int .i64 sl', .int .i64 bo', .slice ad M.length capd] 41)
  have HV := Lib.hid hv
  have HV' := Lib.hid hv'
  have T0 := Lib.hid t0
  have T1 := Lib.hid t1
  have TB := Lib.hid tbl
  have hszW : w.heap.size + 1 < ((w.alloc (.cells #[.string nm, .int .i64 ar, .int .i64 sl, .int .i64 bo, .slice aa L.length cap] 41)).alloc (.cells #[.string nm', .int .i64 ar', .int .i64 sl', .int .i64 bo', .slice ad M.length capd] 41)).heap.size := by omega
  clear hv hv' t0 t1 tsz tbl
  go_enter Try.func7, Try.ntmps7
  go_wp2_with fail
  generalize ((w.alloc (.cells #[.string nm, .int .i64 ar, .int .i64 sl, .int .i64 bo, .slice aa L.length cap] 41)).alloc (.cells #[.string nm', .int .i64 ar', .int .i64 sl', .int .i64 bo', .slice ad M.length capd] 41)) = W at *
  refine (alive_any _).mono ?_
  rintro e w1 ⟨rfl, hb1⟩
  have HW : Hid (∀ u, Below w1.heap.size w1 u → Below w.heap.size w u) := Lib.hid fun u hu => (TB.out.trans (hb1.mono TB.out.size)).trans (hu.mono (by have := hb1.size; have := TB.out.size; omega))
  have HC : Hid (∀ u, Below w1.heap.size w1 u → u.heap[w.heap.size]? = some (.cells #[.string nm, .int .i64 ar, .int .i64 sl, .int .i64 bo, .slice aa L.length cap] 41 (0, 0))) := Lib.hid fun u hu => (hu.block _ (by have := hb1.size; omega)).trans ((hb1.block _ (by omega)).trans T0.out)
  have HD : Hid (∀ u, Below w1.heap.size w1 u → u.heap[w.heap.size + 1]? = some (.cells #[.string nm', .int .i64 ar', .int .i64 sl', .int .i64 bo', .slice ad M.length capd] 41 (0, 0))) := Lib.hid fun u hu => (hu.block _ (by have := hb1.size; omega)).trans ((hb1.block _ (by omega)).trans T1.out)
  have hlt1 : w.heap.size + 1 < w1.heap.size := by have := hb1.size; omega
  clear hb1
  have x4 := (row5 (HC.out w1 (Below.refl _ _))).2.2.2.2
  have y4 := (row5 (HD.out w1 (Below.refl _ _))).2.2.2.2
  by_cases hl1 : 500 < L.length
  · go_wp2
    go_ret
    exact says rfl (HW.out _ (Below.refl _ _))
  by_cases hl2 : 500 < M.length
  · go_wp2
    go_ret
    exact says rfl (HW.out _ (Below.refl _ _))
  clear x4 y4
  have x4 := (row5 (HC.out w1 (Below.refl _ _))).2.2.2.2
  have y4 := (row5 (HD.out w1 (Below.refl _ _))).2.2.2.2
  go_wp2
  refine wp_region_rest (by kernel_rfl) ?_
  have HKd : Hid (Below w1.heap.size w1 w1.drew) := Lib.hid (Below.refl _ _).drew
  clear x4 y4
  generalize w1.drew = W0 at *
  refine rest_ops 0 6 97 (fun j v u => match j with | 0 => v = codVal ⟨nm, ar, sl, bo, L⟩ (.slice aa L.length cap) | 1 => OwnCod W0.heap.size 54 ⟨nm, ar, sl, bo, L⟩ v u | 2 => v = codVal ⟨nm', ar', sl', bo', M⟩ (.slice ad M.length capd) | 3 => OwnCod W0.heap.size 54 ⟨nm', ar', sl', bo', M⟩ v u | 4 => NewVar W0.heap.size #[.string ⟨#[]⟩, .int .i64 0, .int .i64 0, .int .i64 0, .slice none 0 0] 44 v u | 5 => NewVar W0.heap.size #[.string ⟨#[]⟩, .int .i64 0, .int .i64 0, .int .i64 0, .slice none 0 0] 44 v u | _ => True) (fun j => match j with | 4 => ptrBlk | 5 => ptrBlk | _ => fun _ => none) (by kernel_rfl) (by kernel_rfl) rfl (.inr (by kernel_rfl)) ?hS ?hop ?_
  case hS =>
    intro j v u u' hkj hjn h hb
    match j, hkj, hjn, h with
    | 0, _, _, h => exact h
    | 1, _, _, h => exact h.below hb
    | 2, _, _, h => exact h
    | 3, _, _, h => exact h.below hb
    | 4, _, _, h => exact h.below hb
    | 5, _, _, h => exact h.below hb
    | q + 6, _, hq, _ => exact absurd hq (by omega)
  case hop =>
    refine ⟨fun v u hu hs Q' hQ => ?_, fun v u hu hs Q' hQ => ?_, fun v u hu hs Q' hQ => ?_, fun v u hu hs Q' hQ => ?_, fun v u hu hs Q' hQ => ?_, fun v u hu hs Q' hQ => ?_, trivial⟩
    · simp only [putAll, dstOf]
      have hK := HKd.out.trans (hu.mono HKd.out.size)
      have x := row5 (HC.out u hK)
      have x0 := x.1
      have x1 := x.2.1
      have x2 := x.2.2.1
      have x3 := x.2.2.2.1
      have x4 := x.2.2.2.2
      have y := row5 (HD.out u hK)
      have y0 := y.1
      have y1 := y.2.1
      have y2 := y.2.2.1
      have y3 := y.2.2.2.1
      have y4 := y.2.2.2.2
      clear x y
      go_wp2
      exact ⟨rfl, Below.refl _ _, rfl, fun _ h => nomatch h⟩
    · simp only [putAll, dstOf]
      have s_0 : v 0 = codVal ⟨nm, ar, sl, bo, L⟩ (.slice aa L.length cap) := hs 0 (by kernel_rfl) (by decide) (by decide)
      have hK := HKd.out.trans (hu.mono HKd.out.size)
      have x := row5 (HC.out u hK)
      have x0 := x.1
      have x1 := x.2.1
      have x2 := x.2.2.1
      have x3 := x.2.2.2.1
      have x4 := x.2.2.2.2
      have y := row5 (HD.out u hK)
      have y0 := y.1
      have y1 := y.2.1
      have y2 := y.2.2.1
      have y3 := y.2.2.2.1
      have y4 := y.2.2.2.2
      clear x y
      go_wp2_with (go_at_call 24; refine (to_own ⟨nm, ar, sl, bo, L⟩ _ _ (HV.out.below (HW.out u hK)) (by dsimp only; omega)).mono ?_; rintro e w6 ⟨vf, rfl, ho, hb6⟩)
      exact ⟨rfl, hb6, ⟨vf, rfl, owns_lower hu.size ho⟩, fun _ h => nomatch h⟩
    · simp only [putAll, dstOf]
      have hK := HKd.out.trans (hu.mono HKd.out.size)
      have x := row5 (HC.out u hK)
      have x0 := x.1
      have x1 := x.2.1
      have x2 := x.2.2.1
      have x3 := x.2.2.2.1
      have x4 := x.2.2.2.2
      have y := row5 (HD.out u hK)
      have y0 := y.1
      have y1 := y.2.1
      have y2 := y.2.2.1
      have y3 := y.2.2.2.1
      have y4 := y.2.2.2.2
      clear x y
      go_wp2
      exact ⟨rfl, Below.refl _ _, rfl, fun _ h => nomatch h⟩
    · simp only [putAll, dstOf]
      have s_1 : OwnCod W0.heap.size 54 ⟨nm, ar, sl, bo, L⟩ (v 1) u := hs 1 (by kernel_rfl) (by decide) (by decide)
      have s_2 : v 2 = codVal ⟨nm', ar', sl', bo', M⟩ (.slice ad M.length capd) := hs 2 (by kernel_rfl) (by decide) (by decide)
      have hK := HKd.out.trans (hu.mono HKd.out.size)
      have x := row5 (HC.out u hK)
      have x0 := x.1
      have x1 := x.2.1
      have x2 := x.2.2.1
      have x3 := x.2.2.2.1
      have x4 := x.2.2.2.2
      have y := row5 (HD.out u hK)
      have y0 := y.1
      have y1 := y.2.1
      have y2 := y.2.2.1
      have y3 := y.2.2.2.1
      have y4 := y.2.2.2.2
      clear x y
      go_wp2_with (go_at_call 24; refine (to_own ⟨nm', ar', sl', bo', M⟩ _ _ (HV'.out.below (HW.out u hK)) (by dsimp only; omega)).mono ?_; rintro e w6 ⟨vf, rfl, ho, hb6⟩)
      exact ⟨rfl, hb6, ⟨vf, rfl, owns_lower hu.size ho⟩, fun _ h => nomatch h⟩
    · simp only [putAll, dstOf]
      have hK := HKd.out.trans (hu.mono HKd.out.size)
      have x := row5 (HC.out u hK)
      have x0 := x.1
      have x1 := x.2.1
      have x2 := x.2.2.1
      have x3 := x.2.2.2.1
      have x4 := x.2.2.2.2
      have y := row5 (HD.out u hK)
      have y0 := y.1
      have y1 := y.2.1
      have y2 := y.2.2.1
      have y3 := y.2.2.2.1
      have y4 := y.2.2.2.2
      clear x y
      go_wp2
      exact NewVar.made hu rfl rfl
    · simp only [putAll, dstOf]
      have hK := HKd.out.trans (hu.mono HKd.out.size)
      have x := row5 (HC.out u hK)
      have x0 := x.1
      have x1 := x.2.1
      have x2 := x.2.2.1
      have x3 := x.2.2.2.1
      have x4 := x.2.2.2.2
      have y := row5 (HD.out u hK)
      have y0 := y.1
      have y1 := y.2.1
      have y2 := y.2.2.1
      have y3 := y.2.2.2.1
      have y4 := y.2.2.2.2
      clear x y
      go_wp2
      exact NewVar.made hu rfl rfl
  intro v u hu hs hap
  have s_0 : v 0 = codVal ⟨nm, ar, sl, bo, L⟩ (.slice aa L.length cap) := hs 0 (by decide) (by decide)
  have s_1 : OwnCod W0.heap.size 54 ⟨nm, ar, sl, bo, L⟩ (v 1) u := hs 1 (by decide) (by decide)
  have s_2 : v 2 = codVal ⟨nm', ar', sl', bo', M⟩ (.slice ad M.length capd) := hs 2 (by decide) (by decide)
  have s_3 : OwnCod W0.heap.size 54 ⟨nm', ar', sl', bo', M⟩ (v 3) u := hs 3 (by decide) (by decide)
  obtain ⟨b_4, s_4, nb_4, nh_4⟩ : NewVar W0.heap.size #[.string ⟨#[]⟩, .int .i64 0, .int .i64 0, .int .i64 0, .slice none 0 0] 44 (v 4) u := hs 4 (by decide) (by decide)
  obtain ⟨b_5, s_5, nb_5, nh_5⟩ : NewVar W0.heap.size #[.string ⟨#[]⟩, .int .i64 0, .int .i64 0, .int .i64 0, .slice none 0 0] 44 (v 5) u := hs 5 (by decide) (by decide)
  simp only [putAll, dstOf]
  obtain ⟨l1, e1, o1⟩ := s_1
  obtain ⟨l2, e2, o2⟩ := s_3
  have n45 : b_4 ≠ b_5 := fun e => hap 4 5 (by decide) (by decide) (by decide) (by decide) (by decide) b_4 (by rw [s_4]; rfl) (by rw [s_5, e]; rfl)
  clear hap hs
  obtain ⟨a1, cap1, rfl⟩ := owns_form o1
  obtain ⟨a2, cap2, rfl⟩ := owns_form o2
  dsimp only at o1 o2
  have hT := duo nh_4 nh_5 n45 nb_4 nb_5 (by decide) o1 o2 #[.string nm, .int .i64 ar, .int .i64 sl, .int .i64 bo, .slice a1 L.length cap1] #[.string nm', .int .i64 ar', .int .i64 sl', .int .i64 bo', .slice a2 M.length cap2]
  refine rest_line' 6 8 (by kernel_rfl) (by decide) (by decide) (by kernel_rfl) ?_
  simp only [List.drop_succ_cons, List.drop_zero, Nat.reduceSub, List.take_succ_cons, List.take_zero]
  simp only [Act.put, List.getElem?_toArray, List.getElem?_cons_succ, List.getElem?_cons_zero, Option.bind_some, List.setIfInBounds_toArray, List.set_cons_succ, List.set_cons_zero, Nat.reduceAdd]
  refine wpList_store_row rfl 44 (.tmp 5) (.tmp 24) rfl b_4 #[.string nm, .int .i64 ar, .int .i64 sl, .int .i64 bo, .slice a1 L.length cap1] s_4 e1 _ _ nh_4 size_code rfl (one5 _ _ _ _ _ _ _) ?_
  refine wpList_store_row rfl 44 (.tmp 6) (.tmp 26) rfl b_5 #[.string nm', .int .i64 ar', .int .i64 sl', .int .i64 bo', .slice a2 M.length cap2] s_5 e2 _ _ ((setRow_other _ _ _ _ (Ne.symm n45)).trans nh_5) size_code rfl (one5 _ _ _ _ _ _ _) ?_
  refine wpList_nil (then_rest (rest_end (by decide) ?_))
  simp only [Act.put]
  have HKu : Hid (Below w.heap.size w u) := Lib.hid (HW.out _ (HKd.out.trans (hu.mono HKd.out.size)))
  have hWw : w.heap.size ≤ W0.heap.size := by have := HKd.out.size; omega
  have hWu : W0.heap.size ≤ u.heap.size := hu.size
  generalize ((u.setRow b_4 #[.string nm, .int .i64 ar, .int .i64 sl, .int .i64 bo, .slice a1 L.length cap1]).setRow b_5 #[.string nm', .int .i64 ar', .int .i64 sl', .int .i64 bo', .slice a2 M.length cap2]) = U at *
  have HUw : Hid (∀ q, Below U.heap.size U q → Below w.heap.size w q) := Lib.hid fun q hq => (HKu.out.trans (hT.2.2.2.2.1.mono hWw)).trans (hq.mono (by have := hT.2.2.2.2.2; omega))
  have HX : Hid (∀ q, Below U.heap.size U q → q.heap[b_4]? = some (.cells #[.string nm, .int .i64 ar, .int .i64 sl, .int .i64 bo, .slice a1 L.length cap1] 44 (0, 0))) := Lib.hid fun q hq => (hq.block _ (Array.getElem?_eq_some_iff.1 hT.1).1).trans hT.1
  have HY : Hid (∀ q, Below U.heap.size U q → q.heap[b_5]? = some (.cells #[.string nm', .int .i64 ar', .int .i64 sl', .int .i64 bo', .slice a2 M.length cap2] 44 (0, 0))) := Lib.hid fun q hq => (hq.block _ (Array.getElem?_eq_some_iff.1 hT.2.1).1).trans hT.2.1
  have HO1 : Hid (∀ q, Below U.heap.size U q → q.ownsRow W0.heap.size 54 4 (.slice a1 L.length cap1) L.length (flat L)) := Lib.hid fun q hq => owns_below hT.2.2.1 hq
  have HO2 : Hid (∀ q, Below U.heap.size U q → q.ownsRow W0.heap.size 54 4 (.slice a2 M.length cap2) M.length (flat M)) := Lib.hid fun q hq => owns_below hT.2.2.2.1 hq
  clear hT o1 o2 nh_4 nh_5 hu HKu
  have x := row5 (HX.out U (Below.refl _ _))
  have x0 := x.1
  have x1 := x.2.1
  have x2 := x.2.2.1
  have x3 := x.2.2.2.1
  have x4 := x.2.2.2.2
  clear x e1 e2 s_0 s_2
  go_wp2_with fail
  refine (go_check ⟨nm, ar, sl, bo, L⟩ _ _ (insSl_of_owns (HO1.out U (Below.refl _ _)))).mono ?_
  rintro e w3 ⟨rfl, hb3⟩
  have HB3 := Lib.hid hb3
  clear hb3 x0 x1 x2 x3 x4
  by_cases hck : check ⟨nm, ar, sl, bo, L⟩ = 0
  case neg =>
    have hck' : (check ⟨nm, ar, sl, bo, L⟩ != 0) = true := by simpa using hck
    clear hck
    go_wp2
    go_ret
    exact says rfl (HUw.out _ HB3.out)
  obtain ⟨a, hfine⟩ := fine_of hck
  rw [hck]
  clear hck
  have y := row5 (HY.out w3 HB3.out)
  have y0 := y.1
  have y1 := y.2.1
  have y2 := y.2.2.1
  have y3 := y.2.2.2.1
  have y4 := y.2.2.2.2
  clear y
  go_wp2_with fail
  refine (go_check ⟨nm', ar', sl', bo', M⟩ _ _ (insSl_of_owns (HO2.out w3 HB3.out))).mono ?_
  rintro e w4 ⟨rfl, hb4⟩
  have HB4 := Lib.hid (HB3.out.trans (hb4.mono HB3.out.size))
  clear hb4 y0 y1 y2 y3 y4
  by_cases hck : check ⟨nm', ar', sl', bo', M⟩ = 0
  case neg =>
    have hck' : (check ⟨nm', ar', sl', bo', M⟩ != 0) = true := by simpa using hck
    clear hck
    go_wp2
    go_ret
    exact says rfl (HUw.out _ HB4.out)
  obtain ⟨a', hfine'⟩ := fine_of hck
  rw [hck]
  clear hck
  obtain rfl : bo = (a : Int) := hfine.body.symm
  obtain rfl : bo' = (a' : Int) := hfine'.body.symm
  have hposL : 0 < L.length := hfine.ne
  have hposM : 0 < M.length := hfine'.ne
  have hal : a ≤ L.length := pfw_le hfine.pats
  have hal' : a' ≤ M.length := pfw_le hfine'.pats
  have hends := hfine.ends
  have hends' := hfine'.ends
  dsimp only at hends hends'
  have q1 : skip (L ++ M) (a : Int) = L.length := by rw [skip_append hal (by rw [hends]; omega), hends]
  have q2 : skip (L ++ M) ((L.length : Int) + a') = (L.length : Int) + M.length := by
    have := skip_behind (L := L) (M := M) (q := a') (by rw [hends']; omega)
    rw [hends'] at this
    push_cast at this
    exact this
  have q3 : ∀ q : Nat, q < M.length → 0 ≤ skip M q ∧ (q : Int) < skip M q ∧ skip M q ≤ M.length ∧ skip (L ++ M) ((L.length : Int) + q) = (L.length : Int) + skip M q := fun q hq => by
    have h1 := hfine'.each q hq
    dsimp only at h1
    refine ⟨h1.1, h1.2.1, h1.2.2, ?_⟩
    have := skip_behind (L := L) (M := M) (q := q) h1.1
    push_cast at this
    exact this
  have HQ1 := Lib.hid q1
  have HQ2 := Lib.hid q2
  have HQ3 := Lib.hid q3
  have hlen : (L ++ M).length ≤ 1000000 := by simp; omega
  have HLEN := Lib.hid hlen
  clear hends hends' q1 q2 q3 hfine hfine' hlen
  obtain ⟨g1, cap1', hg1⟩ := owns_form1 (HO1.out _ HB4.out) hposL
  obtain ⟨rfl, -, rfl⟩ := Value.slice.inj hg1
  obtain ⟨g2, cap2', hg2⟩ := owns_form1 (HO2.out _ HB4.out) hposM
  obtain ⟨rfl, -, rfl⟩ := Value.slice.inj hg2
  clear hg1 hg2
  have x4 := (row5 (HX.out w4 HB4.out)).2.2.2.2
  go_wp2
  refine wp_region_rest (by kernel_rfl) ?_
  have HB5 := Lib.hid HB4.out.drew
  clear x4
  generalize w4.drew = W0 at *
  obtain ⟨i0, hi0, hz0', hz1', hz2'⟩ := info_parts Try.infoParts
  refine rest_ops 0 6 97 (fun j v u => match j with | 0 => NilSl v | 1 => v = .pointer (some ⟨b_4, 4, none⟩) | 2 => v = .slice (some ⟨g1, 0, none⟩) L.length cap1 | 3 => u.ownsRow W0.heap.size 54 4 v L.length (flat L) | 4 => v = .pointer (some ⟨b_5, 4, none⟩) | 5 => v = .slice (some ⟨g2, 0, none⟩) M.length cap2 | _ => True) (fun _ _ => none) (by kernel_rfl) (by kernel_rfl) rfl (.inr (by kernel_rfl)) ?hS ?hop ?_
  case hS =>
    intro j v u u' hkj hjn h hb
    match j, hkj, hjn, h with
    | 0, _, _, h => exact h
    | 1, _, _, h => exact h
    | 2, _, _, h => exact h
    | 3, _, _, h => exact owns_below h hb
    | 4, _, _, h => exact h
    | 5, _, _, h => exact h
    | q + 6, _, hq, _ => exact absurd hq (by omega)
  case hop =>
    refine ⟨fun v u hu hs Q' hQ => ?_, fun v u hu hs Q' hQ => ?_, fun v u hu hs Q' hQ => ?_, fun v u hu hs Q' hQ => ?_, fun v u hu hs Q' hQ => ?_, fun v u hu hs Q' hQ => ?_, trivial⟩
    · simp only [putAll, dstOf]
      have hK := HB5.out.trans (hu.mono HB5.out.size)
      have x4 := (row5 (HX.out u hK)).2.2.2.2
      have y4 := (row5 (HY.out u hK)).2.2.2.2
      go_wp2
      exact ⟨rfl, (Below.refl _ _).alloc (Nat.le_refl _) _, ⟨_, rfl⟩, fun _ h => nomatch h⟩
    · simp only [putAll, dstOf]
      have hK := HB5.out.trans (hu.mono HB5.out.size)
      have x4 := (row5 (HX.out u hK)).2.2.2.2
      have y4 := (row5 (HY.out u hK)).2.2.2.2
      go_wp2
      exact ⟨rfl, Below.refl _ _, rfl, fun _ h => nomatch h⟩
    · simp only [putAll, dstOf]
      have s_1 : v 1 = .pointer (some ⟨b_4, 4, none⟩) := hs 1 (by kernel_rfl) (by decide) (by decide)
      have hK := HB5.out.trans (hu.mono HB5.out.size)
      have x4 := (row5 (HX.out u hK)).2.2.2.2
      have y4 := (row5 (HY.out u hK)).2.2.2.2
      go_wp2
      exact ⟨rfl, Below.refl _ _, rfl, fun _ h => nomatch h⟩
    · simp only [putAll, dstOf]
      have s_0 : NilSl (v 0) := hs 0 (by kernel_rfl) (by decide) (by decide)
      have s_2 : v 2 = .slice (some ⟨g1, 0, none⟩) L.length cap1 := hs 2 (by kernel_rfl) (by decide) (by decide)
      have hK := HB5.out.trans (hu.mono HB5.out.size)
      have x4 := (row5 (HX.out u hK)).2.2.2.2
      have y4 := (row5 (HY.out u hK)).2.2.2.2
      (obtain ⟨g0, e0⟩ := s_0); simp only [Act.put, List.getElem?_toArray, List.getElem?_cons_succ, List.getElem?_cons_zero, Option.bind_some, List.setIfInBounds_toArray, List.set_cons_succ, List.set_cons_zero, Nat.reduceAdd]; refine append_fresh rfl (.tmp 38) (.tmp 40) 42 rfl 54 i0 (.agg #[.int .i64 0, .int .i64 0, .int .i64 0, .string ⟨#[]⟩]) 4 40 Try.underlying42 hi0 hz0' hz1' hz2' rfl ⟨g0, 0, none⟩ e0 ⟨g1, 0, none⟩ L.length cap1 (flat L) s_2 (flat_len L) ((HO1.out u hK).cells rfl) hposL (by unfold maxLen; omega) (by omega) ?_; intro v' w' ho' hb'; refine wpList_nil (hQ _ _ ?_)
      exact ⟨rfl, hb', owns_lower hu.size ho', fun _ h => nomatch h⟩
    · simp only [putAll, dstOf]
      have hK := HB5.out.trans (hu.mono HB5.out.size)
      have x4 := (row5 (HX.out u hK)).2.2.2.2
      have y4 := (row5 (HY.out u hK)).2.2.2.2
      go_wp2
      exact ⟨rfl, Below.refl _ _, rfl, fun _ h => nomatch h⟩
    · simp only [putAll, dstOf]
      have s_4 : v 4 = .pointer (some ⟨b_5, 4, none⟩) := hs 4 (by kernel_rfl) (by decide) (by decide)
      have hK := HB5.out.trans (hu.mono HB5.out.size)
      have x4 := (row5 (HX.out u hK)).2.2.2.2
      have y4 := (row5 (HY.out u hK)).2.2.2.2
      go_wp2
      exact ⟨rfl, Below.refl _ _, rfl, fun _ h => nomatch h⟩
  intro v u hu hs hap
  have s_0 : NilSl (v 0) := hs 0 (by decide) (by decide)
  have s_1 : v 1 = .pointer (some ⟨b_4, 4, none⟩) := hs 1 (by decide) (by decide)
  have s_2 : v 2 = .slice (some ⟨g1, 0, none⟩) L.length cap1 := hs 2 (by decide) (by decide)
  have s_3 : u.ownsRow W0.heap.size 54 4 (v 3) L.length (flat L) := hs 3 (by decide) (by decide)
  have s_4 : v 4 = .pointer (some ⟨b_5, 4, none⟩) := hs 4 (by decide) (by decide)
  have s_5 : v 5 = .slice (some ⟨g2, 0, none⟩) M.length cap2 := hs 5 (by decide) (by decide)
  simp only [putAll, dstOf]
  have hK := HB5.out.trans (hu.mono HB5.out.size)
  clear hs hap
  refine rest_line' 6 8 (by kernel_rfl) (by decide) (by decide) (by kernel_rfl) ?_
  simp only [List.drop_succ_cons, List.drop_zero, Nat.reduceSub, List.take_succ_cons, List.take_zero]
  simp only [Act.put, List.getElem?_toArray, List.getElem?_cons_succ, List.getElem?_cons_zero, Option.bind_some, List.setIfInBounds_toArray, List.set_cons_succ, List.set_cons_zero, Nat.reduceAdd]
  refine wpList_append_own _ rfl (.tmp 41) (.tmp 43) 42 rfl W0.heap.size 54 i0 (.agg #[.int .i64 0, .int .i64 0, .int .i64 0, .string ⟨#[]⟩]) 4 40 Try.underlying42 hi0 hz0' hz1' hz2' rfl (by decide) (v 3) L.length (flat L) rfl s_3 ⟨g2, 0, none⟩ M.length cap2 (flat M) s_5 (flat_len M) ((HO2.out u hK).cells rfl) (flat_one M) (by unfold maxLen; omega) (by omega) hu.size ?_
  intro v6 w6 ho6 hg6 _
  obtain ⟨a6, cap6, rfl⟩ := owns_form ho6
  have hb6 : Below W0.heap.size W0 w6 := hu.grown hg6 hu.size fun k hk => (s_3.lt k hk).1
  have HK6 := Lib.hid (HB5.out.trans (hb6.mono HB5.out.size))
  have HBO := Lib.hid (both_sl ho6)
  clear ho6 hg6 hb6 s_0 s_1 s_2 s_3 s_4 s_5 hK hu
  simp only [Act.put]
  go_wp2_with fail
  refine then_rest (rest_end (by decide) ?_)
  have hbl := HBO.out.form
  have hmax : (L.length : Int) + (M.length : Int) ≤ 1000 := by omega
  go_wp2
  refine wp_region_rest (by kernel_rfl) ?_
  have HK7 := Lib.hid HK6.out.drew
  have HBO7 : Hid (InsSl w6.drew (.slice a6 (L.length + M.length) cap6) (L ++ M)) := Lib.hid (HBO.out.below (Below.refl _ _).drew)
  clear HBO HK6 hbl
  generalize w6.drew = W0 at *
  refine rest_ops 0 5 97 (fun j v _ => match j with | 0 => v = .slice a6 (L.length + M.length) cap6 | 1 => v = .pointer (some ⟨b_4, 3, none⟩) | 2 => v = .int .i64 a | 3 => v = .int .i64 L.length | 4 => v = .int .i64 L.length | _ => True) (fun _ _ => none) (by kernel_rfl) (by kernel_rfl) rfl (.inr (by kernel_rfl)) ?hS ?hop ?_
  case hS => intro j v u u' _ _ h _; exact h
  case hop =>
    refine ⟨fun v u hu hs Q' hQ => ?_, fun v u hu hs Q' hQ => ?_, fun v u hu hs Q' hQ => ?_, fun v u hu hs Q' hQ => ?_, fun v u hu hs Q' hQ => ?_, trivial⟩
    · simp only [putAll, dstOf]
      have hK := HK7.out.trans (hu.mono HK7.out.size)
      have x3 := (row5 (HX.out u hK)).2.2.2.1
      go_wp2
      exact ⟨rfl, Below.refl _ _, rfl, fun _ h => nomatch h⟩
    · simp only [putAll, dstOf]
      have hK := HK7.out.trans (hu.mono HK7.out.size)
      have x3 := (row5 (HX.out u hK)).2.2.2.1
      go_wp2
      exact ⟨rfl, Below.refl _ _, rfl, fun _ h => nomatch h⟩
    · simp only [putAll, dstOf]
      have s_1 : v 1 = .pointer (some ⟨b_4, 3, none⟩) := hs 1 (by kernel_rfl) (by decide) (by decide)
      have hK := HK7.out.trans (hu.mono HK7.out.size)
      have x3 := (row5 (HX.out u hK)).2.2.2.1
      go_wp2
      exact ⟨rfl, Below.refl _ _, rfl, fun _ h => nomatch h⟩
    · simp only [putAll, dstOf]
      have s_0 : v 0 = .slice a6 (L.length + M.length) cap6 := hs 0 (by kernel_rfl) (by decide) (by decide)
      have s_2 : v 2 = .int .i64 a := hs 2 (by kernel_rfl) (by decide) (by decide)
      have hK := HK7.out.trans (hu.mono HK7.out.size)
      have x3 := (row5 (HX.out u hK)).2.2.2.1
      go_wp2_with (go_at_call 27; refine (go_skip (L ++ M) _ _ _ (HBO7.out.below hu) HLEN.out).mono ?_; rintro e w8 ⟨rfl, hb8⟩)
      exact ⟨rfl, hb8, congrArg (Value.int .i64) HQ1.out, fun _ h => nomatch h⟩
    · simp only [putAll, dstOf]
      have hK := HK7.out.trans (hu.mono HK7.out.size)
      have x3 := (row5 (HX.out u hK)).2.2.2.1
      go_wp2
      exact ⟨rfl, Below.refl _ _, rfl, fun _ h => nomatch h⟩
  intro v u hu hs hap
  have s_0 : v 0 = .slice a6 (L.length + M.length) cap6 := hs 0 (by decide) (by decide)
  have s_1 : v 1 = .pointer (some ⟨b_4, 3, none⟩) := hs 1 (by decide) (by decide)
  have s_2 : v 2 = .int .i64 a := hs 2 (by decide) (by decide)
  have s_3 : v 3 = .int .i64 L.length := hs 3 (by decide) (by decide)
  have s_4 : v 4 = .int .i64 L.length := hs 4 (by decide) (by decide)
  simp only [putAll, dstOf]
  have HK8 := Lib.hid (HK7.out.trans (hu.mono HK7.out.size))
  have HBO8 := Lib.hid (HBO7.out.below hu)
  clear hs hap hu HK7 HBO7
  have hnn : (((L.length : Nat) : Int) != ((L.length : Nat) : Int)) = false := by simp
  refine rest_line' 5 6 (by kernel_rfl) (by decide) (by decide) (by kernel_rfl) ?_
  simp only [List.drop_succ_cons, List.drop_zero, Nat.reduceSub, List.take_succ_cons, List.take_zero]
  go_wp2
  clear s_0 s_1 s_2 s_3 s_4
  clear v
  generalize u = W0 at *
  refine then_rest ?_
  refine rest_ops 6 18 97 (fun j v _ => match j with | 6 => v = .bool false | 7 => v = .slice a6 (L.length + M.length) cap6 | 8 => v = .int .i64 L.length | 9 => v = .pointer (some ⟨b_5, 3, none⟩) | 10 => v = .int .i64 a' | 11 => v = .int .i64 ((L.length : Int) + a') | 12 => v = .int .i64 ((L.length : Int) + M.length) | 13 => v = .int .i64 L.length | 14 => v = .pointer (some ⟨b_5, 4, none⟩) | 15 => v = .slice (some ⟨g2, 0, none⟩) M.length cap2 | 16 => v = .int .i64 M.length | 17 => v = .int .i64 ((L.length : Int) + M.length) | _ => True) (fun _ _ => none) (by kernel_rfl) (by kernel_rfl) rfl (.inr (by kernel_rfl)) ?hS ?hop ?_
  case hS => intro j v u u' _ _ h _; exact h
  case hop =>
    refine ⟨fun v u hu hs Q' hQ => ?_, fun v u hu hs Q' hQ => ?_, fun v u hu hs Q' hQ => ?_, fun v u hu hs Q' hQ => ?_, fun v u hu hs Q' hQ => ?_, fun v u hu hs Q' hQ => ?_, fun v u hu hs Q' hQ => ?_, fun v u hu hs Q' hQ => ?_, fun v u hu hs Q' hQ => ?_, fun v u hu hs Q' hQ => ?_, fun v u hu hs Q' hQ => ?_, fun v u hu hs Q' hQ => ?_, trivial⟩
    · simp only [putAll, dstOf]
      have hK := HK8.out.trans (hu.mono HK8.out.size)
      have y3 := (row5 (HY.out u hK)).2.2.2.1
      have y4 := (row5 (HY.out u hK)).2.2.2.2
      go_wp2
      exact ⟨rfl, Below.refl _ _, rfl, fun _ h => nomatch h⟩
    · simp only [putAll, dstOf]
      have s_6 : v 6 = .bool false := hs 6 (by kernel_rfl) (by decide) (by decide)
      have hK := HK8.out.trans (hu.mono HK8.out.size)
      have y3 := (row5 (HY.out u hK)).2.2.2.1
      have y4 := (row5 (HY.out u hK)).2.2.2.2
      go_wp2
      exact ⟨rfl, Below.refl _ _, rfl, fun _ h => nomatch h⟩
    · simp only [putAll, dstOf]
      have s_6 : v 6 = .bool false := hs 6 (by kernel_rfl) (by decide) (by decide)
      have hK := HK8.out.trans (hu.mono HK8.out.size)
      have y3 := (row5 (HY.out u hK)).2.2.2.1
      have y4 := (row5 (HY.out u hK)).2.2.2.2
      go_wp2
      exact ⟨rfl, Below.refl _ _, rfl, fun _ h => nomatch h⟩
    · simp only [putAll, dstOf]
      have s_6 : v 6 = .bool false := hs 6 (by kernel_rfl) (by decide) (by decide)
      have hK := HK8.out.trans (hu.mono HK8.out.size)
      have y3 := (row5 (HY.out u hK)).2.2.2.1
      have y4 := (row5 (HY.out u hK)).2.2.2.2
      go_wp2
      exact ⟨rfl, Below.refl _ _, rfl, fun _ h => nomatch h⟩
    · simp only [putAll, dstOf]
      have s_6 : v 6 = .bool false := hs 6 (by kernel_rfl) (by decide) (by decide)
      have s_9 : v 9 = .pointer (some ⟨b_5, 3, none⟩) := hs 9 (by kernel_rfl) (by decide) (by decide)
      have hK := HK8.out.trans (hu.mono HK8.out.size)
      have y3 := (row5 (HY.out u hK)).2.2.2.1
      have y4 := (row5 (HY.out u hK)).2.2.2.2
      go_wp2
      exact ⟨rfl, Below.refl _ _, rfl, fun _ h => nomatch h⟩
    · simp only [putAll, dstOf]
      have s_6 : v 6 = .bool false := hs 6 (by kernel_rfl) (by decide) (by decide)
      have s_8 : v 8 = .int .i64 L.length := hs 8 (by kernel_rfl) (by decide) (by decide)
      have s_10 : v 10 = .int .i64 a' := hs 10 (by kernel_rfl) (by decide) (by decide)
      have hK := HK8.out.trans (hu.mono HK8.out.size)
      have y3 := (row5 (HY.out u hK)).2.2.2.1
      have y4 := (row5 (HY.out u hK)).2.2.2.2
      go_wp2
      exact ⟨rfl, Below.refl _ _, rfl, fun _ h => nomatch h⟩
    · simp only [putAll, dstOf]
      have s_6 : v 6 = .bool false := hs 6 (by kernel_rfl) (by decide) (by decide)
      have s_7 : v 7 = .slice a6 (L.length + M.length) cap6 := hs 7 (by kernel_rfl) (by decide) (by decide)
      have s_11 : v 11 = .int .i64 ((L.length : Int) + a') := hs 11 (by kernel_rfl) (by decide) (by decide)
      have hK := HK8.out.trans (hu.mono HK8.out.size)
      have y3 := (row5 (HY.out u hK)).2.2.2.1
      have y4 := (row5 (HY.out u hK)).2.2.2.2
      go_wp2_with (go_at_call 27; refine (go_skip (L ++ M) _ _ _ (HBO8.out.below hu) HLEN.out).mono ?_; rintro e w9 ⟨rfl, hb9⟩)
      exact ⟨rfl, hb9, congrArg (Value.int .i64) HQ2.out, fun _ h => nomatch h⟩
    · simp only [putAll, dstOf]
      have s_6 : v 6 = .bool false := hs 6 (by kernel_rfl) (by decide) (by decide)
      have hK := HK8.out.trans (hu.mono HK8.out.size)
      have y3 := (row5 (HY.out u hK)).2.2.2.1
      have y4 := (row5 (HY.out u hK)).2.2.2.2
      go_wp2
      exact ⟨rfl, Below.refl _ _, rfl, fun _ h => nomatch h⟩
    · simp only [putAll, dstOf]
      have s_6 : v 6 = .bool false := hs 6 (by kernel_rfl) (by decide) (by decide)
      have hK := HK8.out.trans (hu.mono HK8.out.size)
      have y3 := (row5 (HY.out u hK)).2.2.2.1
      have y4 := (row5 (HY.out u hK)).2.2.2.2
      go_wp2
      exact ⟨rfl, Below.refl _ _, rfl, fun _ h => nomatch h⟩
    · simp only [putAll, dstOf]
      have s_6 : v 6 = .bool false := hs 6 (by kernel_rfl) (by decide) (by decide)
      have s_14 : v 14 = .pointer (some ⟨b_5, 4, none⟩) := hs 14 (by kernel_rfl) (by decide) (by decide)
      have hK := HK8.out.trans (hu.mono HK8.out.size)
      have y3 := (row5 (HY.out u hK)).2.2.2.1
      have y4 := (row5 (HY.out u hK)).2.2.2.2
      go_wp2
      exact ⟨rfl, Below.refl _ _, rfl, fun _ h => nomatch h⟩
    · simp only [putAll, dstOf]
      have s_6 : v 6 = .bool false := hs 6 (by kernel_rfl) (by decide) (by decide)
      have s_15 : v 15 = .slice (some ⟨g2, 0, none⟩) M.length cap2 := hs 15 (by kernel_rfl) (by decide) (by decide)
      have hK := HK8.out.trans (hu.mono HK8.out.size)
      have y3 := (row5 (HY.out u hK)).2.2.2.1
      have y4 := (row5 (HY.out u hK)).2.2.2.2
      go_wp2
      exact ⟨rfl, Below.refl _ _, rfl, fun _ h => nomatch h⟩
    · simp only [putAll, dstOf]
      have s_6 : v 6 = .bool false := hs 6 (by kernel_rfl) (by decide) (by decide)
      have s_13 : v 13 = .int .i64 L.length := hs 13 (by kernel_rfl) (by decide) (by decide)
      have s_16 : v 16 = .int .i64 M.length := hs 16 (by kernel_rfl) (by decide) (by decide)
      have hK := HK8.out.trans (hu.mono HK8.out.size)
      have y3 := (row5 (HY.out u hK)).2.2.2.1
      have y4 := (row5 (HY.out u hK)).2.2.2.2
      go_wp2
      exact ⟨rfl, Below.refl _ _, rfl, fun _ h => nomatch h⟩
  intro v u hu hs hap
  have s_6 : v 6 = .bool false := hs 6 (by decide) (by decide)
  have s_7 : v 7 = .slice a6 (L.length + M.length) cap6 := hs 7 (by decide) (by decide)
  have s_8 : v 8 = .int .i64 L.length := hs 8 (by decide) (by decide)
  have s_9 : v 9 = .pointer (some ⟨b_5, 3, none⟩) := hs 9 (by decide) (by decide)
  have s_10 : v 10 = .int .i64 a' := hs 10 (by decide) (by decide)
  have s_11 : v 11 = .int .i64 ((L.length : Int) + a') := hs 11 (by decide) (by decide)
  have s_12 : v 12 = .int .i64 ((L.length : Int) + M.length) := hs 12 (by decide) (by decide)
  have s_13 : v 13 = .int .i64 L.length := hs 13 (by decide) (by decide)
  have s_14 : v 14 = .pointer (some ⟨b_5, 4, none⟩) := hs 14 (by decide) (by decide)
  have s_15 : v 15 = .slice (some ⟨g2, 0, none⟩) M.length cap2 := hs 15 (by decide) (by decide)
  have s_16 : v 16 = .int .i64 M.length := hs 16 (by decide) (by decide)
  have s_17 : v 17 = .int .i64 ((L.length : Int) + M.length) := hs 17 (by decide) (by decide)
  simp only [putAll, dstOf]
  have HK9 := Lib.hid (HK8.out.trans (hu.mono HK8.out.size))
  have HBO9 := Lib.hid (HBO8.out.below hu)
  clear hs hap hu HK8 HBO8
  have hnn2 : (((L.length : Int) + (M.length : Int)) != ((L.length : Int) + (M.length : Int))) = false := by simp
  refine rest_line' 18 20 (by kernel_rfl) (by decide) (by decide) (by kernel_rfl) ?_
  simp only [List.drop_succ_cons, List.drop_zero, Nat.reduceSub, List.take_succ_cons, List.take_zero]
  go_wp2
  refine then_rest (rest_end (by decide) ?_)
  have y4 := (row5 (HY.out u HK9.out)).2.2.2.2
  go_wp2
  have hst : SlcRel M.length u (.int .i64 ((0 : Nat) : Int)) u := ⟨0, by omega, rfl, Below.refl _ _⟩
  have H := Lib.hid hst
  clear hst y4
  go_loopw [68] (fun k wr => SlcRel M.length u k wr) (fun k _ => M.length - (intOf k).toNat)
  case atStart => exact H.out
  case round =>
    obtain ⟨k, hk, rfl, hbl⟩ := hrel
    have HKr := Lib.hid (HK9.out.trans (hbl.mono HK9.out.size))
    have y4 := (row5 (HY.out wr HKr.out)).2.2.2.2
    have HBr := Lib.hid (HBO9.out.below hbl)
    clear H
    by_cases hkm : k < M.length
    · have h3 := HQ3.out k hkm
      have p0 := h3.1
      have p1 := h3.2.1
      have p2 := h3.2.2.1
      have P3 := Lib.hid h3.2.2.2
      have p4 : (((L.length : Int) + skip M k) != ((L.length : Int) + skip M k)) = false := by simp
      clear h3
      go_wp2_with fail
      refine (go_skip M _ _ _ (insSl_of_owns (HO2.out wr HKr.out)) (by omega)).mono ?_
      rintro e wa ⟨rfl, hba⟩
      have y5 := (row5 (HY.out wa (HKr.out.trans (hba.mono HKr.out.size)))).2.2.2.2
      have HBa := Lib.hid (HBr.out.below hba)
      have HLa := Lib.hid (hbl.trans (hba.mono hbl.size))
      clear y4 hba
      go_wp2_with fail
      refine (go_skip (L ++ M) _ _ _ HBa.out HLEN.out).mono ?_
      rintro e wb ⟨rfl, hbb⟩
      rw [P3.out]
      have HLb := Lib.hid (HLa.out.trans (hbb.mono HLa.out.size))
      clear hbb y5
      go_wp2
      go_roundw
      case rel => exact ⟨k + 1, by omega, by go_num, HLb.out⟩
      case measure => simp [intOf]; omega
    · go_wp2
      go_ret
      exact says rfl (HUw.out _ HKr.out)
end Go.Proofs.Ytlndoogiflcoeaa.Cod
