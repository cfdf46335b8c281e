
/-
  UnifyHas, walked over the program.
-/
import Derived.Test.YtoklbeogmcdgaaaUnh
import Derived.Test.YtoklbeogmcdgaaaUal
import Derived.Test.YtoklbeogmcdgaaaGr9
import Derived.Deep.Upon
namespace Go.Proofs.Ytoklbeogmcdgaaa.Tms
open Go Go.RowKit Go.Proofs.Ytoklbeogmcdgaaa.Reg Go.Proofs.Ytoklbeogmcdgaaa.Rws Go.Proofs.Ytoklbeogmcdgaaa.Maps
set_option linter.unusedVariables false
set_option linter.unusedSimpArgs false

theorem ints_each {w : World} {P : Nat → Prop} : ∀ (L : List Int), Each intKind w P (L.map fun x => [Value.int .i64 x]) L
  | [] => trivial
  | a :: L => ⟨rfl, ints_each L⟩
theorem ints_flat : ∀ (L : List Int), (L.map fun x => [Value.int .i64 x]).flatten = L.map (Value.int .i64)
  | [] => rfl
  | a :: L => by simp [ints_flat L]
/-- append of all that a slice of numbers holds -/
theorem wpList_putI {Q : Program} {w : World} {ops : Array Oper} {rest : List Oper} {o : Oper} {a : Act} {E : Exit → Act → World → Prop} (hgd : o.guard = none) (s x : Operand) (t : TypeId)
    (ho : o.op = .call { callee := .builtin .append, args := #[s, x], argTypes := #[t, t] }) (ht : Q.underlying t = some (.slice intKind.T)) {z : Value} {bytes : Nat} (hi : (Q.info? intKind.T).map (fun i => (i.zero, i.size, i.bytes)) = some (some z, intKind.sz, bytes)) (hz : z.cells.size = intKind.sz)
    (base : Nat) (P : Nat → Prop) (v : Value) (l L : List Int) (q : Option Addr) (c : Nat) (hs : a.eval s = v) (hown : Own intKind w base (fun _ => False) v l) (hx : a.eval x = .slice q L.length c)
    (hL : IntSl w P (.slice q L.length c) L) (h63 : l.length + L.length ≤ maxLen) (hlen : (l.length + L.length) * bytes ≤ 140737488355328) (hbase : base ≤ w.heap.size)
    (h : ∀ v' w', Own intKind w' base (fun _ => False) v' (l ++ L) → Below base w w' → w.grownBy w' v.ownBlock → (∀ k, v'.ownBlock = some k → v.ownBlock = some k ∨ w.heap.size ≤ k) → wpList Q ops E rest (a.put o.dst v') w') : wpList Q ops E (o :: rest) a w := by
  cases L with
  | cons x0 L =>
    obtain ⟨b, off, rfl, -⟩ := hL.pick 0 (by simp)
    refine wpList_putN hgd s x t ho ht hi hz base (fun _ => False) v l ((x0 :: L).map fun x => [Value.int .i64 x]) (x0 :: L) ⟨b, off, none⟩ c hs hown hx (fun j u hu => ?_) (by simp) (ints_each _) h63 hlen hbase h
    rw [ints_flat] at hu
    obtain ⟨hj, e⟩ := List.getElem?_eq_some_iff.1 hu
    rw [List.length_map] at hj
    rw [List.getElem_map] at e
    obtain ⟨b', off', e1, hc⟩ := hL.pick j hj
    simp only [Option.some.injEq, Addr.mk.injEq, and_true] at e1
    obtain ⟨rfl, rfl⟩ := e1
    rw [Addr.add_lit, hc, e]
  | nil =>
    obtain ⟨i0, hi, hz0, hz1, hz2⟩ := info_parts hi
    have hown' := hown
    obtain ⟨xss, ⟨g1, g2⟩, g3⟩ := hown'
    obtain ⟨ba, cap, rfl, hle⟩ : ∃ ba cap, v = .slice ba l.length cap ∧ l.length ≤ cap := by
      rcases g2 with ⟨rfl, hn⟩ | ⟨g, cap, cur, rfl, -, -, hc, -⟩
      · exact ⟨none, 0, by rw [hn], by omega⟩
      · exact ⟨_, cap, rfl, hc⟩
    have hsrc : Src Q i0.size t (.slice q 0 c) 0 [] w := by
      cases q with
      | none => exact Src.ofNil w ht c
      | some ad => exact Src.ofSlice w ht ad 0 c [] (by simp) (by simp) (by simp)
    have hr := run_append_nothing (P := Q) w t t o.type intKind.T i0 ht hi ba l.length cap hle (.slice q 0 c) hsrc
    refine wpList_plain hgd fun K' hK => ?_
    unfold Oper.wp execOp
    simp only [List.length_nil] at hx
    simp only [ho, resolve, invoke, builtin, Sem.run_bind, Sem.run_pure, Result.andThen_ok, List.map_toArray, List.map_cons, List.map_nil, hs, hx, hr]
    exact hK _ _ (h _ _ (by simpa using hown) (Below.refl _ _) (World.grownBy.refl _ _) fun k e => .inl e)
/-- the variables so far -/
def HvRel (w : World) (p : Nat) (S : Sto) (D : Nat → Prop) (sl : Value) (L : List Int) (vi : Value) (wr : World) : Prop := ∃ i : Nat, i ≤ L.length ∧ vi = .int .i64 i ∧ Law8 w p S D wr ∧ IntSl wr (Free D wr) sl L
set_option maxRecDepth 100000 in
set_option maxHeartbeats 32000000 in
theorem law_has (A : List Pt) (u1 : Value) (nn : Int) (w : World) (h1 : PtSl w u1 A) : Calls Try.prog 13 #[u1, .int .u8 nn] w (Says true w) := by
  obtain ⟨a1, c1, rfl, hc1, hm1⟩ := h1.form
  unfold maxLen at hm1
  have H1 := Lib.hid h1
  clear h1
  go_enter Try.func13, Try.ntmps13
  go_wp2_with fail
  refine (alive9 _).mono ?_
  rintro e1 w1 ⟨rfl, hb1⟩
  have HB1 := Lib.hid hb1
  clear hb1
  go_wp2_with fail
  refine (ref_great A _ _ (H1.out.below HB1.out)).mono ?_
  rintro e2 w2 ⟨rfl, rfl⟩
  by_cases hA : 60 < A.length
  · have d1 : decide (60 < (A.length : Int)) = true := by simp; omega
    go_wp2
    go_ret
    exact ⟨rfl, HB1.out⟩
  have d1 : decide (60 < (A.length : Int)) = false := by simp; omega
  have sA := goodT_size A
  have hs421 : (goodT A).size ≤ 421 := by omega
  obtain ⟨x, S, M, T, hh⟩ := has_is (good_check A (by omega)) hs421
  have HH := Lib.hid hh
  clear hh
  go_wp2_with fail
  refine (law_NewF w w1 HB1.out 1000 (by decide) (by decide)).mono ?_
  rintro e5 w5 ⟨rfl, D5, hl5, hb5, hf5⟩
  obtain ⟨h6, s6, f6, -⟩ := hl5.alloc (.map #[] 0)
  have h6' : Law8 w w1.heap.size st0 D5 (w5.alloc (.map #[] 0)) := h6
  have hv6 : VarsAt w D5 w5.heap.size [] (w5.alloc (.map #[] 0)) := ⟨⟨[], IMapB.made w5, List.Perm.refl _⟩, f6.1, hl5.bel.size⟩
  have HL6 := Lib.hid h6'
  have HV6 := Lib.hid hv6
  clear hl5 hb5 hf5 h6 s6 f6 hv6 h6'
  generalize w1.heap.size = p at *
  dsimp only
  go_wp2_with (with_reducible show wpList _ _ _ (⟨some 29, _, _, _, _, _⟩ :: _) _ _
               refine wpList_imap_made rfl _ rfl ?_
               generalize w5.alloc (.map #[] 0) = w6 at *
               generalize w5.heap.size = mb at *)
  have hfr := law_Fresh HL6.out st0_inv (by decide)
  rw [show ((st0.cells.length : Nat) : Int) = 0 from rfl] at hfr
  refine hfr.mono ?_
  rintro e7 w7 ⟨rfl, D7, l7, s7⟩
  have HL7 := Lib.hid (show Law8 w p hs1 D7 w7 from l7)
  have HV7 := Lib.hid (HV6.out.step s7)
  clear l7 s7 HL6 HV6 hfr
  go_wp2_with fail
  refine (ref_good A _ _ (by omega) (H1.out.below HL7.out.bel)).mono ?_
  rintro e8 w8 ⟨v8, rfl, hi8, hb8⟩
  obtain ⟨q8, k8, rfl⟩ := hi8.form
  obtain ⟨l8, -, n8⟩ := HL7.out.below hb8
  have HL8 := Lib.hid l8
  have HV8 := Lib.hid (HV7.out.below hb8)
  have HI8 := Lib.hid (hi8.low.imp (P' := fun b => ¬ D7 b) (fun b hb => by rcases hb with ⟨hb | hb, hb2⟩; exact hb.elim; exact (n8 b hb hb2).1) fun _ _ _ => rfl)
  clear hi8 hb8 n8 l8 HL7 HV7
  go_wp2_with fail
  have hput := law_PutM HL8.out hs1_inv HV8.out (by simp) HI8.out (fun b hb => hb) (by omega)
  rw [HH.out.put.a, HH.out.put.w, HH.out.put.n] at hput
  refine hput.mono ?_
  rintro e9 w9 ⟨rfl, D9, l9, hv9, hz9, hk9⟩
  have HL9 := Lib.hid l9
  clear hput l9 hv9 hz9 hk9 HL8 HV8 HI8
  have hxS : x < S.cells.length := HH.out.put.lt
  have hTs : T.size ≤ 421 := by have := HH.out.size; omega
  dsimp only
  go_wp2_with fail
  have hge := law_GetE HL9.out HH.out.put.inv x hxS
  rw [(HH.out.get hs421).1, (HH.out.get hs421).2] at hge
  refine hge.mono ?_
  rintro e10 w10 ⟨q10, c10, he10, l10, s10, hi10⟩
  obtain rfl : e10 = .returned (.tuple #[.agg #[.int .i64 T.k, .int .i64 T.n, .string T.s, .slice q10 T.args.length c10], .int .i64 0]) := he10
  have hbA := below_new w10 (.cells #[.int .i64 T.k, .int .i64 T.n, .string T.s, .slice q10 T.args.length c10] 33 (0, 0))
  have hrA := heap_alloc_new w10 (.cells #[.int .i64 T.k, .int .i64 T.n, .string T.s, .slice q10 T.args.length c10] 33 (0, 0))
  have HL11 := Lib.hid (l10.below hbA).1
  have HI11 := Lib.hid (hi10.below hbA)
  have HR11 := Lib.hid hrA
  clear hge l10 s10 hi10 hbA hrA HL9
  go_upto_region 12 with fail
  generalize w10.alloc (.cells #[.int .i64 T.k, .int .i64 T.n, .string T.s, .slice q10 T.args.length c10] 33 (0, 0)) = w11 at *
  generalize w10.heap.size = tb at *
  have hbB := below_new w11 (.cells #[.int .i64 0] 2 (0, 0))
  have hrB := heap_alloc_new w11 (.cells #[.int .i64 0] 2 (0, 0))
  obtain ⟨u0, u1, u2, u3⟩ := row4 ((hbB.block tb (Array.getElem?_eq_some_iff.1 HR11.out).1).trans HR11.out)
  have HI12 := Lib.hid (HI11.out.below hbB)
  have HB12 := Lib.hid hbB
  have HR12 := Lib.hid hrB
  clear hbB hrB HI11 HR11
  go_wp2_with fail
  generalize w11.alloc (.cells #[.int .i64 0] 2 (0, 0)) = w12 at *
  refine (tm_Vars T _ _ _ (by omega) HI12.out).mono ?_
  rintro e13 w13 ⟨v13, rfl, hv13, hb13⟩
  obtain ⟨q13, c13, rfl⟩ := hv13.form
  have hb1113 := HB12.out.trans (hb13.mono HB12.out.size)
  have hrg : w13.heap[w11.heap.size]? = _ := (hb13.block _ (Array.getElem?_eq_some_iff.1 HR12.out).1).trans HR12.out
  have hown : Own intKind w13 w11.heap.size (fun _ => False) (.slice (some ⟨w11.heap.size, 0, none⟩) 1 1) [0] :=
    ⟨[[.int .i64 0]], ⟨rfl, .inr ⟨w11.heap.size, 1, #[.int .i64 0], rfl, Nat.le_refl _, hrg, Nat.le_refl _, by unfold maxLen; omega, rfl, rfl⟩⟩, ⟨rfl, trivial⟩⟩
  have hvl : (varsT T).length ≤ 1000000 := by
    have h1 := varsD_len (parts 1 T)
    have h2 := parts_len 1 T
    unfold varsT
    omega
  have hvh : ∀ y : Int, y ∈ [0] ++ varsT T → ∃ v : Nat, y = v ∧ v < S.cells.length ∧ (cellF S v).k = 1 ∧ hasV S v x = some (decide (y ≠ 0)) ∧ hasV S v v = some true := fun y hy =>
    HH.out.has hs421 (by
      rcases List.mem_append.1 hy with h | h
      · exact .inl (List.mem_singleton.1 h)
      · exact .inr h)
  have HVH := Lib.hid hvh
  have HOWN := Lib.hid hown
  have HV13 := Lib.hid hv13
  have HB13 := Lib.hid hb1113
  have HI := Lib.hid HH.out.put.inv
  clear u0 u1 u2 u3 hb13 hb1113 hrg hown hv13 HI12 HB12 HR12 hvh
  have hzB := HB13.out.size
  clear HH
  obtain ⟨L, hL⟩ : ∃ L, L = [0] ++ varsT T := ⟨_, rfl⟩
  have HL := Lib.hid hL
  rw [← hL] at HVH
  have hLl : L.length ≤ 1000001 := by rw [hL]; simp; omega
  have hLn : L.length = 1 + (varsT T).length := by rw [hL]; simp; omega
  clear hL
  go_wp2_with (with_reducible show wpList _ _ _ (⟨some 59, _, _, _, _, _⟩ :: _) _ _
               refine wpList_putI rfl (.tmp 56) (.tmp 58) _ rfl Try.underlying98 info_int64 rfl w11.heap.size _ (.slice (some ⟨w11.heap.size, 0, none⟩) 1 1) [0] (varsT T) q13 c13 rfl HOWN.out rfl HV13.out (by unfold maxLen; simp; omega) (by simp; omega) hzB ?_
               intro v14 w14 ho14 hb14 hg14 hv14
               rw [← HL.out] at ho14
               obtain ⟨q14, c14, rfl⟩ := own_int_form ho14
               have HO14 := Lib.hid (own_ints ho14)
               have HB14 := Lib.hid (HB13.out.trans hb14)
               clear ho14 hb14 hg14 hv14 HOWN HV13 HB13)
  obtain ⟨l14, s14, n14⟩ := HL11.out.below HB14.out
  have hlp : HvRel w p S D9 (.slice q14 L.length c14) L (.int .i64 ((0 : Nat) : Int)) w14 := ⟨0, by omega, rfl, l14, HO14.out.low.imp (Nat.le_refl _) (fun b hb _ => n14 b hb.1.2 hb.2) fun _ _ _ => rfl⟩
  have HLP := Lib.hid hlp
  clear hlp l14 s14 n14 HO14 HB14 HL11
  go_loopw [61] (fun v61 wr => HvRel w p S D9 (.slice q14 L.length c14) L v61 wr) (fun v61 _ => L.length - (intOf v61).toNat)
  case atStart => exact HLP.out
  case round =>
    clear HLP
    obtain ⟨i, hi, rfl, hl, hs⟩ := hrel
    have HW := Lib.hid hl
    have HS := Lib.hid hs
    clear hl hs
    by_cases hin : i < L.length
    · have b1 : decide ((i : Int) < (L.length : Int)) = true := by simp; omega
      obtain ⟨b, off, e1, hc⟩ := HS.out.pick i hin
      obtain rfl := e1
      obtain ⟨y, hy⟩ : ∃ y, y = L[i] := ⟨_, rfl⟩
      rw [← hy] at hc
      obtain ⟨v, e2, hvl, hvk, hv1, hv2⟩ := HVH.out y (by rw [hy]; exact List.getElem_mem hin)
      have E2 := Lib.hid e2
      have HVK := Lib.hid hvk
      have HV1 := Lib.hid hv1
      have HV2 := Lib.hid hv2
      clear e2 hy hvk hv1 hv2
      have hca := HS.out.room
      have k1 := un_Has HW.out HI.out v x hvl hxS HVK.out
      rw [← E2.out] at k1
      rw [show hasB (hasV S v x) = decide (y ≠ 0) by rw [HV1.out]; by_cases e : y = 0 <;> simp [hasB, e], show hasE (hasV S v x) = 0 by rw [HV1.out]; simp [hasE]] at k1
      have K1 := Lib.hid k1
      clear k1
      have d2 : (y != 0) = decide (y ≠ 0) := by by_cases e : y = 0 <;> simp [e]
      cases hd : decide (y ≠ 0) with
      | true =>
        rw [hd] at K1 d2
        go_wp2_with fail
        refine K1.out.mono ?_
        rintro e15 w15 ⟨rfl, l15, s15⟩
        have k2 := un_Has l15 HI.out v v hvl hvl HVK.out
        rw [← E2.out, HV2.out] at k2
        have HS15 := Lib.hid (HS.out.step s15)
        have K2 := Lib.hid k2
        clear k2 l15 s15
        go_wp2_with fail
        refine K2.out.mono ?_
        rintro e16 w16 ⟨rfl, l16, s16⟩
        have HW16 := Lib.hid l16
        have HS16 := Lib.hid (HS15.out.step s16)
        clear l16 s16
        go_wp2
        go_roundw
        case measure => simp [intOf]; omega
        case rel => exact ⟨i + 1, by omega, rfl, HW16.out, HS16.out⟩
      | false =>
        rw [hd] at K1 d2
        go_wp2_with fail
        refine K1.out.mono ?_
        rintro e15 w15 ⟨rfl, l15, s15⟩
        have k2 := un_Has l15 HI.out v v hvl hvl HVK.out
        rw [← E2.out, HV2.out] at k2
        have HS15 := Lib.hid (HS.out.step s15)
        have K2 := Lib.hid k2
        clear k2 l15 s15
        go_wp2_with fail
        refine K2.out.mono ?_
        rintro e16 w16 ⟨rfl, l16, s16⟩
        have HW16 := Lib.hid l16
        have HS16 := Lib.hid (HS15.out.step s16)
        clear l16 s16
        go_wp2
        go_roundw
        case measure => simp [intOf]; omega
        case rel => exact ⟨i + 1, by omega, rfl, HW16.out, HS16.out⟩
    · have b1 : decide ((i : Int) < (L.length : Int)) = false := by simp; omega
      go_wp2
      go_ret
      exact ⟨rfl, HW.out.bel⟩
end Go.Proofs.Ytoklbeogmcdgaaa.Tms
