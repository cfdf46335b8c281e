
/-
  goal.Kind, walked over the program.
-/
import Derived.Test.YtmlceamcpelklaaKnd
import Derived.Test.YtmlceamcpelklaaChn
namespace Go.Proofs.Ytmlceamcpelklaa.Tms
open Go Go.RowKit Go.Proofs.Ytmlceamcpelklaa.Reg Go.Proofs.Ytmlceamcpelklaa.Maps
set_option linter.unusedVariables false

/-- a goal's kind -/
def kindT (t : Tm) : Int := if t.k = 3 then kindOf t.s 0 else if t.k = 4 then (if t.args.length = 0 then 0 else kindOf t.s (if t.s.toList == [99, 97, 108, 108] then 1 else t.args.length)) else -1

set_option maxRecDepth 100000 in
set_option maxHeartbeats 1600000 in
theorem goal_Kind (t : Tm) (v : Value) (P : Nat → Prop) (w : World) (hM : t.size ≤ 1000000000) (h : IsTm w P v t) :
    Calls Try.prog 20 #[v] w fun e w' => e = .returned (.int .i64 (kindT t)) ∧ Below w.heap.size w w' := by
  obtain ⟨a, cap, rfl⟩ := h.form
  have hlen : t.args.length ≤ 1000000000 := by have := len_le t.args; have : sizeL t.args + 1 = t.size := (by obtain ⟨k1, n1, s1, a1⟩ := t; simp [Tm.size, Tm.args]); omega
  clear h
  obtain ⟨t0, t1, tsz, tbl⟩ := two w (.cells #[.int .i64 t.k, .int .i64 t.n, .string t.s, .slice a t.args.length cap] 27 (0, 0)) (.cells #[.string t.s, .int .i64 0] 95 (0, 0))
  have T1 := Lib.hid t1
  have TS := Lib.hid tsz
  have TB := Lib.hid tbl
  clear t0 t1 tsz tbl
  by_cases k3 : t.k = 3
  · have b3 : (t.k == 3) = true := by simpa using k3
    have hr : kindT t = kindOf t.s 0 := by unfold kindT; rw [if_pos k3]
    have HR := Lib.hid hr
    have BW := TB
    clear hr k3
    go_enter Try.func20, Try.ntmps20
    go_wp2
    refine wp_region_rest (by kernel_rfl) ?_
    have hd : Below w.heap.size w (((w.alloc (.cells #[.int .i64 t.k, .int .i64 t.n, .string t.s, .slice a t.args.length cap] 27 (0, 0))).alloc (.cells #[.string t.s, .int .i64 0] 95 (0, 0)))).drew := BW.out.drew
    have t1 : (((w.alloc (.cells #[.int .i64 t.k, .int .i64 t.n, .string t.s, .slice a t.args.length cap] 27 (0, 0))).alloc (.cells #[.string t.s, .int .i64 0] 95 (0, 0)))).drew.heap[w.heap.size + 1]? = _ := T1.out
    generalize (((w.alloc (.cells #[.int .i64 t.k, .int .i64 t.n, .string t.s, .slice a t.args.length cap] 27 (0, 0))).alloc (.cells #[.string t.s, .int .i64 0] 95 (0, 0)))).drew = W0 at *
    have HB := Lib.hid hd
    have x0 := cell_of_row W0 (w.heap.size + 1) 0 _ _ _ t1
    have x1 := cell_of_row W0 (w.heap.size + 1) 1 _ _ _ t1
    clear hd t1 T1 TS TB
    refine rest_chain 0 2 [(false, [1]), (true, [0])] [(false, [_]), (true, [_])] rfl (by kernel_rfl) (by kernel_rfl) rfl (by kernel_rfl) (by kernel_rfl) (.inr (by kernel_rfl)) ?_
    refine chain_soft ?_
    intro E hE
    go_wp2
    clear x0 x1
    refine chain_one ?_
    intro E hE
    go_wp2_with (go_at_call 62
                 refine (goal_kinds _).mono ?_
                 rintro e2 w2 ⟨b, rfl, hlo, hk, hb2⟩
                 have HK := Lib.hid hk
                 have HB2 := Lib.hid hb2
                 clear hk hb2)
    refine ⟨HB2.out, ?_⟩
    refine chain_nil ?_
    obtain ⟨es, c, hes, hke, hlk⟩ := HK.out
    have HES := Lib.hid hes
    have HKE := Lib.hid hke
    have HLK := Lib.hid (hlk t.s 0)
    clear hes hke hlk HK
    refine rest_lineL 2 4 [_, _] rfl (by kernel_rfl) (by decide) (by decide) (by kernel_rfl) ?_
    go_wp2_with (refine wpList_lookK rfl (.tmp 24) (.tmp 25) rfl b t.s 0 es c rfl rfl HES.out HKE.out ?_
                 rw [HLK.out])
    refine then_rest (rest_end (by decide) ?_)
    go_wp2
    go_ret
    exact ⟨by rw [HR.out]; rfl, HB.out.trans (HB2.out.mono HB.out.size)⟩
  have b3 : (t.k == 3) = false := by simpa using k3
  by_cases k4 : t.k = 4
  case neg =>
    have b4 : (t.k == 4) = false := by simpa using k4
    have hr : kindT t = -1 := by unfold kindT; rw [if_neg k3, if_neg k4]
    have HR := Lib.hid hr
    clear hr k3 k4
    go_enter Try.func20, Try.ntmps20
    go_wp2
    go_ret
    exact ⟨by rw [HR.out]; rfl, TB.out⟩
  have b4 : (t.k == 4) = true := by simpa using k4
  obtain ⟨-, t1, -, s1⟩ := two w (.cells #[.int .i64 t.k, .int .i64 t.n, .string t.s, .slice a t.args.length cap] 27 (0, 0)) (.cells #[.string t.s, .int .i64 t.args.length] 95 (0, 0))
  obtain ⟨-, t2, -, s2⟩ := two w (.cells #[.int .i64 t.k, .int .i64 t.n, .string t.s, .slice a t.args.length cap] 27 (0, 0)) (.cells #[.string t.s, .int .i64 1] 95 (0, 0))
  have S1 := Lib.hid s1
  have S2 := Lib.hid s2
  have U1 := Lib.hid t1
  have U2 := Lib.hid t2
  clear s1 s2 t1 t2 T1
  by_cases hz : t.args.length = 0
  · have bz : ((t.args.length : Int) == 0) = true := by rw [hz]; rfl
    have hr : kindT t = 0 := by unfold kindT; rw [if_neg k3, if_pos k4, if_pos hz]
    have HR := Lib.hid hr
    clear hr k3 k4 hz
    go_enter Try.func20, Try.ntmps20
    go_wp2
    go_ret
    exact ⟨by rw [HR.out]; rfl, S1.out⟩
  have bz : ((t.args.length : Int) == 0) = false := by rw [beq_eq_false_iff_ne]; omega
  cases bc : (t.s.toList == [99, 97, 108, 108])
  · have hr : kindT t = kindOf t.s t.args.length := by unfold kindT; rw [if_neg k3, if_pos k4, if_neg hz, bc, if_neg (by decide)]
    have HR := Lib.hid hr
    have BW := S1
    have T1 := U1
    clear hr k3 k4 hz S1 S2 U1 U2
    go_enter Try.func20, Try.ntmps20
    go_wp2
    refine wp_region_rest (by kernel_rfl) ?_
    have hd : Below w.heap.size w (((w.alloc (.cells #[.int .i64 t.k, .int .i64 t.n, .string t.s, .slice a t.args.length cap] 27 (0, 0))).alloc (.cells #[.string t.s, .int .i64 t.args.length] 95 (0, 0)))).drew := BW.out.drew
    have t1 : (((w.alloc (.cells #[.int .i64 t.k, .int .i64 t.n, .string t.s, .slice a t.args.length cap] 27 (0, 0))).alloc (.cells #[.string t.s, .int .i64 t.args.length] 95 (0, 0)))).drew.heap[w.heap.size + 1]? = _ := T1.out
    generalize (((w.alloc (.cells #[.int .i64 t.k, .int .i64 t.n, .string t.s, .slice a t.args.length cap] 27 (0, 0))).alloc (.cells #[.string t.s, .int .i64 t.args.length] 95 (0, 0)))).drew = W0 at *
    have HB := Lib.hid hd
    have x0 := cell_of_row W0 (w.heap.size + 1) 0 _ _ _ t1
    have x1 := cell_of_row W0 (w.heap.size + 1) 1 _ _ _ t1
    clear hd t1 T1 TS TB
    refine rest_chain 0 2 [(false, [1]), (true, [0])] [(false, [_]), (true, [_])] rfl (by kernel_rfl) (by kernel_rfl) rfl (by kernel_rfl) (by kernel_rfl) (.inr (by kernel_rfl)) ?_
    refine chain_soft ?_
    intro E hE
    go_wp2
    clear x0 x1
    refine chain_one ?_
    intro E hE
    go_wp2_with (go_at_call 62
                 refine (goal_kinds _).mono ?_
                 rintro e2 w2 ⟨b, rfl, hlo, hk, hb2⟩
                 have HK := Lib.hid hk
                 have HB2 := Lib.hid hb2
                 clear hk hb2)
    refine ⟨HB2.out, ?_⟩
    refine chain_nil ?_
    obtain ⟨es, c, hes, hke, hlk⟩ := HK.out
    have HES := Lib.hid hes
    have HKE := Lib.hid hke
    have HLK := Lib.hid (hlk t.s t.args.length)
    clear hes hke hlk HK
    refine rest_lineL 2 4 [_, _] rfl (by kernel_rfl) (by decide) (by decide) (by kernel_rfl) ?_
    go_wp2_with (refine wpList_lookK rfl (.tmp 24) (.tmp 25) rfl b t.s t.args.length es c rfl rfl HES.out HKE.out ?_
                 rw [HLK.out])
    refine then_rest (rest_end (by decide) ?_)
    go_wp2
    go_ret
    exact ⟨by rw [HR.out]; rfl, HB.out.trans (HB2.out.mono HB.out.size)⟩
  · have hr : kindT t = kindOf t.s 1 := by unfold kindT; rw [if_neg k3, if_pos k4, if_neg hz, bc, if_pos rfl]
    have HR := Lib.hid hr
    have BW := S2
    have T1 := U2
    clear hr k3 k4 hz S1 S2 U1 U2
    go_enter Try.func20, Try.ntmps20
    go_wp2
    refine wp_region_rest (by kernel_rfl) ?_
    have hd : Below w.heap.size w (((w.alloc (.cells #[.int .i64 t.k, .int .i64 t.n, .string t.s, .slice a t.args.length cap] 27 (0, 0))).alloc (.cells #[.string t.s, .int .i64 1] 95 (0, 0)))).drew := BW.out.drew
    have t1 : (((w.alloc (.cells #[.int .i64 t.k, .int .i64 t.n, .string t.s, .slice a t.args.length cap] 27 (0, 0))).alloc (.cells #[.string t.s, .int .i64 1] 95 (0, 0)))).drew.heap[w.heap.size + 1]? = _ := T1.out
    generalize (((w.alloc (.cells #[.int .i64 t.k, .int .i64 t.n, .string t.s, .slice a t.args.length cap] 27 (0, 0))).alloc (.cells #[.string t.s, .int .i64 1] 95 (0, 0)))).drew = W0 at *
    have HB := Lib.hid hd
    have x0 := cell_of_row W0 (w.heap.size + 1) 0 _ _ _ t1
    have x1 := cell_of_row W0 (w.heap.size + 1) 1 _ _ _ t1
    clear hd t1 T1 TS TB
    refine rest_chain 0 2 [(false, [1]), (true, [0])] [(false, [_]), (true, [_])] rfl (by kernel_rfl) (by kernel_rfl) rfl (by kernel_rfl) (by kernel_rfl) (.inr (by kernel_rfl)) ?_
    refine chain_soft ?_
    intro E hE
    go_wp2
    clear x0 x1
    refine chain_one ?_
    intro E hE
    go_wp2_with (go_at_call 62
                 refine (goal_kinds _).mono ?_
                 rintro e2 w2 ⟨b, rfl, hlo, hk, hb2⟩
                 have HK := Lib.hid hk
                 have HB2 := Lib.hid hb2
                 clear hk hb2)
    refine ⟨HB2.out, ?_⟩
    refine chain_nil ?_
    obtain ⟨es, c, hes, hke, hlk⟩ := HK.out
    have HES := Lib.hid hes
    have HKE := Lib.hid hke
    have HLK := Lib.hid (hlk t.s 1)
    clear hes hke hlk HK
    refine rest_lineL 2 4 [_, _] rfl (by kernel_rfl) (by decide) (by decide) (by kernel_rfl) ?_
    go_wp2_with (refine wpList_lookK rfl (.tmp 24) (.tmp 25) rfl b t.s 1 es c rfl rfl HES.out HKE.out ?_
                 rw [HLK.out])
    refine then_rest (rest_end (by decide) ?_)
    go_wp2
    go_ret
    exact ⟨by rw [HR.out]; rfl, HB.out.trans (HB2.out.mono HB.out.size)⟩
end Go.Proofs.Ytmlceamcpelklaa.Tms
