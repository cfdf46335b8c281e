/-
  What the check of all instructions, and the check of the slots, come to, walked over the program.
-/
import Derived.Test.YtlndoogiflcoeaaCodW2
namespace Go.Proofs.Ytlndoogiflcoeaa.Cod
open Go Go.RowKit Go.Proofs.Ytlndoogiflcoeaa.Reg

def okFn (op : Int) : Nat :=
  if op = 1 then 53 else if op = 2 ∨ op = 3 then 54 else if op = 4 then 55 else if op = 5 then 56 else 57
theorem ok_call (i : Ins) (w : World) (_h1 : 1 ≤ i.op) (_h6 : i.op ≤ 6) : Calls Try.prog (okFn i.op) #[i.val] w (Says i.ok w) := by
  unfold okFn Ins.ok
  split
  · exact is_any i w
  split
  · exact is_slot i w
  split
  · exact is_num i w
  split
  · exact is_name i w
  · exact is_comp i w

theorem ok_enter (op : Int) (args : Array Value) (w : World) : (callFunc (okFn op) args).run Try.prog w = .ok (.enter (okFn op) args) w := by
  unfold okFn
  split
  · kernel_rfl
  split
  · kernel_rfl
  split
  · kernel_rfl
  split
  · kernel_rfl
  · kernel_rfl

/-- the table of checks in memory -/
def Tab (w : World) (b : Nat) : Prop := ∀ op : Nat, 1 ≤ op → op ≤ 6 → w.cell? ⟨b, op, none⟩ = some (.func (.func (okFn op)) #[] #[])

theorem Tab.below {w w' : World} {b B : Nat} (h : Tab w b) (hb : Below B w w') (hlt : b < B) : Tab w' b := fun op h1 h6 => (hb.cell (p := ⟨b, op, none⟩) hlt).trans (h op h1 h6)

theorem tab_new (w : World) (t : TypeId) : Tab (w.alloc (.cells #[.nilFunc, .func (.func 53) #[] #[], .func (.func 54) #[] #[], .func (.func 54) #[] #[], .func (.func 55) #[] #[], .func (.func 56) #[] #[], .func (.func 57) #[] #[]] t)) w.heap.size := by
  intro op h1 h6
  rw [World.cell?_alloc_at _ _ _ _ rfl]
  have : op = 1 ∨ op = 2 ∨ op = 3 ∨ op = 4 ∨ op = 5 ∨ op = 6 := by omega
  rcases this with rfl | rfl | rfl | rfl | rfl | rfl <;> rfl

def PlRel (L : List Ins) (w : World) (b : Nat) (c : Value) (wr : World) : Prop :=
  ∃ k : Nat, k ≤ L.length ∧ c = .int .i64 k ∧ (L.take k).all Ins.ok = true ∧ Below w.heap.size w wr ∧ Tab wr b ∧ b < wr.heap.size ∧ w.heap.size ≤ b

theorem take_ok {L : List Ins} {k : Nat} (hk : k < L.length) (h : (L.take k).all Ins.ok = true) (ho : L[k].ok = true) : (L.take (k + 1)).all Ins.ok = true := by
  rw [List.take_succ_eq_append_getElem hk, List.all_append, h]; simp [ho]
theorem not_ok {L : List Ins} {k : Nat} (hk : k < L.length) (ho : L[k].ok = false) : L.all Ins.ok = false := by
  rw [List.all_eq_false]; exact ⟨L[k], List.getElem_mem hk, by simp [ho]⟩

set_option maxHeartbeats 800000 in
theorem go_plain (L : List Ins) (v : Value) (w : World) (hv : InsSl w v L) (hl : L.length ≤ 1000000) (hop : ∀ i ∈ L, 1 ≤ i.op ∧ i.op ≤ 6) :
    Calls Try.prog 42 #[v] w (Says (L.all Ins.ok) w) := by
  obtain ⟨a, cap, rfl, hc⟩ := hv
  go_enter Try.func42, Try.ntmps42
  go_wp2_with (go_at_call 47; refine (checks_any _).mono ?_; rintro e w1 ⟨rfl, hb1⟩)
  have hT := tab_new w1 87
  generalize hW : (w1.alloc (.cells #[.nilFunc, .func (.func 53) #[] #[], .func (.func 54) #[] #[], .func (.func 54) #[] #[], .func (.func 55) #[] #[], .func (.func 56) #[] #[], .func (.func 57) #[] #[]] 87)) = W at *
  have hst : PlRel L w w1.heap.size (.int .i64 ((0 : Nat) : Int)) W := ⟨0, by omega, rfl, rfl, hW ▸ hb1.alloc hb1.size _, hT, by rw [← hW]; simp, hb1.size⟩
  have H := Lib.hid hst
  clear hst hT hb1 hW
  generalize w1.heap.size = b at *
  go_loopw [9] (fun c wr => PlRel L w b c wr) (fun c _ => L.length - (intOf c).toNat)
  case atStart => exact H.out
  case round =>
    obtain ⟨k, hk, rfl, hall, hbl, hT, hbr, hwb⟩ := hrel
    have HA := Lib.hid hall
    clear hall H
    by_cases hlt : k < L.length
    · obtain ⟨b2, off, rfl, hi⟩ := hc k hlt
      have hi' := hi.below hbl hi.lt
      obtain ⟨g0, g1, g2, g3⟩ := hi'
      have hbr2 : b2 < wr.heap.size := by have := hi.lt; have := hbl.size; omega
      have ⟨o1, o6⟩ := hop L[k] (List.getElem_mem hlt)
      have hyes := take_ok hlt HA.out
      have hno := not_ok (L := L) hlt
      have hlt2 : b2 < w.heap.size := hi.lt
      have H1 := Lib.hid hyes
      have H2 := Lib.hid hno
      have HL := Lib.hid hlt2
      have HT := Lib.hid hT
      clear hyes hno hlt2 hc hi hT hop
      generalize L[k] = i at *
      go_wp2
      have hf0 : ∀ j, (wr.alloc (.cells i.val.cells 54)).cell? ⟨wr.heap.size, j, none⟩ = i.val.cells[j]? := fun j => World.cell?_alloc_at _ _ _ _ rfl
      have hTa : Tab (wr.alloc (.cells i.val.cells 54)) b := fun op h1 h6 => (World.cell?_alloc_past _ _ _ hbr).trans (HT.out op h1 h6)
      have hbl' : Below w.heap.size w (wr.alloc (.cells i.val.cells 54)) := hbl.alloc hbl.size _
      have hbr' : b < (wr.alloc (.cells i.val.cells 54)).heap.size := by simp; omega
      have hbi : wr.heap.size < (wr.alloc (.cells i.val.cells 54)).heap.size := by simp
      simp only [Value.cells] at hf0 hTa hbl' hbr' hbi
      generalize wr.heap.size = bi at *
      generalize (wr.alloc (.cells #[.int .i64 i.op, .int .i64 i.a, .int .i64 i.n, .string i.s] 54)) = W at *
      have f0 := hf0 0
      have f1 := hf0 1
      have f2 := hf0 2
      have f3 := hf0 3
      clear hf0
      obtain ⟨p, hp⟩ : ∃ p : Nat, i.op = p := ⟨i.op.toNat, by omega⟩
      have fT := hTa p (by omega) (by omega)
      obtain ⟨iop, ia, in_, is⟩ := i
      dsimp only at *
      subst hp
      have fs : ∀ u, Below W.heap.size W u → u.cell? ⟨bi, 0, none⟩ = some (.int .i64 p) ∧ u.cell? ⟨bi, 1, none⟩ = some (.int .i64 ia) ∧ u.cell? ⟨bi, 2, none⟩ = some (.int .i64 in_) ∧ u.cell? ⟨bi, 3, none⟩ = some (.string is) ∧ u.cell? ⟨b, p, none⟩ = some (.func (.func (okFn p)) #[] #[]) := fun u hu =>
        ⟨(hu.cell (p := ⟨bi, 0, none⟩) hbi).trans f0, (hu.cell (p := ⟨bi, 1, none⟩) hbi).trans f1, (hu.cell (p := ⟨bi, 2, none⟩) hbi).trans f2, (hu.cell (p := ⟨bi, 3, none⟩) hbi).trans f3, (hu.cell (p := ⟨b, p, none⟩) hbr').trans fT⟩
      clear f0 f1 f2 f3 fT
      refine wp_region_rest (by kernel_rfl) ?_
      have hd : Below W.heap.size W W.drew := (Below.refl _ _).drew
      refine rest_ops 0 5 21 (fun j v _ => match j with | 0 => v = .pointer (some ⟨bi, 0, none⟩) | 1 => v = .int .i64 p | 2 => v = .pointer (some ⟨b, p, none⟩) | 3 => v = .func (.func (okFn p)) #[] #[] | 4 => v = .agg #[.int .i64 p, .int .i64 ia, .int .i64 in_, .string is] | _ => True) (fun _ _ => none) (by kernel_rfl) (by kernel_rfl) rfl (.inr (by kernel_rfl)) ?hS ?hop ?_
      case hS => intro j v u u' _ _ h _; exact h
      case hop =>
        refine ⟨fun v u hu hs Q' hQ => ?_, fun v u hu hs Q' hQ => ?_, fun v u hu hs Q' hQ => ?_, fun v u hu hs Q' hQ => ?_, fun v u hu hs Q' hQ => ?_, trivial⟩
        · simp only [putAll, dstOf]
          obtain ⟨c0, c1, c2, c3, cT⟩ := fs u (hd.trans hu)
          go_wp2
          exact ⟨rfl, Below.refl _ _, rfl, fun _ h => nomatch h⟩
        · simp only [putAll, dstOf]
          have s_0 : v 0 = .pointer (some ⟨bi, 0, none⟩) := hs 0 (by kernel_rfl) (by decide) (by decide)
          obtain ⟨c0, c1, c2, c3, cT⟩ := fs u (hd.trans hu)
          go_wp2
          exact ⟨rfl, Below.refl _ _, rfl, fun _ h => nomatch h⟩
        · simp only [putAll, dstOf]
          have s_1 : v 1 = .int .i64 p := hs 1 (by kernel_rfl) (by decide) (by decide)
          obtain ⟨c0, c1, c2, c3, cT⟩ := fs u (hd.trans hu)
          go_wp2
          exact ⟨rfl, Below.refl _ _, rfl, fun _ h => nomatch h⟩
        · simp only [putAll, dstOf]
          have s_2 : v 2 = .pointer (some ⟨b, p, none⟩) := hs 2 (by kernel_rfl) (by decide) (by decide)
          obtain ⟨c0, c1, c2, c3, cT⟩ := fs u (hd.trans hu)
          go_wp2
          exact ⟨rfl, Below.refl _ _, rfl, fun _ h => nomatch h⟩
        · simp only [putAll, dstOf]
          obtain ⟨c0, c1, c2, c3, cT⟩ := fs u (hd.trans hu)
          go_wp2
          exact ⟨rfl, Below.refl _ _, rfl, fun _ h => nomatch h⟩
      intro v u hu hs hap
      have s_0 : v 0 = .pointer (some ⟨bi, 0, none⟩) := hs 0 (by decide) (by decide)
      have s_1 : v 1 = .int .i64 p := hs 1 (by decide) (by decide)
      have s_2 : v 2 = .pointer (some ⟨b, p, none⟩) := hs 2 (by decide) (by decide)
      have s_3 : v 3 = .func (.func (okFn p)) #[] #[] := hs 3 (by decide) (by decide)
      have s_4 : v 4 = .agg #[.int .i64 p, .int .i64 ia, .int .i64 in_, .string is] := hs 4 (by decide) (by decide)
      simp only [putAll, dstOf]
      replace hu := hd.trans hu
      have hok := ok_call ⟨p, ia, in_, is⟩ u o1 o6
      have hTu := hTa.below hu hbr'
      have hblu := hbl'.trans (hu.mono hbl'.size)
      have hbu : b < u.heap.size := by have := hu.size; omega
      have HK := Lib.hid hok
      clear hok
      have hent := fun args w => ok_enter p args w
      generalize okFn p = fp at *
      refine rest_line' 5 7 (by kernel_rfl) (by decide) (by decide) (by kernel_rfl) ?_
      simp only [List.drop_succ_cons, List.drop_zero, Nat.reduceSub, List.take_succ_cons, List.take_zero]
      cases hb : (Ins.ok ⟨p, ia, in_, is⟩)
      · have h2 := H2.out hb
        have HN := Lib.hid h2
        clear h2 hTa hTu
        rw [hb] at HK
        clear hb
        go_wp2_with (refine (HK.out).mono ?_; rintro e w2 ⟨rfl, hb2⟩)
        refine then_rest (rest_end (by decide) ?_)
        go_wp2
        go_ret
        exact says HN.out.symm (hblu.trans (hb2.mono hblu.size))
      · have h1 := H1.out hb
        have HN := Lib.hid h1
        have HTu := Lib.hid hTu
        clear h1 hTa hTu
        rw [hb] at HK
        clear hb
        go_wp2_with (refine (HK.out).mono ?_; rintro e w2 ⟨rfl, hb2⟩)
        refine then_rest (rest_end (by decide) ?_)
        go_wp2
        go_roundw
        case rel => exact ⟨k + 1, by omega, by go_num, HN.out, hblu.trans (hb2.mono hblu.size), HTu.out.below hb2 hbu, by have := hb2.size; omega, hwb⟩
        case measure => simp [intOf]; omega
    · go_wp2
      go_ret
      exact says (by have := HA.out; rw [List.take_of_length_le (by omega)] at this; rw [this]) hbl
end Go.Proofs.Ytlndoogiflcoeaa.Cod
