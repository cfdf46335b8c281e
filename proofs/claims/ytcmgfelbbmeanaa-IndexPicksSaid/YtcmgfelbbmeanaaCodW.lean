
/-
  What code.Skip and the reference's Skip come to, walked over the program.
  What the small checks of an instruction come to, and the check of all of them, walked over the program.
  What the check of all instructions, and the check of the slots, come to, walked over the program.
  What the check of the slots comes to, walked over the program.
  Plain facts on codes: what the check of a whole code comes to.
  What code.Check comes to, walked over the program.
  What the reference's Skip and Check come to, walked over the program.
  What the reference's Check comes to, walked over the program.
  A code for the program out of the reference's, and back: what To and From come to, walked over the program.
  The reference's Same says yes of one code read twice; the document's example; walked over the program.
-/
import Derived.Test.YtcmgfelbbmeanaaCodM
import Derived.Test.YtcmgfelbbmeanaaProg
import Derived.Test.YtcmgfelbbmeanaaReg
import Derived.Laws.EntriesVeiled
import Derived.Deep.QuietTactic
import Derived.BigQuiet
namespace Go.Proofs.Ytcmgfelbbmeanaa.Cod
open Go Go.RowKit

theorem ret_int {k : IntKind} {a b : Int} (h : a = b) : Ending.returned (.int k a) = .returned (.int k b) := by rw [h]
theorem ret_bool {a b : Bool} (h : a = b) : Ending.returned (.bool a) = .returned (.bool b) := by rw [h]

def SkipOk (L : List Ins) (z : Int) (w : World) (e : Ending) (w' : World) : Prop := e = .returned (.int .i64 (skip L z)) ∧ Below w.heap.size w w'

theorem ins_good {i : Ins} (h1 : 1 ≤ i.op) (h2 : i.op ≤ 6) (h3 : i.op ≠ 6) : i.bad = false ∧ i.ar = 0 := by
  simp [Ins.bad, Ins.ar]; omega
theorem ins_comp {i : Ins} (h1 : i.op = 6) (h2 : 1 ≤ i.a) (h3 : i.a ≤ 255) : i.bad = false ∧ (i.ar : Int) = i.a ∧ i.ar ≤ 255 := by
  simp [Ins.bad, Ins.ar, h1]; omega
theorem ins_bad {i : Ins} (h : i.op < 1 ∨ 6 < i.op ∨ i.op = 6 ∧ (i.a < 1 ∨ 255 < i.a)) : i.bad = true := by
  simp [Ins.bad]; omega

def SkRel (L : List Ins) (z : Int) (w : World) (a n : Value) (wr : World) : Prop :=
  ∃ k m : Nat, k ≤ L.length ∧ a = .int .i64 k ∧ n = .int .i64 m ∧ m ≤ k * 255 + 1 ∧ skA L m k = skip L z ∧ Below w.heap.size w wr


theorem skr_bad {L : List Ins} {k m : Nat} {z : Int} {w wr : World} (hk : k < L.length) (h0 : 0 < m) (HS : Hid (skA L m k = skip L z)) (hb : L[k].bad = true) (hB : Below w.heap.size w wr) : SkipOk L z w (.returned (.int .i64 (-1))) wr := by
  refine ⟨ret_int ?_, hB⟩
  rw [← HS.out]
  obtain ⟨q, rfl⟩ : ∃ q, m = q + 1 := ⟨m - 1, by omega⟩
  exact (skA_bad L q k hk hb).symm
theorem skr_end {L : List Ins} {k m : Nat} {z : Int} {w wr : World} (hk : L.length ≤ k) (h0 : 0 < m) (HS : Hid (skA L m k = skip L z)) (hB : Below w.heap.size w wr) : SkipOk L z w (.returned (.int .i64 (-1))) wr := by
  refine ⟨ret_int ?_, hB⟩
  rw [← HS.out]
  obtain ⟨q, rfl⟩ : ∃ q, m = q + 1 := ⟨m - 1, by omega⟩
  exact (skA_end L q k hk).symm
theorem skr_zero {L : List Ins} {k m : Nat} {z : Int} {w wr : World} (h0 : ¬ 0 < m) (HS : Hid (skA L m k = skip L z)) (hB : Below w.heap.size w wr) : SkipOk L z w (.returned (.int .i64 k)) wr := by
  refine ⟨ret_int ?_, hB⟩
  rw [← HS.out]
  obtain rfl : m = 0 := by omega
  exact (skA_zero L k).symm
theorem skr_step {L : List Ins} {k m : Nat} {z : Int} {w wr : World} {x y : Int} (hk : k < L.length) (h0 : 0 < m) (HS : Hid (skA L m k = skip L z)) (hm : m ≤ k * 255 + 1) (hB : Below w.heap.size w wr)
    (hb : L[k].bad = false) (ha : (L[k].ar : Int) = y - m + 1) (har : L[k].ar ≤ 255) (hx : x = k + 1) : SkRel L z w (.int .i64 x) (.int .i64 y) wr := by
  obtain ⟨q, rfl⟩ : ∃ q, m = q + 1 := ⟨m - 1, by omega⟩
  refine ⟨k + 1, q + L[k].ar, by omega, by rw [hx]; rfl, by congr 1; omega, by omega, ?_, hB⟩
  rw [← skA_step L q k hk hb]; exact HS.out

set_option maxHeartbeats 400000 in
theorem go_skip (L : List Ins) (z : Int) (v : Value) (w : World) (hv : InsSl w v L) (hl : L.length ≤ 1000000) :
    Calls Try.prog 58 #[v, .int .i64 z] w (SkipOk L z w) := by
  obtain ⟨a, cap, rfl, hc⟩ := hv
  by_cases hz : z < 0
  · go_enter Try.func58, Try.ntmps58
    go_wp2
    go_ret
    exact ⟨ret_int (skip_neg L z hz).symm, Below.refl _ _⟩
  by_cases hz2 : (L.length : Int) < z
  · have hp := skip_past L z (by omega)
    have H := Lib.hid hp
    clear hp
    go_enter Try.func58, Try.ntmps58
    go_wp2
    refine wp_loop_rounds 1 ?_
    rw [rounds_succ]
    go_wp2
    go_ret
    exact ⟨ret_int H.out.symm, Below.refl _ _⟩
  obtain ⟨k0, rfl⟩ : ∃ k : Nat, z = k := ⟨z.toNat, by omega⟩
  have hst : SkRel L k0 w (.int .i64 k0) (.int .i64 ((1 : Nat) : Int)) w := ⟨k0, 1, by omega, rfl, rfl, by omega, (skip_nat L k0).symm, Below.refl _ _⟩
  have H := Lib.hid hst
  clear hst
  go_enter Try.func58, Try.ntmps58
  go_wp2
  go_loopw [1, 5] (fun a n wr => SkRel L k0 w a n wr) (fun a _ _ => 1000002 - (intOf a).toNat)
  case atStart => exact H.out
  case round =>
    obtain ⟨k, m, hk, rfl, rfl, hm, hsk, hbl⟩ := hrel
    have HS := Lib.hid hsk
    clear hsk H
    by_cases hlt : k < L.length
    · obtain ⟨b, off, rfl, hi⟩ := hc k hlt
      have hi' := hi.below hbl hi.lt
      obtain ⟨g0, g1, g2, g3⟩ := hi'
      have hbr : b < wr.heap.size := by have := hi.lt; have := hbl.size; omega
      clear hc hi
      go_wp2
      all_goals first
        | (go_ret; exact skr_zero (by assumption) HS hbl)
        | (go_ret; exact skr_bad hlt (by assumption) HS (ins_bad (by omega)) (hbl.alloc hbl.size _))
        | (have h6 : L[k].op = 6 := by simpa using (by assumption : (L[k].op == 6) = true)
           go_ret; exact skr_bad hlt (by assumption) HS (ins_bad (by omega)) (hbl.alloc hbl.size _))
        | (have h6 : L[k].op = 6 := by simpa using (by assumption : (L[k].op == 6) = true)
           obtain ⟨e1, e2, e3⟩ := ins_comp h6 (by omega) (by omega)
           go_roundw
           case rel => exact skr_step hlt (by assumption) HS hm (hbl.alloc hbl.size _) e1 (by omega) e3 rfl
           case measure => simp [intOf]; omega)
        | (have h6 : L[k].op ≠ 6 := by simpa using (by assumption : (L[k].op == 6) = false)
           obtain ⟨e1, e2⟩ := ins_good (i := L[k]) (by omega) (by omega) h6
           go_roundw
           case rel => exact skr_step hlt (by assumption) HS hm (hbl.alloc hbl.size _) e1 (by omega) (by omega) rfl
           case measure => simp [intOf]; omega)
    · go_wp2
      all_goals first
        | (go_ret; exact skr_zero (by assumption) HS hbl)
        | (go_ret; exact skr_end (by omega) (by assumption) HS hbl)
end Go.Proofs.Ytcmgfelbbmeanaa.Cod
namespace Go.Proofs.Ytcmgfelbbmeanaa.Cod
open Go Go.RowKit Go.Proofs.Ytcmgfelbbmeanaa.Reg

def Ins.isAny (i : Ins) : Bool := i.a == 0 && (i.n == 0 && i.s.toList.isEmpty)
def Ins.isSlot (i : Ins) : Bool := i.n == 0 && i.s.toList.isEmpty
def Ins.isNum (i : Ins) : Bool := i.a == 0 && i.s.toList.isEmpty
def Ins.isName (i : Ins) : Bool := i.a == 0 && (i.n == 0 && decide ((i.s.size : Int) ≤ 1000))
def Ins.isComp (i : Ins) : Bool := i.n == 0 && decide ((i.s.size : Int) ≤ 1000)
def Ins.ok (i : Ins) : Bool :=
  if i.op = 1 then i.isAny else if i.op = 2 ∨ i.op = 3 then i.isSlot else if i.op = 4 then i.isNum else if i.op = 5 then i.isName else i.isComp
abbrev Ins.val (i : Ins) : Value := .agg #[.int .i64 i.op, .int .i64 i.a, .int .i64 i.n, .string i.s]

def Says (b : Bool) (w : World) (e : Ending) (w' : World) : Prop := e = .returned (.bool b) ∧ Below w.heap.size w w'
theorem says {a b : Bool} {w w' : World} (h : a = b) (hb : Below w.heap.size w w') : Says b w (.returned (.bool a)) w' := ⟨by rw [h], hb⟩

theorem is_any (i : Ins) (w : World) : Calls Try.prog 114 #[i.val] w (Says i.isAny w) := by
  go_enter Try.func114, Try.ntmps114
  go_wp2
  all_goals go_ret
  all_goals exact says (by simp [Ins.isAny, *]) ((Below.refl _ _).alloc (Nat.le_refl _) _)
theorem is_slot (i : Ins) (w : World) : Calls Try.prog 115 #[i.val] w (Says i.isSlot w) := by
  go_enter Try.func115, Try.ntmps115
  go_wp2
  all_goals go_ret
  all_goals exact says (by simp [Ins.isSlot, *]) ((Below.refl _ _).alloc (Nat.le_refl _) _)
theorem is_num (i : Ins) (w : World) : Calls Try.prog 116 #[i.val] w (Says i.isNum w) := by
  go_enter Try.func116, Try.ntmps116
  go_wp2
  all_goals go_ret
  all_goals exact says (by simp [Ins.isNum, *]) ((Below.refl _ _).alloc (Nat.le_refl _) _)
theorem is_name (i : Ins) (w : World) : Calls Try.prog 117 #[i.val] w (Says i.isName w) := by
  go_enter Try.func117, Try.ntmps117
  go_wp2
  all_goals go_ret
  all_goals exact says (by simp [Ins.isName, *]) ((Below.refl _ _).alloc (Nat.le_refl _) _)
theorem is_comp (i : Ins) (w : World) : Calls Try.prog 118 #[i.val] w (Says i.isComp w) := by
  go_enter Try.func118, Try.ntmps118
  go_wp2
  all_goals go_ret
  all_goals exact says (by simp [Ins.isComp, *]) ((Below.refl _ _).alloc (Nat.le_refl _) _)
def fnOf (n : Nat) : Value := .func (.func n) #[] #[]
theorem checks_any (w : World) : Calls Try.prog 94 #[] w fun e w' => e = .returned (.agg #[.nilFunc, .func (.func 114) #[] #[], .func (.func 115) #[] #[], .func (.func 115) #[] #[], .func (.func 116) #[] #[], .func (.func 117) #[] #[], .func (.func 118) #[] #[]]) ∧ Below w.heap.size w w' := by
  have hb : ∀ w : World, (Instr.build 189 #[(1, .func (.func 114) #[] #[]), (2, .func (.func 115) #[] #[]), (3, .func (.func 115) #[] #[]), (4, .func (.func 116) #[] #[]), (5, .func (.func 117) #[] #[]), (6, .func (.func 118) #[] #[])]).run Try.prog w =
    .ok (.agg #[.nilFunc, .func (.func 114) #[] #[], .func (.func 115) #[] #[], .func (.func 115) #[] #[], .func (.func 116) #[] #[], .func (.func 117) #[] #[], .func (.func 118) #[] #[]]) w := fun _ => by kernel_rfl
  go_enter Try.func94, Try.ntmps94
  go_wp2
  exact bodyPost_ret (v := .agg #[.nilFunc, .func (.func 114) #[] #[], .func (.func 115) #[] #[], .func (.func 115) #[] #[], .func (.func 116) #[] #[], .func (.func 117) #[] #[], .func (.func 118) #[] #[]]) (by simp [results, Try.results94, go_sem]) rfl ⟨rfl, (Below.refl _ _).alloc (Nat.le_refl _) _⟩
end Go.Proofs.Ytcmgfelbbmeanaa.Cod
namespace Go.Proofs.Ytcmgfelbbmeanaa.Cod
open Go Go.RowKit Go.Proofs.Ytcmgfelbbmeanaa.Reg

def okFn (op : Int) : Nat :=
  if op = 1 then 114 else if op = 2 ∨ op = 3 then 115 else if op = 4 then 116 else if op = 5 then 117 else 118
theorem ok_call (i : Ins) (w : World) (_h1 : 1 ≤ i.op) (_h6 : i.op ≤ 6) : Calls Try.prog (okFn i.op) #[i.val] w (Says i.ok w) := by
  unfold okFn Ins.ok
  split
  · exact is_any i w
  split
  · exact is_slot i w
  split
  · exact is_num i w
  split
  · exact is_name i w
  · exact is_comp i w

theorem ok_enter (op : Int) (args : Array Value) (w : World) : (callFunc (okFn op) args).run Try.prog w = .ok (.enter (okFn op) args) w := by
  unfold okFn
  split
  · kernel_rfl
  split
  · kernel_rfl
  split
  · kernel_rfl
  split
  · kernel_rfl
  · kernel_rfl

/-- the table of checks in memory -/
def Tab (w : World) (b : Nat) : Prop := ∀ op : Nat, 1 ≤ op → op ≤ 6 → w.cell? ⟨b, op, none⟩ = some (.func (.func (okFn op)) #[] #[])

theorem Tab.below {w w' : World} {b B : Nat} (h : Tab w b) (hb : Below B w w') (hlt : b < B) : Tab w' b := fun op h1 h6 => (hb.cell (p := ⟨b, op, none⟩) hlt).trans (h op h1 h6)

theorem tab_new (w : World) (t : TypeId) : Tab (w.alloc (.cells #[.nilFunc, .func (.func 114) #[] #[], .func (.func 115) #[] #[], .func (.func 115) #[] #[], .func (.func 116) #[] #[], .func (.func 117) #[] #[], .func (.func 118) #[] #[]] t)) w.heap.size := by
  intro op h1 h6
  rw [World.cell?_alloc_at _ _ _ _ rfl]
  have : op = 1 ∨ op = 2 ∨ op = 3 ∨ op = 4 ∨ op = 5 ∨ op = 6 := by omega
  rcases this with rfl | rfl | rfl | rfl | rfl | rfl <;> rfl

def PlRel (L : List Ins) (w : World) (b : Nat) (c : Value) (wr : World) : Prop :=
  ∃ k : Nat, k ≤ L.length ∧ c = .int .i64 k ∧ (L.take k).all Ins.ok = true ∧ Below w.heap.size w wr ∧ Tab wr b ∧ b < wr.heap.size ∧ w.heap.size ≤ b

theorem take_ok {L : List Ins} {k : Nat} (hk : k < L.length) (h : (L.take k).all Ins.ok = true) (ho : L[k].ok = true) : (L.take (k + 1)).all Ins.ok = true := by
  rw [List.take_succ_eq_append_getElem hk, List.all_append, h]; simp [ho]
theorem not_ok {L : List Ins} {k : Nat} (hk : k < L.length) (ho : L[k].ok = false) : L.all Ins.ok = false := by
  rw [List.all_eq_false]; exact ⟨L[k], List.getElem_mem hk, by simp [ho]⟩

set_option maxHeartbeats 800000 in
theorem go_plain (L : List Ins) (v : Value) (w : World) (hv : InsSl w v L) (hl : L.length ≤ 1000000) (hop : ∀ i ∈ L, 1 ≤ i.op ∧ i.op ≤ 6) :
    Calls Try.prog 59 #[v] w (Says (L.all Ins.ok) w) := by
  obtain ⟨a, cap, rfl, hc⟩ := hv
  go_enter Try.func59, Try.ntmps59
  go_wp2_with (go_at_call 94; refine (checks_any _).mono ?_; rintro e w1 ⟨rfl, hb1⟩)
  have hT := tab_new w1 189
  generalize hW : (w1.alloc (.cells #[.nilFunc, .func (.func 114) #[] #[], .func (.func 115) #[] #[], .func (.func 115) #[] #[], .func (.func 116) #[] #[], .func (.func 117) #[] #[], .func (.func 118) #[] #[]] 189)) = W at *
  have hst : PlRel L w w1.heap.size (.int .i64 ((0 : Nat) : Int)) W := ⟨0, by omega, rfl, rfl, hW ▸ hb1.alloc hb1.size _, hT, by rw [← hW]; simp, hb1.size⟩
  have H := Lib.hid hst
  clear hst hT hb1 hW
  generalize w1.heap.size = b at *
  go_loopw [9] (fun c wr => PlRel L w b c wr) (fun c _ => L.length - (intOf c).toNat)
  case atStart => exact H.out
  case round =>
    obtain ⟨k, hk, rfl, hall, hbl, hT, hbr, hwb⟩ := hrel
    have HA := Lib.hid hall
    clear hall H
    by_cases hlt : k < L.length
    · obtain ⟨b2, off, rfl, hi⟩ := hc k hlt
      have hi' := hi.below hbl hi.lt
      obtain ⟨g0, g1, g2, g3⟩ := hi'
      have hbr2 : b2 < wr.heap.size := by have := hi.lt; have := hbl.size; omega
      have ⟨o1, o6⟩ := hop L[k] (List.getElem_mem hlt)
      have hyes := take_ok hlt HA.out
      have hno := not_ok (L := L) hlt
      have hlt2 : b2 < w.heap.size := hi.lt
      have H1 := Lib.hid hyes
      have H2 := Lib.hid hno
      have HL := Lib.hid hlt2
      have HT := Lib.hid hT
      clear hyes hno hlt2 hc hi hT hop
      generalize L[k] = i at *
      go_wp2
      have hf0 : ∀ j, (wr.alloc (.cells i.val.cells 115)).cell? ⟨wr.heap.size, j, none⟩ = i.val.cells[j]? := fun j => World.cell?_alloc_at _ _ _ _ rfl
      have hTa : Tab (wr.alloc (.cells i.val.cells 115)) b := fun op h1 h6 => (World.cell?_alloc_past _ _ _ hbr).trans (HT.out op h1 h6)
      have hbl' : Below w.heap.size w (wr.alloc (.cells i.val.cells 115)) := hbl.alloc hbl.size _
      have hbr' : b < (wr.alloc (.cells i.val.cells 115)).heap.size := by simp; omega
      have hbi : wr.heap.size < (wr.alloc (.cells i.val.cells 115)).heap.size := by simp
      simp only [Value.cells] at hf0 hTa hbl' hbr' hbi
      generalize wr.heap.size = bi at *
      generalize (wr.alloc (.cells #[.int .i64 i.op, .int .i64 i.a, .int .i64 i.n, .string i.s] 115)) = W at *
      have f0 := hf0 0
      have f1 := hf0 1
      have f2 := hf0 2
      have f3 := hf0 3
      clear hf0
      obtain ⟨p, hp⟩ : ∃ p : Nat, i.op = p := ⟨i.op.toNat, by omega⟩
      have fT := hTa p (by omega) (by omega)
      obtain ⟨iop, ia, in_, is⟩ := i
      dsimp only at *
      subst hp
      have fs : ∀ u, Below W.heap.size W u → u.cell? ⟨bi, 0, none⟩ = some (.int .i64 p) ∧ u.cell? ⟨bi, 1, none⟩ = some (.int .i64 ia) ∧ u.cell? ⟨bi, 2, none⟩ = some (.int .i64 in_) ∧ u.cell? ⟨bi, 3, none⟩ = some (.string is) ∧ u.cell? ⟨b, p, none⟩ = some (.func (.func (okFn p)) #[] #[]) := fun u hu =>
        ⟨(hu.cell (p := ⟨bi, 0, none⟩) hbi).trans f0, (hu.cell (p := ⟨bi, 1, none⟩) hbi).trans f1, (hu.cell (p := ⟨bi, 2, none⟩) hbi).trans f2, (hu.cell (p := ⟨bi, 3, none⟩) hbi).trans f3, (hu.cell (p := ⟨b, p, none⟩) hbr').trans fT⟩
      clear f0 f1 f2 f3 fT
      refine wp_region_rest (by kernel_rfl) ?_
      have hd : Below W.heap.size W W.drew := (Below.refl _ _).drew
      refine rest_ops 0 5 21 (fun j v _ => match j with | 0 => v = .pointer (some ⟨bi, 0, none⟩) | 1 => v = .int .i64 p | 2 => v = .pointer (some ⟨b, p, none⟩) | 3 => v = .func (.func (okFn p)) #[] #[] | 4 => v = .agg #[.int .i64 p, .int .i64 ia, .int .i64 in_, .string is] | _ => True) (fun _ _ => none) (by kernel_rfl) (by kernel_rfl) rfl (.inr (by kernel_rfl)) ?hS ?hop ?_
      case hS => intro j v u u' _ _ h _; exact h
      case hop =>
        refine ⟨fun v u hu hs Q' hQ => ?_, fun v u hu hs Q' hQ => ?_, fun v u hu hs Q' hQ => ?_, fun v u hu hs Q' hQ => ?_, fun v u hu hs Q' hQ => ?_, trivial⟩
        · simp only [putAll, dstOf]
          obtain ⟨c0, c1, c2, c3, cT⟩ := fs u (hd.trans hu)
          go_wp2
          exact ⟨rfl, Below.refl _ _, rfl, fun _ h => nomatch h⟩
        · simp only [putAll, dstOf]
          have s_0 : v 0 = .pointer (some ⟨bi, 0, none⟩) := hs 0 (by kernel_rfl) (by decide) (by decide)
          obtain ⟨c0, c1, c2, c3, cT⟩ := fs u (hd.trans hu)
          go_wp2
          exact ⟨rfl, Below.refl _ _, rfl, fun _ h => nomatch h⟩
        · simp only [putAll, dstOf]
          have s_1 : v 1 = .int .i64 p := hs 1 (by kernel_rfl) (by decide) (by decide)
          obtain ⟨c0, c1, c2, c3, cT⟩ := fs u (hd.trans hu)
          go_wp2
          exact ⟨rfl, Below.refl _ _, rfl, fun _ h => nomatch h⟩
        · simp only [putAll, dstOf]
          have s_2 : v 2 = .pointer (some ⟨b, p, none⟩) := hs 2 (by kernel_rfl) (by decide) (by decide)
          obtain ⟨c0, c1, c2, c3, cT⟩ := fs u (hd.trans hu)
          go_wp2
          exact ⟨rfl, Below.refl _ _, rfl, fun _ h => nomatch h⟩
        · simp only [putAll, dstOf]
          obtain ⟨c0, c1, c2, c3, cT⟩ := fs u (hd.trans hu)
          go_wp2
          exact ⟨rfl, Below.refl _ _, rfl, fun _ h => nomatch h⟩
      intro v u hu hs hap
      have s_0 : v 0 = .pointer (some ⟨bi, 0, none⟩) := hs 0 (by decide) (by decide)
      have s_1 : v 1 = .int .i64 p := hs 1 (by decide) (by decide)
      have s_2 : v 2 = .pointer (some ⟨b, p, none⟩) := hs 2 (by decide) (by decide)
      have s_3 : v 3 = .func (.func (okFn p)) #[] #[] := hs 3 (by decide) (by decide)
      have s_4 : v 4 = .agg #[.int .i64 p, .int .i64 ia, .int .i64 in_, .string is] := hs 4 (by decide) (by decide)
      simp only [putAll, dstOf]
      replace hu := hd.trans hu
      have hok := ok_call ⟨p, ia, in_, is⟩ u o1 o6
      have hTu := hTa.below hu hbr'
      have hblu := hbl'.trans (hu.mono hbl'.size)
      have hbu : b < u.heap.size := by have := hu.size; omega
      have HK := Lib.hid hok
      clear hok
      have hent := fun args w => ok_enter p args w
      generalize okFn p = fp at *
      refine rest_lineL 5 7 [_, _] rfl (by kernel_rfl) (by decide) (by decide) (by kernel_rfl) ?_
      cases hb : (Ins.ok ⟨p, ia, in_, is⟩)
      · have h2 := H2.out hb
        have HN := Lib.hid h2
        clear h2 hTa hTu
        rw [hb] at HK
        clear hb
        go_wp2_with (refine (HK.out).mono ?_; rintro e w2 ⟨rfl, hb2⟩)
        refine then_rest (rest_end (by decide) ?_)
        go_wp2
        go_ret
        exact says HN.out.symm (hblu.trans (hb2.mono hblu.size))
      · have h1 := H1.out hb
        have HN := Lib.hid h1
        have HTu := Lib.hid hTu
        clear h1 hTa hTu
        rw [hb] at HK
        clear hb
        go_wp2_with (refine (HK.out).mono ?_; rintro e w2 ⟨rfl, hb2⟩)
        refine then_rest (rest_end (by decide) ?_)
        go_wp2
        go_roundw
        case rel => exact ⟨k + 1, by omega, by go_num, HN.out, hblu.trans (hb2.mono hblu.size), HTu.out.below hb2 hbu, by have := hb2.size; omega, hwb⟩
        case measure => simp [intOf]; omega
    · go_wp2
      go_ret
      exact says (by have := HA.out; rw [List.take_of_length_le (by omega)] at this; rw [this]) hbl
end Go.Proofs.Ytcmgfelbbmeanaa.Cod
namespace Go.Proofs.Ytcmgfelbbmeanaa.Cod
open Go Go.RowKit Go.Proofs.Ytcmgfelbbmeanaa.Reg

/-- how many slots were met first, where each stands as it may -/
def slotsN : List Ins → Nat → Option Nat
  | [], n => some n
  | i :: l, n => if i.op = 2 then (if i.a = n then slotsN l (n + 1) else none) else if i.op = 3 ∧ (i.a < 0 ∨ (n : Int) ≤ i.a) then none else slotsN l n
def slotsA (L : List Ins) (k n : Nat) : Option Nat := slotsN (L.drop k) n
def slotsOk (L : List Ins) (s : Int) : Bool := match slotsN L 0 with
  | some n => (n : Int) == s
  | none => false

theorem slotsA_end (L : List Ins) (k n : Nat) (h : L.length ≤ k) : slotsA L k n = some n := by simp [slotsA, List.drop_eq_nil_of_le h, slotsN]
theorem slotsA_cons (L : List Ins) (k n : Nat) (h : k < L.length) : slotsA L k n = if L[k].op = 2 then (if L[k].a = n then slotsA L (k + 1) (n + 1) else none) else if L[k].op = 3 ∧ (L[k].a < 0 ∨ (n : Int) ≤ L[k].a) then none else slotsA L (k + 1) n := by
  unfold slotsA; rw [List.drop_eq_getElem_cons h]; rfl

abbrev codVal (c : Cod) (lv : Value) : Value := .agg #[.string c.name, .int .i64 c.args, .int .i64 c.slots, .int .i64 c.body, lv]

def SlRel (L : List Ins) (W : World) (n c : Value) (wr : World) : Prop :=
  ∃ k m : Nat, k ≤ L.length ∧ m ≤ k ∧ c = .int .i64 k ∧ n = .int .i64 m ∧ slotsA L k m = slotsN L 0 ∧ Below W.heap.size W wr

theorem sl_none {L : List Ins} {s : Int} {x : Option Nat} (h : x = slotsN L 0) (hx : x = none) : slotsOk L s = false := by
  unfold slotsOk; rw [← h, hx]
theorem sl_some {L : List Ins} {s : Int} {x : Option Nat} {m : Nat} (h : x = slotsN L 0) (hx : x = some m) : slotsOk L s = ((m : Int) == s) := by
  unfold slotsOk; rw [← h, hx]

set_option maxHeartbeats 800000 in
theorem go_slots (c : Cod) (v : Value) (w : World) (hv : InsSl w v c.l) (hl : c.l.length ≤ 1000000) :
    Calls Try.prog 60 #[codVal c v] w (Says (slotsOk c.l c.slots) w) := by
  obtain ⟨a, cap, rfl, hc⟩ := hv
  obtain ⟨nm, ar, sl, bo, L⟩ := c
  dsimp only at *
  have hW0 : Below w.heap.size w (w.alloc (.cells #[.string nm, .int .i64 ar, .int .i64 sl, .int .i64 bo, .slice a L.length cap] 51)) := (Below.refl _ _).alloc (Nat.le_refl _) _
  have hf : (w.alloc (.cells #[.string nm, .int .i64 ar, .int .i64 sl, .int .i64 bo, .slice a L.length cap] 51)).cell? ⟨w.heap.size, 2, none⟩ = some (.int .i64 sl) := World.cell?_alloc_at _ _ _ _ rfl
  have hlt : w.heap.size < (w.alloc (.cells #[.string nm, .int .i64 ar, .int .i64 sl, .int .i64 bo, .slice a L.length cap] 51)).heap.size := by simp
  go_enter Try.func60, Try.ntmps60
  go_wp2
  generalize (w.alloc (.cells #[.string nm, .int .i64 ar, .int .i64 sl, .int .i64 bo, .slice a L.length cap] 51)) = W at *
  have hst : SlRel L W (.int .i64 ((0 : Nat) : Int)) (.int .i64 ((0 : Nat) : Int)) W := ⟨0, 0, by omega, by omega, rfl, rfl, rfl, Below.refl _ _⟩
  have H := Lib.hid hst
  clear hst
  go_loopw [3, 9] (fun n c wr => SlRel L W n c wr) (fun _ c _ => L.length - (intOf c).toNat)
  case atStart => exact H.out
  case round =>
    obtain ⟨k, m, hk, hm, rfl, rfl, hs, hbl⟩ := hrel
    have HS := Lib.hid hs
    have hbl0 : Below w.heap.size w wr := hW0.trans (hbl.mono (by omega))
    have hf' := (hbl.cell (p := ⟨w.heap.size, 2, none⟩) hlt).trans hf
    clear hs H hf
    by_cases hkl : k < L.length
    · obtain ⟨b2, off, rfl, hi⟩ := hc k hkl
      have hi' := hi.below hbl0 hi.lt
      obtain ⟨g0, g1, g2, g3⟩ := hi'
      have hbr2 : b2 < wr.heap.size := by have := hi.lt; have := hbl0.size; omega
      have hcons := slotsA_cons L k m hkl
      have HC := Lib.hid hcons
      clear hc hi hcons
      generalize L[k] = i at *
      obtain ⟨iop, ia, in_, is⟩ := i
      dsimp only at *
      by_cases h2 : iop = 2
      · by_cases ha : ia = m
        · subst h2 ha
          go_wp2
          go_roundw
          case rel => exact ⟨k + 1, m + 1, by omega, by omega, by go_num, by go_num, by rw [← HS.out, HC.out]; simp, hbl.alloc hbl.size _⟩
          case measure => simp [intOf]; omega
        · have h3 : (ia != (m : Int)) = true := by simpa using ha
          subst h2
          go_wp2
          go_ret
          exact says (sl_none HS.out (by rw [HC.out]; simp [ha])).symm (hbl0.alloc hbl0.size _)
      · have h3 : (iop == 2) = false := by simpa using h2
        by_cases hb : iop = 3 ∧ (ia < 0 ∨ (m : Int) ≤ ia)
        · obtain ⟨rfl, hb⟩ := hb
          go_wp2
          all_goals go_ret
          all_goals exact says (sl_none HS.out (by rw [HC.out]; simp [hb])).symm (hbl0.alloc hbl0.size _)
        · by_cases h4 : iop = 3
          · have h5 : ¬ ia < 0 := by omega
            have h6 : ¬ (m : Int) ≤ ia := by omega
            subst h4
            go_wp2
            go_roundw
            case rel => exact ⟨k + 1, m, by omega, by omega, by go_num, by go_num, by rw [← HS.out, HC.out]; simp [h5, h6], hbl.alloc hbl.size _⟩
            case measure => simp [intOf]; omega
          · have h7 : (iop == 3) = false := by simpa using h4
            go_wp2
            go_roundw
            case rel => exact ⟨k + 1, m, by omega, by omega, by go_num, by go_num, by rw [← HS.out, HC.out]; simp [h2, h4], hbl.alloc hbl.size _⟩
            case measure => simp [intOf]; omega
    · have he := slotsA_end L k m (by omega)
      have HE := Lib.hid he
      clear he
      go_wp2
      go_ret
      exact says (sl_some HS.out HE.out).symm hbl0
end Go.Proofs.Ytcmgfelbbmeanaa.Cod
namespace Go.Proofs.Ytcmgfelbbmeanaa.Cod
open Go Go.RowKit

/-- where so many patterns, from the first on, end -/
def pfw (L : List Ins) : Nat → Option Nat
  | 0 => some 0
  | i + 1 => match pfw L i with
    | none => none
    | some a => if skip L a < 0 then none else some (skip L a).toNat

theorem pfw_none {L : List Ins} {i n : Nat} (h : pfw L i = none) (hn : i ≤ n) : pfw L n = none := by
  obtain ⟨d, rfl⟩ : ∃ d, n = i + d := ⟨n - i, by omega⟩
  clear hn
  induction d with
  | zero => exact h
  | succ d ih => show pfw L (i + d + 1) = none; unfold pfw; rw [ih]
theorem pfw_le {L : List Ins} : ∀ {i a : Nat}, pfw L i = some a → a ≤ L.length
  | 0, a, h => by simp [pfw] at h; omega
  | i + 1, a, h => by
    unfold pfw at h
    cases h1 : pfw L i with
    | none => simp [h1] at h
    | some q =>
      simp only [h1] at h
      split at h
      · cases h
      · have := skip_hi L q
        simp at h
        omega
theorem pfw_succ {L : List Ins} {i a : Nat} (h : pfw L i = some a) : pfw L (i + 1) = if skip L a < 0 then none else some (skip L a).toNat := by
  show (match pfw L i with | none => none | some a => if skip L a < 0 then none else some (skip L a).toNat) = _
  rw [h]

theorem sk_good : ∀ (l : List Ins) (n j : Nat), sk l n = some j → ∀ i ∈ l.take j, i.bad = false
  | l, 0, j, h => by rw [sk_zero] at h; cases h; simp
  | [], n + 1, j, h => by simp [sk] at h
  | i :: l, n + 1, j, h => by
    unfold sk at h
    cases hb : i.bad with
    | true => simp [hb] at h
    | false =>
      simp only [hb, Bool.false_eq_true, if_false] at h
      cases h1 : sk l (n + i.ar) with
      | none => simp [h1] at h
      | some q =>
        simp only [h1, Option.map_some, Option.some.injEq] at h
        subst h
        intro x hx
        simp only [List.take_succ_cons, List.mem_cons] at hx
        rcases hx with rfl | hx
        · exact hb
        · exact sk_good l _ q h1 x hx

theorem skip_good {L : List Ins} {a : Nat} (h : 0 ≤ skip L a) (ha : ∀ i ∈ L.take a, i.bad = false) : ∀ i ∈ L.take (skip L a).toNat, i.bad = false := by
  rw [skip_nat] at h ⊢
  unfold skA at h ⊢
  cases h1 : sk (L.drop a) 1 with
  | none => simp [h1] at h
  | some j =>
    simp only [] 
    have hj := sk_good _ _ _ h1
    intro i hi
    rw [show ((a : Int) + (j : Int)).toNat = a + j from by omega, List.take_add] at hi
    rcases List.mem_append.1 hi with h | h
    · exact ha i h
    · exact hj i h
theorem pfw_good {L : List Ins} : ∀ {i a : Nat}, pfw L i = some a → ∀ x ∈ L.take a, x.bad = false
  | 0, a, h => by simp [pfw] at h; subst h; simp
  | i + 1, a, h => by
    cases h1 : pfw L i with
    | none => rw [pfw_none h1 (Nat.le_succ i)] at h; cases h
    | some q =>
      rw [pfw_succ h1] at h
      split at h
      · cases h
      · simp at h; subst h
        exact skip_good (by omega) (pfw_good h1)
theorem bad_op {i : Ins} (h : i.bad = false) : 1 ≤ i.op ∧ i.op ≤ 6 := by
  simp [Ins.bad] at h; omega
theorem all_good {L : List Ins} {n a : Nat} (h : pfw L n = some a) (hs : skip L a = L.length) : ∀ i ∈ L, i.bad = false := by
  have := skip_good (L := L) (a := a) (by omega) (pfw_good h)
  rw [hs] at this
  simpa using this
theorem all_op {L : List Ins} {n a : Nat} (h : pfw L n = some a) (hs : skip L a = L.length) : ∀ i ∈ L, 1 ≤ i.op ∧ i.op ≤ 6 := fun i hi => bad_op (all_good h hs i hi)

def tailB (c : Cod) (a : Nat) : Bool := decide ((a : Int) = c.body) && (decide (skip c.l a = c.l.length) && (c.l.all Ins.ok && slotsOk c.l c.slots))
def check (c : Cod) : Int :=
  if 20000 < c.l.length then 3 else if c.args < 0 ∨ 255 < c.args ∨ 1000 < c.name.size ∨ c.slots < 0 then 2 else
  match pfw c.l c.args.toNat with
  | none => 2
  | some a => if tailB c a then 0 else 2

theorem check_long {c : Cod} (h : 20000 < c.l.length) : check c = 3 := by simp [check, h]
theorem check_head {c : Cod} (h : ¬ 20000 < c.l.length) (hh : c.args < 0 ∨ 255 < c.args ∨ 1000 < c.name.size ∨ c.slots < 0) : check c = 2 := by simp [check, h, hh]
theorem check_rest {c : Cod} (h : ¬ 20000 < c.l.length) (hh : ¬ (c.args < 0 ∨ 255 < c.args ∨ 1000 < c.name.size ∨ c.slots < 0)) :
    check c = match pfw c.l c.args.toNat with | none => 2 | some a => if tailB c a then 0 else 2 := by simp [check, h, hh]
theorem check_none {c : Cod} (h : ¬ 20000 < c.l.length) (hh : ¬ (c.args < 0 ∨ 255 < c.args ∨ 1000 < c.name.size ∨ c.slots < 0)) {i : Nat} (hp : pfw c.l i = none) (hi : i ≤ c.args.toNat) : check c = 2 := by
  rw [check_rest h hh, pfw_none hp hi]
theorem check_some {c : Cod} (h : ¬ 20000 < c.l.length) (hh : ¬ (c.args < 0 ∨ 255 < c.args ∨ 1000 < c.name.size ∨ c.slots < 0)) {a : Nat} (hp : pfw c.l c.args.toNat = some a) : check c = if tailB c a then 0 else 2 := by
  rw [check_rest h hh, hp]
end Go.Proofs.Ytcmgfelbbmeanaa.Cod
namespace Go.Proofs.Ytcmgfelbbmeanaa.Cod
open Go Go.RowKit Go.Proofs.Ytcmgfelbbmeanaa.Reg

def Num (n : Int) (w : World) (e : Ending) (w' : World) : Prop := e = .returned (.int .i64 n) ∧ Below w.heap.size w w'
theorem num {a b : Int} {w w' : World} (h : a = b) (hb : Below w.heap.size w w') : Num b w (.returned (.int .i64 a)) w' := ⟨by rw [h], hb⟩

def ChRel (L : List Ins) (q : Nat) (W : World) (n c : Value) (wr : World) : Prop :=
  ∃ i a : Nat, i ≤ q ∧ c = .int .i64 i ∧ n = .int .i64 a ∧ pfw L i = some a ∧ Below W.heap.size W wr

theorem pf_step {L : List Ins} {i a : Nat} (h : pfw L i = some a) (hs : ¬ skip L a < 0) : pfw L (i + 1) = some (skip L a).toNat := by rw [pfw_succ h, if_neg hs]
theorem pf_stop {L : List Ins} {i a : Nat} (h : pfw L i = some a) (hs : skip L a < 0) : pfw L (i + 1) = none := by rw [pfw_succ h, if_pos hs]

set_option maxHeartbeats 1600000 in
theorem go_check (c : Cod) (v : Value) (w : World) (hv : InsSl w v c.l) :
    Calls Try.prog 27 #[codVal c v] w (Num (check c) w) := by
  obtain ⟨aa, cap, rfl, hc⟩ := hv
  by_cases hlen : 20000 < c.l.length
  · have hR := check_long hlen
    have HR := Lib.hid hR
    clear hR hc
    go_enter Try.func27, Try.ntmps27
    go_wp2
    go_ret
    exact num HR.out.symm ((Below.refl _ _).alloc (Nat.le_refl _) _)
  by_cases hh : c.args < 0 ∨ 255 < c.args ∨ 1000 < c.name.size ∨ c.slots < 0
  · have hR := check_head hlen hh
    have HR := Lib.hid hR
    clear hR hc
    go_enter Try.func27, Try.ntmps27
    go_wp2
    all_goals first
      | (go_ret; exact num HR.out.symm ((Below.refl _ _).alloc (Nat.le_refl _) _))
      | (exfalso; omega)
  have hnone := fun i hp hi => check_none (i := i) hlen hh hp hi
  have hsome := fun a hp => check_some (a := a) hlen hh hp
  obtain ⟨nm, ar, sl, bo, L⟩ := c
  dsimp only at *
  have h1 : ¬ ar < 0 := by omega
  have h2 : ¬ 255 < ar := by omega
  have h3 : ¬ 1000 < nm.size := by omega
  have h4 : ¬ sl < 0 := by omega
  clear hh
  obtain ⟨n, rfl⟩ : ∃ n : Nat, ar = n := ⟨ar.toNat, by omega⟩
  simp only [Int.toNat_natCast] at hnone hsome
  have HN := Lib.hid hnone
  have HS := Lib.hid hsome
  have hv : InsSl w (.slice aa L.length cap) L := ⟨aa, cap, rfl, hc⟩
  have HV := Lib.hid hv
  have hW0 : Below w.heap.size w (w.alloc (.cells #[.string nm, .int .i64 n, .int .i64 sl, .int .i64 bo, .slice aa L.length cap] 51)) := (Below.refl _ _).alloc (Nat.le_refl _) _
  have hf : ∀ j, (w.alloc (.cells #[.string nm, .int .i64 n, .int .i64 sl, .int .i64 bo, .slice aa L.length cap] 51)).cell? ⟨w.heap.size, j, none⟩ = #[Value.string nm, .int .i64 n, .int .i64 sl, .int .i64 bo, .slice aa L.length cap][j]? := fun j => World.cell?_alloc_at _ _ _ _ rfl
  have hlt : w.heap.size < (w.alloc (.cells #[.string nm, .int .i64 n, .int .i64 sl, .int .i64 bo, .slice aa L.length cap] 51)).heap.size := by simp
  have HF := Lib.hid hf
  clear hnone hsome hc hv hf
  go_enter Try.func27, Try.ntmps27
  go_wp2
  generalize (w.alloc (.cells #[.string nm, .int .i64 n, .int .i64 sl, .int .i64 bo, .slice aa L.length cap] 51)) = W at *
  have hst : ChRel L n W (.int .i64 ((0 : Nat) : Int)) (.int .i64 ((0 : Nat) : Int)) W := ⟨0, 0, by omega, rfl, rfl, rfl, Below.refl _ _⟩
  have H := Lib.hid hst
  clear hst
  go_loopw [3, 29] (fun a i wr => ChRel L n W a i wr) (fun _ c _ => n - (intOf c).toNat)
  case atStart => exact H.out
  case round =>
    obtain ⟨i, a, hin, rfl, rfl, hp, hbl⟩ := hrel
    have HP := Lib.hid hp
    have hbl0 : Below w.heap.size w wr := hW0.trans (hbl.mono (by omega))
    have g : ∀ j, wr.cell? ⟨w.heap.size, j, none⟩ = #[Value.string nm, .int .i64 n, .int .i64 sl, .int .i64 bo, .slice aa L.length cap][j]? := fun j => (hbl.cell (p := ⟨w.heap.size, j, none⟩) hlt).trans (HF.out j)
    have g0 := g 0
    have g1 := g 1
    have g2 := g 2
    have g3 := g 3
    have g4 := g 4
    have hVr := HV.out.below hbl0
    have HVr := Lib.hid hVr
    have hltr : w.heap.size < wr.heap.size := by have := hbl.size; omega
    clear hp H g hVr
    by_cases hi : i < n
    · by_cases hs : skip L a < 0
      · go_wp2_with (go_at_call 58; refine (go_skip L _ _ _ HVr.out (by omega)).mono ?_; rintro e w1 ⟨rfl, hb1⟩)
        go_ret
        exact num (HN.out (i + 1) (pf_stop HP.out hs) (by omega)).symm (hbl0.trans (hb1.mono hbl0.size))
      · go_wp2_with (go_at_call 58; refine (go_skip L _ _ _ HVr.out (by omega)).mono ?_; rintro e w1 ⟨rfl, hb1⟩)
        go_roundw
        case rel => exact ⟨i + 1, (skip L a).toNat, by omega, by go_num, by congr 1; omega, pf_step HP.out (by omega), hbl.trans (hb1.mono hbl.size)⟩
        case measure => simp [intOf]; omega
    · obtain rfl : i = n := by omega
      have hres := HS.out a HP.out
      have HR := Lib.hid hres
      have hop := fun hs => all_op HP.out hs
      have HO := Lib.hid hop
      have hble := pfw_le HP.out
      clear hop hres
      go_wp2
      refine wp_region_rest (by kernel_rfl) ?_
      have hd : Below wr.heap.size wr wr.drew := (Below.refl _ _).drew
      have hW : Below w.heap.size w wr.drew := hbl0.drew
      have hltW : w.heap.size < wr.drew.heap.size := hltr
      have fs : ∀ u, Below wr.drew.heap.size wr.drew u → u.cell? ⟨w.heap.size, 0, none⟩ = some (.string nm) ∧ u.cell? ⟨w.heap.size, 1, none⟩ = some (.int .i64 i) ∧ u.cell? ⟨w.heap.size, 2, none⟩ = some (.int .i64 sl) ∧ u.cell? ⟨w.heap.size, 3, none⟩ = some (.int .i64 bo) ∧ u.cell? ⟨w.heap.size, 4, none⟩ = some (.slice aa L.length cap) := fun u hu =>
        ⟨((hd.trans hu).cell (p := ⟨w.heap.size, 0, none⟩) hltr).trans g0, ((hd.trans hu).cell (p := ⟨w.heap.size, 1, none⟩) hltr).trans g1, ((hd.trans hu).cell (p := ⟨w.heap.size, 2, none⟩) hltr).trans g2, ((hd.trans hu).cell (p := ⟨w.heap.size, 3, none⟩) hltr).trans g3, ((hd.trans hu).cell (p := ⟨w.heap.size, 4, none⟩) hltr).trans g4⟩
      have FS := Lib.hid fs
      clear fs g0 g1 g2 g3 g4
      generalize wr.drew = W0 at *
      by_cases hbo : (a : Int) = bo
      · have hbo' : ((a : Int) != bo) = false := by simpa using hbo
        have HBO := Lib.hid hbo
        clear hbo
        refine rest_ops 0 3 63 (fun j v _ => match j with | 0 => v = .int .i64 a | 1 => v = .pointer (some ⟨w.heap.size, 3, none⟩) | 2 => v = .int .i64 bo | _ => True) (fun _ _ => none) (by kernel_rfl) (by kernel_rfl) rfl (.inr (by kernel_rfl)) ?hS ?hop ?_
        case hS => intro j v u u' _ _ h _; exact h
        case hop =>
          refine ⟨fun v u hu hs Q' hQ => ?_, fun v u hu hs Q' hQ => ?_, fun v u hu hs Q' hQ => ?_, trivial⟩
          · simp only [putAll, dstOf]
            have c3 := (FS.out u hu).2.2.2.1
            go_wp2
            exact ⟨rfl, Below.refl _ _, rfl, fun _ h => nomatch h⟩
          · simp only [putAll, dstOf]
            have c3 := (FS.out u hu).2.2.2.1
            go_wp2
            exact ⟨rfl, Below.refl _ _, rfl, fun _ h => nomatch h⟩
          · simp only [putAll, dstOf]
            have s_1 : v 1 = .pointer (some ⟨w.heap.size, 3, none⟩) := hs 1 (by kernel_rfl) (by decide) (by decide)
            have c3 := (FS.out u hu).2.2.2.1
            go_wp2
            exact ⟨rfl, Below.refl _ _, rfl, fun _ h => nomatch h⟩
        intro v u hu hs hap
        have s_0 : v 0 = .int .i64 a := hs 0 (by decide) (by decide)
        have s_1 : v 1 = .pointer (some ⟨w.heap.size, 3, none⟩) := hs 1 (by decide) (by decide)
        have s_2 : v 2 = .int .i64 bo := hs 2 (by decide) (by decide)
        simp only [putAll, dstOf]
        refine rest_lineL 3 4 [_] rfl (by kernel_rfl) (by decide) (by decide) (by kernel_rfl) ?_
        go_wp2
        have hu3 := hu
        have hw3 : Below w.heap.size w u := hW.trans (hu.mono hW.size)
        clear hs hap s_0 s_1 s_2 v
        refine then_rest ?_
        refine rest_ops 4 12 63 (fun j v _ => match j with | 4 => v = .bool false | 5 => v = .pointer (some ⟨w.heap.size, 4, none⟩) | 6 => v = .slice aa L.length cap | 7 => v = .int .i64 a | 8 => v = .int .i64 (skip L a) | 9 => v = .pointer (some ⟨w.heap.size, 4, none⟩) | 10 => v = .slice aa L.length cap | 11 => v = .int .i64 L.length | _ => True) (fun _ _ => none) (by kernel_rfl) (by kernel_rfl) rfl (.inr (by kernel_rfl)) ?hS ?hop ?_
        case hS => intro j v u u' _ _ h _; exact h
        case hop =>
          refine ⟨fun v u hu hs Q' hQ => ?_, fun v u hu hs Q' hQ => ?_, fun v u hu hs Q' hQ => ?_, fun v u hu hs Q' hQ => ?_, fun v u hu hs Q' hQ => ?_, fun v u hu hs Q' hQ => ?_, fun v u hu hs Q' hQ => ?_, fun v u hu hs Q' hQ => ?_, trivial⟩
          · simp only [putAll, dstOf]
            have q := FS.out _ (hu3.trans (hu.mono hu3.size))
            have c4 := q.2.2.2.2
            clear q
            go_wp2
            exact ⟨rfl, Below.refl _ _, rfl, fun _ h => nomatch h⟩
          · simp only [putAll, dstOf]
            have s_4 : v 4 = .bool false := hs 4 (by kernel_rfl) (by decide) (by decide)
            have q := FS.out _ (hu3.trans (hu.mono hu3.size))
            have c4 := q.2.2.2.2
            clear q
            go_wp2
            exact ⟨rfl, Below.refl _ _, rfl, fun _ h => nomatch h⟩
          · simp only [putAll, dstOf]
            have s_4 : v 4 = .bool false := hs 4 (by kernel_rfl) (by decide) (by decide)
            have s_5 : v 5 = .pointer (some ⟨w.heap.size, 4, none⟩) := hs 5 (by kernel_rfl) (by decide) (by decide)
            have q := FS.out _ (hu3.trans (hu.mono hu3.size))
            have c4 := q.2.2.2.2
            clear q
            go_wp2
            exact ⟨rfl, Below.refl _ _, rfl, fun _ h => nomatch h⟩
          · simp only [putAll, dstOf]
            have s_4 : v 4 = .bool false := hs 4 (by kernel_rfl) (by decide) (by decide)
            have q := FS.out _ (hu3.trans (hu.mono hu3.size))
            have c4 := q.2.2.2.2
            clear q
            go_wp2
            exact ⟨rfl, Below.refl _ _, rfl, fun _ h => nomatch h⟩
          · simp only [putAll, dstOf]
            have s_4 : v 4 = .bool false := hs 4 (by kernel_rfl) (by decide) (by decide)
            have s_6 : v 6 = .slice aa L.length cap := hs 6 (by kernel_rfl) (by decide) (by decide)
            have s_7 : v 7 = .int .i64 a := hs 7 (by kernel_rfl) (by decide) (by decide)
            have q := FS.out _ (hu3.trans (hu.mono hu3.size))
            have c4 := q.2.2.2.2
            clear q
            go_wp2_with (go_at_call 58; refine (go_skip L _ _ _ (HV.out.below (hw3.trans (hu.mono hw3.size))) (by omega)).mono ?_; rintro e w1 ⟨rfl, hb1⟩)
            exact ⟨rfl, hb1, rfl, fun _ h => nomatch h⟩
          · simp only [putAll, dstOf]
            have s_4 : v 4 = .bool false := hs 4 (by kernel_rfl) (by decide) (by decide)
            have q := FS.out _ (hu3.trans (hu.mono hu3.size))
            have c4 := q.2.2.2.2
            clear q
            go_wp2
            exact ⟨rfl, Below.refl _ _, rfl, fun _ h => nomatch h⟩
          · simp only [putAll, dstOf]
            have s_4 : v 4 = .bool false := hs 4 (by kernel_rfl) (by decide) (by decide)
            have s_9 : v 9 = .pointer (some ⟨w.heap.size, 4, none⟩) := hs 9 (by kernel_rfl) (by decide) (by decide)
            have q := FS.out _ (hu3.trans (hu.mono hu3.size))
            have c4 := q.2.2.2.2
            clear q
            go_wp2
            exact ⟨rfl, Below.refl _ _, rfl, fun _ h => nomatch h⟩
          · simp only [putAll, dstOf]
            have s_4 : v 4 = .bool false := hs 4 (by kernel_rfl) (by decide) (by decide)
            have s_10 : v 10 = .slice aa L.length cap := hs 10 (by kernel_rfl) (by decide) (by decide)
            have q := FS.out _ (hu3.trans (hu.mono hu3.size))
            have c4 := q.2.2.2.2
            clear q
            go_wp2
            exact ⟨rfl, Below.refl _ _, rfl, fun _ h => nomatch h⟩
        intro v u hu hs hap
        have s_4 : v 4 = .bool false := hs 4 (by decide) (by decide)
        have s_5 : v 5 = .pointer (some ⟨w.heap.size, 4, none⟩) := hs 5 (by decide) (by decide)
        have s_6 : v 6 = .slice aa L.length cap := hs 6 (by decide) (by decide)
        have s_7 : v 7 = .int .i64 a := hs 7 (by decide) (by decide)
        have s_8 : v 8 = .int .i64 (skip L a) := hs 8 (by decide) (by decide)
        have s_9 : v 9 = .pointer (some ⟨w.heap.size, 4, none⟩) := hs 9 (by decide) (by decide)
        have s_10 : v 10 = .slice aa L.length cap := hs 10 (by decide) (by decide)
        have s_11 : v 11 = .int .i64 L.length := hs 11 (by decide) (by decide)
        simp only [putAll, dstOf]
        have hu4 := hu3.trans (hu.mono hu3.size)
        have hw4 : Below w.heap.size w u := hw3.trans (hu.mono hw3.size)
        have q := FS.out _ hu4
        have c0 := q.1
        have c1 := q.2.1
        have c2 := q.2.2.1
        have c3 := q.2.2.2.1
        have c4 := q.2.2.2.2
        clear hs hap q hu hu3 hw3
        by_cases hsk : skip L a = L.length
        · have hsk' : (skip L a != (L.length : Int)) = false := by simpa using hsk
          have ho := HO.out hsk
          have HO' := Lib.hid ho
          have hgo := go_plain L (.slice aa L.length cap) u (HV.out.below hw4) (by omega) ho
          have HG := Lib.hid hgo
          have htb : tailB ⟨nm, i, sl, bo, L⟩ a = (L.all Ins.ok && slotsOk L sl) := by simp [tailB, HBO.out]; simp [← HBO.out, hsk]
          have HT := Lib.hid htb
          clear htb hsk ho hgo
          have hltu : w.heap.size < u.heap.size := by have := hu4.size; omega
          cases hall : L.all Ins.ok
          · have hr2 := HR.out
            rw [HT.out, hall] at hr2
            rw [hall] at HG
            have HR2 := Lib.hid hr2
            clear hr2 hall
            refine rest_lineL 12 25 [_, _, _, _, _, _, _, _, _, _, _, _, _] rfl (by kernel_rfl) (by decide) (by decide) (by kernel_rfl) ?_
            go_wp2_with (go_at_call 59; refine (HG.out).mono ?_; rintro e w1 ⟨rfl, hb1⟩)
            refine then_rest (rest_end (by decide) ?_)
            go_wp2
            go_ret
            exact num HR2.out.symm (hw4.trans (hb1.mono hw4.size))
          · rw [hall] at HG
            have hal : Hid (L.all Ins.ok = true) := Lib.hid hall
            clear hall
            cases hsl : slotsOk L sl
            all_goals
              have hr2 := HR.out
              rw [HT.out, hal.out, hsl] at hr2
              have HR2 := Lib.hid hr2
              have HSL := Lib.hid hsl
              clear hr2 hsl
              refine rest_lineL 12 25 [_, _, _, _, _, _, _, _, _, _, _, _, _] rfl (by kernel_rfl) (by decide) (by decide) (by kernel_rfl) ?_
              go_wp2_with (first | (go_at_call 59; refine (HG.out).mono ?_; rintro e w1 ⟨rfl, hb1⟩; have d0 := (hb1.cell (p := ⟨w.heap.size, 0, none⟩) hltu).trans c0; have d1 := (hb1.cell (p := ⟨w.heap.size, 1, none⟩) hltu).trans c1; have d2 := (hb1.cell (p := ⟨w.heap.size, 2, none⟩) hltu).trans c2; have d3 := (hb1.cell (p := ⟨w.heap.size, 3, none⟩) hltu).trans c3; have d4 := (hb1.cell (p := ⟨w.heap.size, 4, none⟩) hltu).trans c4; have hw5 := hw4.trans (hb1.mono hw4.size)) | (go_at_call 60; refine (go_slots ⟨nm, i, sl, bo, L⟩ _ _ (HV.out.below hw5) (by dsimp only; omega)).mono ?_; rintro e w2 ⟨rfl, hb2⟩; simp only [HSL.out]))
              refine then_rest (rest_end (by decide) ?_)
              go_wp2
              go_ret
              exact num HR2.out.symm (hw5.trans (hb2.mono hw5.size))
        · have hsk' : (skip L a != (L.length : Int)) = true := by simpa using hsk
          have htb : tailB ⟨nm, i, sl, bo, L⟩ a = false := by simp [tailB, hsk]
          have hr2 := HR.out
          rw [htb] at hr2
          have HR2 := Lib.hid hr2
          clear htb hsk hr2
          refine rest_lineL 12 25 [_, _, _, _, _, _, _, _, _, _, _, _, _] rfl (by kernel_rfl) (by decide) (by decide) (by kernel_rfl) ?_
          go_wp2
          refine then_rest (rest_end (by decide) ?_)
          go_wp2
          go_ret
          exact num HR2.out.symm hw4
      · have hbo' : ((a : Int) != bo) = true := by simpa using hbo
        have htb : tailB ⟨nm, i, sl, bo, L⟩ a = false := by simp [tailB, hbo]
        have hr2 := HR.out
        rw [htb] at hr2
        have HR2 := Lib.hid hr2
        clear htb hbo hr2
        refine rest_ops 0 3 63 (fun j v _ => match j with | 0 => v = .int .i64 a | 1 => v = .pointer (some ⟨w.heap.size, 3, none⟩) | 2 => v = .int .i64 bo | _ => True) (fun _ _ => none) (by kernel_rfl) (by kernel_rfl) rfl (.inr (by kernel_rfl)) ?hS ?hop ?_
        case hS => intro j v u u' _ _ h _; exact h
        case hop =>
          refine ⟨fun v u hu hs Q' hQ => ?_, fun v u hu hs Q' hQ => ?_, fun v u hu hs Q' hQ => ?_, trivial⟩
          · simp only [putAll, dstOf]
            have c3 := (FS.out u hu).2.2.2.1
            go_wp2
            exact ⟨rfl, Below.refl _ _, rfl, fun _ h => nomatch h⟩
          · simp only [putAll, dstOf]
            have c3 := (FS.out u hu).2.2.2.1
            go_wp2
            exact ⟨rfl, Below.refl _ _, rfl, fun _ h => nomatch h⟩
          · simp only [putAll, dstOf]
            have s_1 : v 1 = .pointer (some ⟨w.heap.size, 3, none⟩) := hs 1 (by kernel_rfl) (by decide) (by decide)
            have c3 := (FS.out u hu).2.2.2.1
            go_wp2
            exact ⟨rfl, Below.refl _ _, rfl, fun _ h => nomatch h⟩
        intro v u hu hs hap
        have s_0 : v 0 = .int .i64 a := hs 0 (by decide) (by decide)
        have s_1 : v 1 = .pointer (some ⟨w.heap.size, 3, none⟩) := hs 1 (by decide) (by decide)
        have s_2 : v 2 = .int .i64 bo := hs 2 (by decide) (by decide)
        simp only [putAll, dstOf]
        refine rest_lineL 3 4 [_] rfl (by kernel_rfl) (by decide) (by decide) (by kernel_rfl) ?_
        go_wp2
        have hw3 : Below w.heap.size w u := hW.trans (hu.mono hW.size)
        clear hs hap s_0 s_1 s_2 v
        refine then_rest ?_
        refine rest_ops 4 12 63 (fun j v _ => match j with | 4 => v = .bool true | _ => True) (fun _ _ => none) (by kernel_rfl) (by kernel_rfl) rfl (.inr (by kernel_rfl)) ?hS ?hop ?_
        case hS => intro j v u u' _ _ h _; exact h
        case hop =>
          refine ⟨fun v u hu hs Q' hQ => ?_, fun v u hu hs Q' hQ => ?_, fun v u hu hs Q' hQ => ?_, fun v u hu hs Q' hQ => ?_, fun v u hu hs Q' hQ => ?_, fun v u hu hs Q' hQ => ?_, fun v u hu hs Q' hQ => ?_, fun v u hu hs Q' hQ => ?_, trivial⟩
          · simp only [putAll, dstOf]
            go_wp2
            exact ⟨rfl, Below.refl _ _, rfl, fun _ h => nomatch h⟩
          · simp only [putAll, dstOf]
            have s_4 : v 4 = .bool true := hs 4 (by kernel_rfl) (by decide) (by decide)
            go_wp2
            exact ⟨rfl, Below.refl _ _, trivial, fun _ h => nomatch h⟩
          · simp only [putAll, dstOf]
            have s_4 : v 4 = .bool true := hs 4 (by kernel_rfl) (by decide) (by decide)
            go_wp2
            exact ⟨rfl, Below.refl _ _, trivial, fun _ h => nomatch h⟩
          · simp only [putAll, dstOf]
            have s_4 : v 4 = .bool true := hs 4 (by kernel_rfl) (by decide) (by decide)
            go_wp2
            exact ⟨rfl, Below.refl _ _, trivial, fun _ h => nomatch h⟩
          · simp only [putAll, dstOf]
            have s_4 : v 4 = .bool true := hs 4 (by kernel_rfl) (by decide) (by decide)
            go_wp2
            exact ⟨rfl, Below.refl _ _, trivial, fun _ h => nomatch h⟩
          · simp only [putAll, dstOf]
            have s_4 : v 4 = .bool true := hs 4 (by kernel_rfl) (by decide) (by decide)
            go_wp2
            exact ⟨rfl, Below.refl _ _, trivial, fun _ h => nomatch h⟩
          · simp only [putAll, dstOf]
            have s_4 : v 4 = .bool true := hs 4 (by kernel_rfl) (by decide) (by decide)
            go_wp2
            exact ⟨rfl, Below.refl _ _, trivial, fun _ h => nomatch h⟩
          · simp only [putAll, dstOf]
            have s_4 : v 4 = .bool true := hs 4 (by kernel_rfl) (by decide) (by decide)
            go_wp2
            exact ⟨rfl, Below.refl _ _, trivial, fun _ h => nomatch h⟩
        intro v u hu hs hap
        have s_4 : v 4 = .bool true := hs 4 (by decide) (by decide)
        simp only [putAll, dstOf]
        have hw4 : Below w.heap.size w u := hw3.trans (hu.mono hw3.size)
        clear hs hap
        refine rest_lineL 12 25 [_, _, _, _, _, _, _, _, _, _, _, _, _] rfl (by kernel_rfl) (by decide) (by decide) (by kernel_rfl) ?_
        go_wp2
        refine then_rest (rest_end (by decide) ?_)
        go_wp2
        go_ret
        exact num HR2.out.symm hw4
end Go.Proofs.Ytcmgfelbbmeanaa.Cod
namespace Go.Proofs.Ytcmgfelbbmeanaa.Cod
open Go Go.RowKit Go.Proofs.Ytcmgfelbbmeanaa.Reg

end Go.Proofs.Ytcmgfelbbmeanaa.Cod
namespace Go.Proofs.Ytcmgfelbbmeanaa.Cod
open Go Go.RowKit Go.Proofs.Ytcmgfelbbmeanaa.Reg

/-- the first loop of the reference's Check -/
def RcRel (L : List Ins) (n : Nat) (bo : Int) (W : World) (z c : Value) (wr : World) : Prop :=
  ∃ (i : Nat) (y : Int), c = .int .i64 i ∧ z = .int .i64 y ∧ Below W.heap.size W wr ∧
    ((i ≤ n ∧ ∃ a : Nat, y = a ∧ pfw L i = some a) ∨ (i = n + 1 ∧ ∃ a : Nat, pfw L n = some a ∧ (a : Int) = bo ∧ ¬ skip L a < 0 ∧ y = skip L a))

/-- the second loop -/
def RdRel (L : List Ins) (W : World) (m c : Value) (wr : World) : Prop :=
  ∃ k q : Nat, k ≤ L.length ∧ q ≤ k ∧ c = .int .i64 k ∧ m = .int .i64 q ∧ slotsA L k q = slotsN L 0 ∧ (L.take k).all Ins.ok = true ∧ Below W.heap.size W wr

theorem tail_no {c : Cod} {a : Nat} (h : c.l.all Ins.ok = false ∨ slotsOk c.l c.slots = false) : tailB c a = false := by
  rcases h with h | h <;> simp [tailB, h]
theorem tail_is {c : Cod} {a : Nat} (h1 : (a : Int) = c.body) (h2 : skip c.l a = c.l.length) (h3 : c.l.all Ins.ok = true) : tailB c a = slotsOk c.l c.slots := by
  simp [tailB, h2, h3]; intro; exact h1

end Go.Proofs.Ytcmgfelbbmeanaa.Cod
namespace Go.Proofs.Ytcmgfelbbmeanaa.Cod
open Go Go.RowKit Go.Proofs.Ytcmgfelbbmeanaa.Reg

def Ins.cells (i : Ins) : List Value := [.int .i64 i.op, .int .i64 i.a, .int .i64 i.n, .string i.s]
def flat (L : List Ins) : List Value := L.flatMap Ins.cells
theorem flat_len (L : List Ins) : (flat L).length = L.length * 4 := by
  induction L with
  | nil => rfl
  | cons i L ih => simp only [flat, List.flatMap_cons, List.length_append, List.length_cons] at ih ⊢; rw [ih]; simp [Ins.cells]; omega
theorem flat_get : ∀ (L : List Ins) (j q : Nat) (h : j < L.length), q < 4 → (flat L)[j * 4 + q]? = (L[j].cells)[q]?
  | i :: L, 0, q, h, hq => by
    show (i.cells ++ flat L)[0 * 4 + q]? = _
    rw [List.getElem?_append_left (by simp [Ins.cells]; omega)]
    simp
  | i :: L, j + 1, q, h, hq => by
    show (i.cells ++ flat L)[(j + 1) * 4 + q]? = _
    rw [List.getElem?_append_right (by simp [Ins.cells]; omega), show (j + 1) * 4 + q - i.cells.length = j * 4 + q from by simp [Ins.cells]; omega]
    exact flat_get L j q (by simpa using h) hq
theorem flat_snoc (L : List Ins) (k : Nat) (h : k < L.length) : flat (L.take (k + 1)) = flat (L.take k) ++ L[k].cells := by
  rw [List.take_succ_eq_append_getElem h]; unfold flat; rw [List.flatMap_append, List.flatMap_cons, List.flatMap_nil, List.append_nil]
theorem cells_one (i : Ins) : ∀ u ∈ i.cells, u.oneCell' = true := by
  intro u hu; simp [Ins.cells] at hu; rcases hu with rfl | rfl | rfl | rfl <;> rfl
theorem cells_new (w : World) (cs : Array Value) (t : TypeId) : ∀ j u, cs.toList[j]? = some u → (w.alloc (.cells cs t)).cell? ((⟨w.heap.size, 0, none⟩ : Addr).add j) = some u := by
  intro j u hu
  rw [Addr.add_lit, World.cell?_alloc_at _ _ _ _ rfl]
  simpa using hu
theorem cells_at (w : World) (cs : Array Value) (t : TypeId) {n : Nat} (hn : n = w.heap.size) : ∀ j u, cs.toList[j]? = some u → (w.alloc (.cells cs t)).cell? ((⟨n, 0, none⟩ : Addr).add j) = some u := by
  subst hn; exact cells_new w cs t
theorem insSl_of_owns {w : World} {base : Nat} {e : TypeId} {v : Value} {L : List Ins} (h : w.ownsRow base e 4 v L.length (flat L)) : InsSl w v L := by
  rcases h.2 with ⟨rfl, h0⟩ | ⟨g, cap, cur, rfl, _, hg, _, _, _, ht⟩
  · obtain rfl := List.length_eq_zero_iff.1 h0
    exact InsSl.nil _ _ _
  · refine ⟨_, cap, rfl, fun j hj => ⟨g, 0, rfl, ?_⟩⟩
    have key : ∀ q, q < 4 → w.cell? ⟨g, 0 + j * 4 + q, none⟩ = (L[j].cells)[q]? := fun q hq => by
      rw [cell_of_row w g _ cur e (0, 0) hg, ← flat_get L j q hj hq, ← ht, List.getElem?_take, if_pos (by omega)]
      simp
    exact ⟨key 0 (by omega), key 1 (by omega), key 2 (by omega), key 3 (by omega)⟩

def Gives (c : Cod) (w : World) (e : Ending) (w' : World) : Prop := ∃ v, e = .returned (codVal c v) ∧ InsSl w' v c.l ∧ Below w.heap.size w w'
def GivesOwn (T : TypeId) (c : Cod) (w : World) (e : Ending) (w' : World) : Prop := ∃ v, e = .returned (codVal c v) ∧ w'.ownsRow w.heap.size T 4 v c.l.length (flat c.l) ∧ Below w.heap.size w w'

def ToRel (L : List Ins) (nm : ByteArray) (ar sl bo : Int) (T E : TypeId) (B : Nat) (W : World) (c : Value) (wr : World) : Prop :=
  ∃ (k : Nat) (sv : Value), k ≤ L.length ∧ c = .int .i64 k ∧ wr.heap[B + 2]? = some (.cells #[.string nm, .int .i64 ar, .int .i64 sl, .int .i64 bo, sv] T (0, 0)) ∧
    wr.ownsRow (B + 3) E 4 sv k (flat (L.take k)) ∧ Below (B + 2) W wr

theorem to_start {L : List Ins} {nm : ByteArray} {ar sl bo : Int} {T E : TypeId} {B : Nat} {W : World} (h : W.heap[B + 2]? = some (.cells #[.string nm, .int .i64 ar, .int .i64 sl, .int .i64 bo, .slice none 0 0] T (0, 0))) :
    ToRel L nm ar sl bo T E B W (.int .i64 ((0 : Nat) : Int)) W :=
  ⟨0, _, Nat.zero_le _, rfl, h, by simpa [flat] using World.ownsRow_nil W (B + 3) E 4, Below.refl _ _⟩

theorem to_step {L : List Ins} {nm : ByteArray} {ar sl bo : Int} {T E : TypeId} {B k : Nat} {W wr w1 : World} {sv v' : Value} {o o' : Obj} (hk : k < L.length) (hB : B + 3 ≤ wr.heap.size)
    (hblk : wr.heap[B + 2]? = some (.cells #[.string nm, .int .i64 ar, .int .i64 sl, .int .i64 bo, sv] T (0, 0))) (hown : wr.ownsRow (B + 3) E 4 sv k (flat (L.take k))) (hbl : Below (B + 2) W wr)
    (hown' : w1.ownsRow (B + 3) E 4 v' (k + 1) (flat (L.take k) ++ L[k].cells)) (hgrow : ((wr.alloc o).alloc o').grownBy w1 sv.ownBlock) :
    ToRel L nm ar sl bo T E B W (.int .i64 ((k : Int) + 1)) (w1.setCell ⟨B + 2, 4, none⟩ v') ∧ w1.heap[B + 2]? = some (.cells #[.string nm, .int .i64 ar, .int .i64 sl, .int .i64 bo, sv] T (0, 0)) := by
  have hne : some (B + 2) ≠ sv.ownBlock := fun h => by have := (hown.lt _ h.symm).1; omega
  have h1 : w1.heap[B + 2]? = some (.cells #[.string nm, .int .i64 ar, .int .i64 sl, .int .i64 bo, sv] T (0, 0)) := by
    rw [hgrow.block (B + 2) (by simp; omega) hne, Below.heap_alloc _ _ _ (by simp; omega), Below.heap_alloc _ _ _ (by omega)]
    exact hblk
  refine ⟨⟨k + 1, v', by omega, rfl, heap_setCell_same _ _ _ _ _ _ h1, ?_, ?_⟩, h1⟩
  · rw [flat_snoc L k hk]
    exact ownsRow_setCell_below hown' (by show B + 2 < B + 3; omega) _
  · refine Below.setCell ?_ (by show B + 2 ≤ B + 2; omega) _
    exact ((hbl.alloc (by omega) _).alloc (by simp; omega) _).grown hgrow (by simp; omega) fun j hj => by have := (hown.lt j hj).1; omega

theorem owns_form {w : World} {base : Nat} {e : TypeId} {size : Nat} {v : Value} {n : Nat} {xs : List Value} (h : w.ownsRow base e size v n xs) : ∃ a cap, v = .slice a n cap := by
  rcases h.2 with ⟨rfl, rfl⟩ | ⟨g, cap, cur, rfl, _⟩
  · exact ⟨_, _, rfl⟩
  · exact ⟨_, _, rfl⟩

theorem owns_lower {w : World} {base base' : Nat} {e : TypeId} {size : Nat} {v : Value} {n : Nat} {xs : List Value} (hb : base' ≤ base) (h : w.ownsRow base e size v n xs) : w.ownsRow base' e size v n xs := by
  refine ⟨h.1, ?_⟩
  rcases h.2 with h1 | ⟨g, cap, cur, e1, e2, rest⟩
  · exact .inl h1
  · exact .inr ⟨g, cap, cur, e1, by omega, rest⟩

theorem fin5 {w wr : World} {E : TypeId} {sv : Value} {L : List Ins} (x0 x1 x2 x3 x4 : Value) (hown : wr.ownsRow (w.heap.size + 3) E 4 sv L.length (flat L)) (hbl : Below w.heap.size w wr) :
    (((((wr.setCell ⟨w.heap.size + 1, 0, none⟩ x0).setCell ⟨w.heap.size + 1, 1, none⟩ x1).setCell ⟨w.heap.size + 1, 2, none⟩ x2).setCell ⟨w.heap.size + 1, 3, none⟩ x3).setCell ⟨w.heap.size + 1, 4, none⟩ x4).ownsRow w.heap.size E 4 sv L.length (flat L) ∧
    Below w.heap.size w (((((wr.setCell ⟨w.heap.size + 1, 0, none⟩ x0).setCell ⟨w.heap.size + 1, 1, none⟩ x1).setCell ⟨w.heap.size + 1, 2, none⟩ x2).setCell ⟨w.heap.size + 1, 3, none⟩ x3).setCell ⟨w.heap.size + 1, 4, none⟩ x4) := by
  have hlt : w.heap.size + 1 < w.heap.size + 3 := by omega
  have hle : w.heap.size ≤ w.heap.size + 1 := by omega
  exact ⟨owns_lower (by omega) (ownsRow_setCell_below (ownsRow_setCell_below (ownsRow_setCell_below (ownsRow_setCell_below (ownsRow_setCell_below hown hlt _) hlt _) hlt _) hlt _) hlt _), ((((hbl.setCell hle _).setCell hle _).setCell hle _).setCell hle _).setCell hle _⟩

theorem heap5 {w : World} {g : Nat} {T : TypeId} {y0 y1 y2 y3 y4 : Value} (x0 x1 x2 x3 x4 : Value) (h : w.heap[g]? = some (.cells #[y0, y1, y2, y3, y4] T (0, 0))) :
    (((((w.setCell ⟨g, 0, none⟩ x0).setCell ⟨g, 1, none⟩ x1).setCell ⟨g, 2, none⟩ x2).setCell ⟨g, 3, none⟩ x3).setCell ⟨g, 4, none⟩ x4).heap[g]? = some (.cells #[x0, x1, x2, x3, x4] T (0, 0)) :=
  heap_setCell_same _ _ 4 #[x0, x1, x2, x3, y4] _ _ (heap_setCell_same _ _ 3 #[x0, x1, x2, y3, y4] _ _ (heap_setCell_same _ _ 2 #[x0, x1, y2, y3, y4] _ _ (heap_setCell_same _ _ 1 #[x0, y1, y2, y3, y4] _ _ (heap_setCell_same _ _ 0 #[y0, y1, y2, y3, y4] _ _ h))))

theorem three (w : World) (a b c : Obj) : (((w.alloc a).alloc b).alloc c).heap[w.heap.size]? = some a ∧ (((w.alloc a).alloc b).alloc c).heap[w.heap.size + 1]? = some b ∧ (((w.alloc a).alloc b).alloc c).heap[w.heap.size + 2]? = some c ∧
    (((w.alloc a).alloc b).alloc c).heap.size = w.heap.size + 3 ∧ Below w.heap.size w (((w.alloc a).alloc b).alloc c) := by
  refine ⟨?_, ?_, ?_, by simp, (((Below.refl _ _).alloc (Nat.le_refl _) _).alloc (by simp) _).alloc (by simp; omega) _⟩
  · rw [Below.heap_alloc _ _ _ (by simp; omega), heap_alloc2_old]
  · rw [Below.heap_alloc _ _ _ (by simp), show w.heap.size + 1 = (w.alloc a).heap.size from by simp, heap_alloc_new]
  · rw [show w.heap.size + 2 = ((w.alloc a).alloc b).heap.size from by simp, heap_alloc_new]

theorem Try.infoto : (Try.prog.info? 115).map (fun i => (i.zero, i.size, i.bytes)) = some (some (.agg #[.int .i64 0, .int .i64 0, .int .i64 0, .string ⟨#[]⟩]), 4, 40) := by kernel_rfl

set_option maxRecDepth 100000 in
set_option maxHeartbeats 800000 in
theorem to_own (c : Cod) (v : Value) (w : World) (hv : InsSl w v c.l) (hl : c.l.length ≤ 1000000) :
    Calls Try.prog 22 #[codVal c v] w (GivesOwn 115 c w) := by
  obtain ⟨aa, cap, rfl, hc⟩ := hv
  obtain ⟨nm, ar, sl, bo, L⟩ := c
  dsimp only at *
  obtain ⟨i0, hi0, hz0, hz1, hz2⟩ := info_parts Try.infoto
  obtain ⟨t0, t1, t2, tsz, tbl⟩ := three w (.cells #[.string nm, .int .i64 ar, .int .i64 sl, .int .i64 bo, .slice aa L.length cap] 28) (.cells #[.string ⟨#[]⟩, .int .i64 0, .int .i64 0, .int .i64 0, .slice none 0 0] 51) (.cells #[.string nm, .int .i64 ar, .int .i64 sl, .int .i64 bo, .slice none 0 0] 51)
  have HC := Lib.hid hc
  have T1 := Lib.hid t1
  have T2 := Lib.hid t2
  have TS := Lib.hid tsz
  have TB := Lib.hid tbl
  clear hc t0 t1 t2 tsz tbl
  go_enter Try.func22, Try.ntmps22
  go_wp2
  generalize (((w.alloc (.cells #[.string nm, .int .i64 ar, .int .i64 sl, .int .i64 bo, .slice aa L.length cap] 28)).alloc (.cells #[.string ⟨#[]⟩, .int .i64 0, .int .i64 0, .int .i64 0, .slice none 0 0] 51)).alloc (.cells #[.string nm, .int .i64 ar, .int .i64 sl, .int .i64 bo, .slice none 0 0] 51)) = W at *
  have hst : ToRel L nm ar sl bo 51 115 w.heap.size W (.int .i64 ((0 : Nat) : Int)) W := to_start T2.out
  have H := Lib.hid hst
  clear hst
  go_loopw [18] (fun c wr => ToRel L nm ar sl bo 51 115 w.heap.size W c wr) (fun c _ => L.length - (intOf c).toNat)
  case atStart => exact H.out
  case round =>
    obtain ⟨k, sv, hk, rfl, hblk, hown, hbl⟩ := hrel
    obtain ⟨sa, scap, rfl⟩ := owns_form hown
    have hbl0 : Below w.heap.size w wr := TB.out.trans (hbl.mono (by omega))
    have hsz : w.heap.size + 3 ≤ wr.heap.size := by have := hbl.size; have := TS.out; omega
    have hlt2 : w.heap.size + 1 + 1 < wr.heap.size := by omega
    have hlt1 : w.heap.size + 1 < wr.heap.size := by omega
    have f0 := cell_of_row wr (w.heap.size + 2) 0 _ _ _ hblk
    have f1 := cell_of_row wr (w.heap.size + 2) 1 _ _ _ hblk
    have f2 := cell_of_row wr (w.heap.size + 2) 2 _ _ _ hblk
    have f3 := cell_of_row wr (w.heap.size + 2) 3 _ _ _ hblk
    have f4 := cell_of_row wr (w.heap.size + 2) 4 _ _ _ hblk
    have HBK := Lib.hid hblk
    clear hblk H
    by_cases hkl : k < L.length
    · obtain ⟨b2, off, rfl, hi⟩ := HC.out k hkl
      have hi' := hi.below hbl0 hi.lt
      obtain ⟨g0, g1, g2, g3⟩ := hi'
      have hbr2 : b2 < wr.heap.size := by have := hi.lt; have := hbl0.size; omega
      have hstep := fun (w1 : World) (v' : Value) (o o' : Obj) h1 h2 => to_step (w1 := w1) (v' := v') (o := o) (o' := o') hkl hsz HBK.out hown hbl h1 h2
      have HST := Lib.hid hstep
      have hone := cells_one L[k]
      have HON := Lib.hid hone
      clear hi hstep hone
      unfold Ins.cells at HST HON
      generalize L[k] = x at *
      obtain ⟨iop, ia, in_, is⟩ := x
      dsimp only at *
      go_wp2_with (at_builtin; go_loud (refine wpList_append_own _ rfl _ _ 49 rfl (w.heap.size + 3) 115 i0 (.agg #[.int .i64 0, .int .i64 0, .int .i64 0, .string ⟨#[]⟩]) 4 40 Try.underlying49 hi0 hz0 hz1 hz2 rfl (by decide) _ _ _ rfl ((hown.alloc _).alloc _) _ 1 1 [.int .i64 iop, .int .i64 ia, .int .i64 in_, .string is] rfl rfl ?c1 ?c2 ?c3 ?c4 ?c5 ?_))
      case c1 => exact cells_at _ #[.int .i64 iop, .int .i64 ia, .int .i64 in_, .string is] _ (by simp)
      case c2 => exact HON.out
      case c3 => unfold maxLen; omega
      case c4 => omega
      case c5 => simp; omega
      intro v' w1 hown' hgrow _
      obtain ⟨sa', scap', rfl⟩ := owns_form hown'
      have hs := HST.out w1 _ _ _ hown' hgrow
      have e4 := cell_of_row w1 (w.heap.size + 2) 4 _ _ _ hs.2
      have e4' := frozen_of_row w1 (w.heap.size + 2) 4 _ _ hs.2
      have HR := Lib.hid hs.1
      clear hs hown' hgrow hown g0 g1 g2 g3 f0 f1 f2 f3 f4
      go_wp2
      go_roundw
      case rel => exact HR.out
      case measure => simp [intOf]; omega
    · obtain rfl : k = L.length := by omega
      have q0 := (hbl.block (w.heap.size + 1) (by omega)).trans T1.out
      have r0 := cell_of_row wr (w.heap.size + 1) 0 _ _ _ q0
      have r1 := cell_of_row wr (w.heap.size + 1) 1 _ _ _ q0
      have r2 := cell_of_row wr (w.heap.size + 1) 2 _ _ _ q0
      have r3 := cell_of_row wr (w.heap.size + 1) 3 _ _ _ q0
      have r4 := cell_of_row wr (w.heap.size + 1) 4 _ _ _ q0
      have s0 := frozen_of_row wr (w.heap.size + 1) 0 _ _ q0
      have s1 := frozen_of_row wr (w.heap.size + 1) 1 _ _ q0
      have s2 := frozen_of_row wr (w.heap.size + 1) 2 _ _ q0
      have s3 := frozen_of_row wr (w.heap.size + 1) 3 _ _ q0
      have s4 := frozen_of_row wr (w.heap.size + 1) 4 _ _ q0
      rw [List.take_length] at hown
      have hfin := fun x0 x1 x2 x3 x4 => fin5 x0 x1 x2 x3 x4 hown hbl0
      have HFIN := Lib.hid hfin
      have hh5 := fun x0 x1 x2 x3 x4 => heap5 x0 x1 x2 x3 x4 q0
      have HH := Lib.hid hh5
      clear q0 hown hfin hh5
      go_wp2
      exact bodyPost_ret (v := codVal ⟨nm, ar, sl, bo, L⟩ (.slice sa L.length scap)) (results_cell_row Try.results22 _ _ (w.heap.size + 1) _ #[.string nm, .int .i64 ar, .int .i64 sl, .int .i64 bo, .slice sa L.length scap] _ _ rfl (HH.out _ _ _ _ _) Try.underlying51 rfl (by kernel_rfl)) rfl ⟨_, rfl, (HFIN.out _ _ _ _ _).1, (HFIN.out _ _ _ _ _).2⟩

theorem to_any (c : Cod) (v : Value) (w : World) (hv : InsSl w v c.l) (hl : c.l.length ≤ 1000000) : Calls Try.prog 22 #[codVal c v] w (Gives c w) :=
  (to_own c v w hv hl).mono fun _ _ ⟨v', he, ho, hb⟩ => ⟨v', he, insSl_of_owns ho, hb⟩

theorem Try.infofrom : (Try.prog.info? 109).map (fun i => (i.zero, i.size, i.bytes)) = some (some (.agg #[.int .i64 0, .int .i64 0, .int .i64 0, .string ⟨#[]⟩]), 4, 40) := by kernel_rfl

end Go.Proofs.Ytcmgfelbbmeanaa.Cod
namespace Go.Proofs.Ytcmgfelbbmeanaa.Cod
open Go Go.RowKit Go.Proofs.Ytcmgfelbbmeanaa.Reg

def SaRel (n : Nat) (W : World) (c : Value) (wr : World) : Prop := ∃ k : Nat, k ≤ n ∧ c = .int .i64 k ∧ Below W.heap.size W wr

theorem two (w : World) (a b : Obj) : ((w.alloc a).alloc b).heap[w.heap.size]? = some a ∧ ((w.alloc a).alloc b).heap[w.heap.size + 1]? = some b ∧ ((w.alloc a).alloc b).heap.size = w.heap.size + 2 ∧ Below w.heap.size w ((w.alloc a).alloc b) :=
  ⟨heap_alloc2_old w a b, heap_alloc2_new w a b, by simp, ((Below.refl _ _).alloc (Nat.le_refl _) _).alloc (by simp) _⟩

def exCod : Cod := ⟨⟨#[112]⟩, 2, 1, 3, [⟨2, 0, 0, ⟨#[]⟩⟩, ⟨6, 1, 0, ⟨#[102]⟩⟩, ⟨3, 0, 0, ⟨#[]⟩⟩, ⟨5, 0, 0, ⟨#[113]⟩⟩]⟩

theorem ex_in {w : World} {b cap : Nat} {T : TypeId} (h : w.heap[b]? = some (.cells #[.int .i64 2, .int .i64 0, .int .i64 0, .string ⟨#[]⟩, .int .i64 6, .int .i64 1, .int .i64 0, .string ⟨#[102]⟩, .int .i64 3, .int .i64 0, .int .i64 0, .string ⟨#[]⟩, .int .i64 5, .int .i64 0, .int .i64 0, .string ⟨#[113]⟩] T (0, 0))) :
    InsSl w (.slice (some ⟨b, 0, none⟩) 4 cap) exCod.l := by
  refine ⟨_, cap, rfl, fun j hj => ⟨b, 0, rfl, ?_⟩⟩
  have hj4 : j < 4 := hj
  have : j = 0 ∨ j = 1 ∨ j = 2 ∨ j = 3 := by omega
  rcases this with rfl | rfl | rfl | rfl <;> exact ⟨cell_of_row w b _ _ _ _ h, cell_of_row w b _ _ _ _ h, cell_of_row w b _ _ _ _ h, cell_of_row w b _ _ _ _ h⟩

end Go.Proofs.Ytcmgfelbbmeanaa.Cod
