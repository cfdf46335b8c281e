
/-
  Layer 20: keys of codes and terms; index.New, Keys, walked.
-/
import Derived.Test.YtcmgfelbbmeanaaIxh
import Derived.Test.YtcmgfelbbmeanaaCodW
import Derived.ChangeKeysEq
import Derived.WideKeyRuns
import Derived.Laws.StructEq
import Derived.WideShapes
namespace Go.Proofs.Ytcmgfelbbmeanaa.Tms
open Go Go.RowKit Go.Proofs.Ytcmgfelbbmeanaa.Reg Go.Proofs.Ytcmgfelbbmeanaa.Rws Go.Proofs.Ytcmgfelbbmeanaa.Maps Go.Proofs.Ytcmgfelbbmeanaa.Cod Go.Instr
set_option linter.unusedVariables false
set_option linter.unusedSimpArgs false

/-- what a first argument is known by: op, args, n, s -/
abbrev Kx := Int × Int × Int × ByteArray
def kvX (k : Kx) : Value := .agg #[.int .i64 k.1, .int .i64 k.2.1, .int .i64 k.2.2.1, .string k.2.2.2]
theorem kx_str : Try.prog.plainKey 9 = true := by kernel_rfl
theorem kx_int : Try.prog.plainKey 3 = true := by kernel_rfl
theorem kx_int64 : Try.prog.plainKey 2 = true := by kernel_rfl
theorem kx_stood : Try.prog.stoodInHeld 98 = false := by kernel_rfl
theorem kx_p0 (a b c : Int) (s : ByteArray) (w : World) : (part 3 #[.int .i64 a, .int .i64 b, .int .i64 c, .string s] 0).run Try.prog w = .ok (.int .i64 a) w := run_part_plain w kx_int rfl
theorem kx_p1 (a b c : Int) (s : ByteArray) (w : World) : (part 3 #[.int .i64 a, .int .i64 b, .int .i64 c, .string s] 1).run Try.prog w = .ok (.int .i64 b) w := run_part_plain w kx_int rfl
theorem kx_p2 (a b c : Int) (s : ByteArray) (w : World) : (part 2 #[.int .i64 a, .int .i64 b, .int .i64 c, .string s] 2).run Try.prog w = .ok (.int .i64 c) w := run_part_plain w kx_int64 rfl
theorem kx_p3 (a b c : Int) (s : ByteArray) (w : World) : (part 9 #[.int .i64 a, .int .i64 b, .int .i64 c, .string s] 3).run Try.prog w = .ok (.string s) w := run_part_plain w kx_str rfl
theorem kx_eq (a b c a' b' c' : Int) (s s' : ByteArray) (w : World) : (Op.equal 98 (kvX (a, b, c, s)) (kvX (a', b', c', s'))).run Try.prog w = .ok (a == a' && (b == b' && (c == c' && s.toList == s'.toList))) w := by
  unfold Op.equal Op.maxDepth kvX
  rw [run_equalIn_struct w 9999 _ _ _ (by kernel_rfl) kx_stood]
  simp only [Program.fieldsOf, Try.underlying98]
  simp [Op.eqFields, Sem.run_bind, kx_p0, kx_p1, kx_p2, kx_p3, run_equalIn_string w 9998 9 s s' Try.underlying9, run_equalIn_int w 9998 3 .i64 .i64 a a' Try.underlying3, run_equalIn_int w 9998 3 .i64 .i64 b b' Try.underlying3, run_equalIn_int w 9998 2 .i64 .i64 c c' Try.underlying2]
  cases h0 : (a == a') <;> cases h1 : (b == b') <;> cases h2 : (c == c') <;> cases h3 : (s.toList == s'.toList) <;> simp_all
theorem kx_check (em : Bool) (a b c : Int) (s : ByteArray) (w : World) : (checkKey em 10000 98 (kvX (a, b, c, s))).run Try.prog w = .ok () w := by
  have c1 : ∀ v w, (checkKey em 9999 9 v).run Try.prog w = .ok () w := fun v w => run_checkKey w em 9998 _ _ Try.underlying9 rfl v
  have c2 : ∀ v w, (checkKey em 9999 3 v).run Try.prog w = .ok () w := fun v w => run_checkKey w em 9998 _ _ Try.underlying3 rfl v
  have c3 : ∀ v w, (checkKey em 9999 2 v).run Try.prog w = .ok () w := fun v w => run_checkKey w em 9998 _ _ Try.underlying2 rfl v
  rw [show (10000 : Nat) = 9999 + 1 from rfl]
  unfold checkKey kvX
  simp only [Sem.run_bind, run_underlying Try.underlying98, Result.andThen_ok]
  generalize (9999 : Nat) = d at *
  simp [Sem.run_bind, kx_p0, kx_p1, kx_p2, kx_p3, c1, c2, c3]
theorem kx_dec (a b c a' b' c' : Int) (s s' : ByteArray) : (a == a' && (b == b' && (c == c' && s.toList == s'.toList))) = decide (((a, b, c, s) : Kx) = (a', b', c', s')) := by
  have hs : s.toList = s'.toList ↔ s = s' := ⟨fun h => WideShapes.bytes_inj (by rwa [ByteArray.toList_eq, ByteArray.toList_eq] at h), fun h => by rw [h]⟩
  rw [Bool.eq_iff_iff]
  simp [hs]
theorem keyX : KeyOf Try.prog Kx 98 kvX where
  wide := by kernel_rfl
  check := fun em k w => kx_check em k.1 k.2.1 k.2.2.1 k.2.2.2 w
  eq := fun k k' w => (kx_eq k.1 k.2.1 k.2.2.1 k'.1 k'.2.1 k'.2.2.1 k.2.2.2 k'.2.2.2 w).trans (by rw [kx_dec])
  bits := fun k => by simp [kvX, sameBits, beq_toListBytes]
def noKx : Kx := (0, 0, 0, ⟨#[]⟩)
/-- a code's key -/
def codeK (c : Cod) : Option Kx := if c.args = 0 then none else match c.l with
  | [] => none
  | i :: _ => if i.op = 4 then some (4, 0, i.n, ⟨#[]⟩) else if i.op = 5 then some (5, 0, 0, i.s) else if i.op = 6 then some (6, i.a, 0, i.s) else none
/-- a term's, of so many arguments -/
def termK (k n : Int) (s : ByteArray) (args : Int) : Option Kx := if k = 2 then some (4, 0, n, ⟨#[]⟩) else if k = 3 then some (5, 0, 0, s) else if k = 4 then some (6, args, 0, s) else none
set_option maxRecDepth 100000 in
theorem go_termKey (k n : Int) (s : ByteArray) (a : Option Addr) (m c : Nat) (args : Int) (w : World) :
    Calls Try.prog 43 #[.agg #[.int .i64 k, .int .i64 n, .string s, .slice a m c], .int .i64 args] w fun e w' => e = .returned (.tuple #[kvX ((termK k n s args).getD noKx), .bool (termK k n s args).isSome]) ∧ Below w.heap.size w w' := by
  have hr1 := heap_alloc_new w (.cells #[.int .i64 k, .int .i64 n, .string s, .slice a m c] 31 (0, 0))
  have hbw : Below w.heap.size w (w.alloc (.cells #[.int .i64 k, .int .i64 n, .string s, .slice a m c] 31 (0, 0))) := (Below.refl w.heap.size w).alloc (Nat.le_refl _) _
  obtain ⟨x0, x1, x2, x3⟩ := row4 hr1
  by_cases k2 : k = 2
  · subst k2
    rw [show termK 2 n s args = some (4, 0, n, ⟨#[]⟩) from rfl]
    go_enter Try.func43, Try.ntmps43
    go_wp2
    exact bodyPost_ret (v := .tuple #[kvX (4, 0, n, ⟨#[]⟩), .bool true]) (Push.results_cell_tmp Try.results43 _ _ (w.heap.size + 1) _ _ _ _ _ rfl (by simp) (by have h := heap_alloc_new (w.alloc (.cells #[.int .i64 2, .int .i64 n, .string s, .slice a m c] 31 (0, 0))) (.cells #[.int .i64 4, .int .i64 0, .int .i64 n, .string ⟨#[]⟩] 98 (0, 0)); simpa using h) Try.underlying98 rfl (by kernel_rfl)) rfl ⟨rfl, ((Below.refl w.heap.size w).alloc (Nat.le_refl _) _).alloc (by simp) _⟩
  by_cases k3 : k = 3
  · subst k3
    rw [show termK 3 n s args = some (5, 0, 0, s) from rfl]
    go_enter Try.func43, Try.ntmps43
    go_wp2
    exact bodyPost_ret (v := .tuple #[kvX (5, 0, 0, s), .bool true]) (Push.results_cell_tmp Try.results43 _ _ (w.heap.size + 1) _ _ _ _ _ rfl (by simp) (by have h := heap_alloc_new (w.alloc (.cells #[.int .i64 3, .int .i64 n, .string s, .slice a m c] 31 (0, 0))) (.cells #[.int .i64 5, .int .i64 0, .int .i64 0, .string s] 98 (0, 0)); simpa using h) Try.underlying98 rfl (by kernel_rfl)) rfl ⟨rfl, ((Below.refl w.heap.size w).alloc (Nat.le_refl _) _).alloc (by simp) _⟩
  by_cases k4 : k = 4
  · subst k4
    rw [show termK 4 n s args = some (6, args, 0, s) from rfl]
    go_enter Try.func43, Try.ntmps43
    go_wp2
    exact bodyPost_ret (v := .tuple #[kvX (6, args, 0, s), .bool true]) (Push.results_cell_tmp Try.results43 _ _ (w.heap.size + 1) _ _ _ _ _ rfl (by simp) (by have h := heap_alloc_new (w.alloc (.cells #[.int .i64 4, .int .i64 n, .string s, .slice a m c] 31 (0, 0))) (.cells #[.int .i64 6, .int .i64 args, .int .i64 0, .string s] 98 (0, 0)); simpa using h) Try.underlying98 rfl (by kernel_rfl)) rfl ⟨rfl, ((Below.refl w.heap.size w).alloc (Nat.le_refl _) _).alloc (by simp) _⟩
  · have e2 : (k == 2) = false := by simpa using k2
    have e3 : (k == 3) = false := by simpa using k3
    have e4 : (k == 4) = false := by simpa using k4
    rw [show termK k n s args = none by unfold termK; rw [if_neg k2, if_neg k3, if_neg k4]]
    clear k2 k3 k4
    go_enter Try.func43, Try.ntmps43
    go_wp2
    exact bodyPost_ret (v := .tuple #[kvX (0, 0, 0, ⟨#[]⟩), .bool false]) (Push.results_cell_tmp Try.results43 _ _ (w.heap.size + 1) _ _ _ _ _ rfl (by simp) (by have h := heap_alloc_new (w.alloc (.cells #[.int .i64 k, .int .i64 n, .string s, .slice a m c] 31 (0, 0))) (.cells #[.int .i64 0, .int .i64 0, .int .i64 0, .string ⟨#[]⟩] 98 (0, 0)); simpa using h) Try.underlying98 rfl (by kernel_rfl)) rfl ⟨rfl, ((Below.refl w.heap.size w).alloc (Nat.le_refl _) _).alloc (by simp) _⟩
theorem two_at (w : World) (o o' : Obj) : ((w.alloc o).alloc o').heap[w.heap.size + 1]? = some o' := by
  have h := heap_alloc_new (w.alloc o) o'
  simpa using h
theorem three_at (w : World) (o o' o'' : Obj) : (((w.alloc o).alloc o').alloc o'').heap[w.heap.size + 1]? = some o' := by
  have h := Below.heap_alloc ((w.alloc o).alloc o') o'' (w.heap.size + 1) (by simp)
  exact h.trans (two_at w o o')
set_option maxRecDepth 100000 in
set_option maxHeartbeats 1000000 in
theorem go_codeKey (c : Cod) (v : Value) (w : World) (hv : InsSl w v c.l) (hl : c.l.length ≤ 1000000) :
    Calls Try.prog 41 #[codVal c v] w fun e w' => e = .returned (.tuple #[kvX ((codeK c).getD noKx), .bool (codeK c).isSome]) ∧ Below w.heap.size w w' := by
  obtain ⟨nm, ar, sl, bo, L⟩ := c
  obtain ⟨a, cap, rfl, hc⟩ := hv
  dsimp only at hc hl
  unfold codVal
  dsimp only
  have hr1 := heap_alloc_new w (.cells #[.string nm, .int .i64 ar, .int .i64 sl, .int .i64 bo, .slice a L.length cap] 51 (0, 0))
  by_cases h0 : ar = 0
  · subst h0
    rw [show codeK ⟨nm, 0, sl, bo, L⟩ = none from rfl]
    have x1 := cell_of_row _ _ 1 _ _ _ hr1
    clear hc
    go_enter Try.func41, Try.ntmps41
    go_wp2
    exact bodyPost_ret (v := .tuple #[kvX (0, 0, 0, ⟨#[]⟩), .bool false]) (Push.results_cell_tmp Try.results41 _ _ (w.heap.size + 1) _ #[.int .i64 0, .int .i64 0, .int .i64 0, .string ⟨#[]⟩] _ _ _ rfl (by simp) (two_at _ _ _) Try.underlying98 rfl (by kernel_rfl)) rfl ⟨rfl, ((Below.refl w.heap.size w).alloc (Nat.le_refl _) _).alloc (by simp) _⟩
  have b0 : (ar == 0) = false := by simpa using h0
  have x1 := cell_of_row _ _ 1 _ _ _ hr1
  have x4 := cell_of_row _ _ 4 _ _ _ hr1
  cases L with
  | nil =>
    rw [show codeK ⟨nm, ar, sl, bo, []⟩ = none by unfold codeK; exact if_neg h0]
    clear hc h0
    go_enter Try.func41, Try.ntmps41
    go_wp2
    exact bodyPost_ret (v := .tuple #[kvX (0, 0, 0, ⟨#[]⟩), .bool false]) (Push.results_cell_tmp Try.results41 _ _ (w.heap.size + 1) _ #[.int .i64 0, .int .i64 0, .int .i64 0, .string ⟨#[]⟩] _ _ _ rfl (by simp) (two_at _ _ _) Try.underlying98 rfl (by kernel_rfl)) rfl ⟨rfl, ((Below.refl w.heap.size w).alloc (Nat.le_refl _) _).alloc (by simp) _⟩
  | cons i L =>
    obtain ⟨b, off, rfl, y0, y1, y2, y3⟩ := hc 0 (by simp)
    simp only [Nat.zero_mul, Nat.add_zero, List.getElem_cons_zero] at y0 y1 y2 y3
    have hbl := World.block_lt_of_cell? _ _ y0
    obtain ⟨op, ia, n, s⟩ := i
    dsimp only at y0 y1 y2 y3
    have bl : (((L.length + 1 : Nat) : Int) == 0) = false := by simp; omega
    clear hc
    by_cases k4 : op = 4
    · subst k4
      rw [show codeK ⟨nm, ar, sl, bo, ⟨4, ia, n, s⟩ :: L⟩ = some (4, 0, n, ⟨#[]⟩) by unfold codeK; rw [if_neg h0]; rfl]
      clear h0
      go_enter Try.func41, Try.ntmps41
      go_wp2
      exact bodyPost_ret (v := .tuple #[kvX (4, 0, n, ⟨#[]⟩), .bool true]) (Push.results_cell_tmp Try.results41 _ _ (w.heap.size + 1) _ #[.int .i64 4, .int .i64 0, .int .i64 n, .string ⟨#[]⟩] _ _ _ rfl (by simp) (three_at _ _ _ _) Try.underlying98 rfl (by kernel_rfl)) rfl ⟨rfl, (((Below.refl w.heap.size w).alloc (Nat.le_refl _) _).alloc (by simp) _).alloc (by simp; omega) _⟩
    by_cases k5 : op = 5
    · subst k5
      rw [show codeK ⟨nm, ar, sl, bo, ⟨5, ia, n, s⟩ :: L⟩ = some (5, 0, 0, s) by unfold codeK; rw [if_neg h0]; rfl]
      clear h0
      go_enter Try.func41, Try.ntmps41
      go_wp2
      exact bodyPost_ret (v := .tuple #[kvX (5, 0, 0, s), .bool true]) (Push.results_cell_tmp Try.results41 _ _ (w.heap.size + 1) _ #[.int .i64 5, .int .i64 0, .int .i64 0, .string s] _ _ _ rfl (by simp) (three_at _ _ _ _) Try.underlying98 rfl (by kernel_rfl)) rfl ⟨rfl, (((Below.refl w.heap.size w).alloc (Nat.le_refl _) _).alloc (by simp) _).alloc (by simp; omega) _⟩
    by_cases k6 : op = 6
    · subst k6
      rw [show codeK ⟨nm, ar, sl, bo, ⟨6, ia, n, s⟩ :: L⟩ = some (6, ia, 0, s) by unfold codeK; rw [if_neg h0]; rfl]
      clear h0
      go_enter Try.func41, Try.ntmps41
      go_wp2
      exact bodyPost_ret (v := .tuple #[kvX (6, ia, 0, s), .bool true]) (Push.results_cell_tmp Try.results41 _ _ (w.heap.size + 1) _ #[.int .i64 6, .int .i64 ia, .int .i64 0, .string s] _ _ _ rfl (by simp) (three_at _ _ _ _) Try.underlying98 rfl (by kernel_rfl)) rfl ⟨rfl, (((Below.refl w.heap.size w).alloc (Nat.le_refl _) _).alloc (by simp) _).alloc (by simp; omega) _⟩
    · have e4 : (op == 4) = false := by simpa using k4
      have e5 : (op == 5) = false := by simpa using k5
      have e6 : (op == 6) = false := by simpa using k6
      rw [show codeK ⟨nm, ar, sl, bo, ⟨op, ia, n, s⟩ :: L⟩ = none by unfold codeK; rw [if_neg h0]; dsimp only; rw [if_neg k4, if_neg k5, if_neg k6]]
      clear h0 k4 k5 k6
      go_enter Try.func41, Try.ntmps41
      go_wp2
      exact bodyPost_ret (v := .tuple #[kvX (0, 0, 0, ⟨#[]⟩), .bool false]) (Push.results_cell_tmp Try.results41 _ _ (w.heap.size + 1) _ #[.int .i64 0, .int .i64 0, .int .i64 0, .string ⟨#[]⟩] _ _ _ rfl (by simp) (three_at _ _ _ _) Try.underlying98 rfl (by kernel_rfl)) rfl ⟨rfl, (((Below.refl w.heap.size w).alloc (Nat.le_refl _) _).alloc (by simp) _).alloc (by simp; omega) _⟩
end Go.Proofs.Ytcmgfelbbmeanaa.Tms
