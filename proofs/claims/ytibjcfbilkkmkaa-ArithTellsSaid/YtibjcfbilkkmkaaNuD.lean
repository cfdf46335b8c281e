
/-
  Layer 1: num.Two and num.One, walked over the program (printed by gen_nud.py).
-/
import Derived.Test.YtibjcfbilkkmkaaNuC
import Derived.MapKept
import Derived.KernelRfl
namespace Go.Proofs.Ytibjcfbilkkmkaa.Num
open Go Go.RowKit Go.Proofs.Ytibjcfbilkkmkaa.Reg Go.Proofs.Ytibjcfbilkkmkaa.Maps
set_option linter.unusedVariables false
set_option linter.unusedSimpArgs false

theorem ne_beq {a b : ByteArray} (h : ¬ a = b) : (a == b) = false := by
  cases e : a == b with
  | false => rfl
  | true => exact absurd ((MapKept.bytes_beq a b).1 e) h
theorem find_ne {op k : ByteArray} {v : Value} {c i : Nat} {es : List MapEntry} (h : (op == k) = false) : Instr.findNow .string (.string op) (⟨.string k, v, c⟩ :: es) i = Instr.findNow .string (.string op) es (i + 1) := by
  simp only [Instr.findNow, Instr.sameNow, h]
/-- what an operator makes of two numbers -/
def twoT (op : ByteArray) (a b : Int) : Int × Int :=
  if op = ⟨#[43]⟩ then chk (a + b) else
  if op = ⟨#[45]⟩ then chk (a - b) else
  if op = ⟨#[42]⟩ then chk (a * b) else
  if op = ⟨#[47, 47]⟩ then quotT a b else
  if op = ⟨#[114, 101, 109]⟩ then remT a b else
  if op = ⟨#[100, 105, 118]⟩ then divT a b else
  if op = ⟨#[109, 111, 100]⟩ then modT a b else
  if op = ⟨#[109, 105, 110]⟩ then (min a b, 0) else
  if op = ⟨#[109, 97, 120]⟩ then (max a b, 0) else
  if op = ⟨#[47, 92]⟩ then (bits .and .i64 a b, 0) else
  if op = ⟨#[92, 47]⟩ then (bits .or .i64 a b, 0) else
  if op = ⟨#[120, 111, 114]⟩ then (bits .xor .i64 a b, 0) else
  if op = ⟨#[60, 60]⟩ then leftT a b else
  if op = ⟨#[62, 62]⟩ then rightT a b else
  if op = ⟨#[42, 42]⟩ then powT a b else
  if op = ⟨#[94]⟩ then powT a b else
  (0, 8)
/-- what an operator makes of one number -/
def oneT (op : ByteArray) (a : Int) : Int × Int :=
  if op = ⟨#[45]⟩ then chk (-a) else
  if op = ⟨#[43]⟩ then (a, 0) else
  if op = ⟨#[97, 98, 115]⟩ then chk (a.natAbs : Int) else
  if op = ⟨#[115, 105, 103, 110]⟩ then (a.sign, 0) else
  if op = ⟨#[92]⟩ then (bits .xor .i64 (-1) a, 0) else
  (0, 8)
def twoEntries : Array MapEntry := #[⟨.string ⟨#[43]⟩, .func (.func 91) #[] #[], 0⟩, ⟨.string ⟨#[45]⟩, .func (.func 92) #[] #[], 1⟩, ⟨.string ⟨#[42]⟩, .func (.func 93) #[] #[], 2⟩, ⟨.string ⟨#[47, 47]⟩, .func (.func 94) #[] #[], 3⟩, ⟨.string ⟨#[114, 101, 109]⟩, .func (.func 95) #[] #[], 4⟩, ⟨.string ⟨#[100, 105, 118]⟩, .func (.func 96) #[] #[], 5⟩, ⟨.string ⟨#[109, 111, 100]⟩, .func (.func 97) #[] #[], 6⟩, ⟨.string ⟨#[109, 105, 110]⟩, .func (.func 98) #[] #[], 7⟩, ⟨.string ⟨#[109, 97, 120]⟩, .func (.func 99) #[] #[], 8⟩, ⟨.string ⟨#[47, 92]⟩, .func (.func 100) #[] #[], 9⟩, ⟨.string ⟨#[92, 47]⟩, .func (.func 101) #[] #[], 10⟩, ⟨.string ⟨#[120, 111, 114]⟩, .func (.func 102) #[] #[], 11⟩, ⟨.string ⟨#[60, 60]⟩, .func (.func 103) #[] #[], 12⟩, ⟨.string ⟨#[62, 62]⟩, .func (.func 104) #[] #[], 13⟩, ⟨.string ⟨#[42, 42]⟩, .func (.func 105) #[] #[], 14⟩, ⟨.string ⟨#[94]⟩, .func (.func 105) #[] #[], 15⟩]
def oneEntries : Array MapEntry := #[⟨.string ⟨#[45]⟩, .func (.func 86) #[] #[], 0⟩, ⟨.string ⟨#[43]⟩, .func (.func 87) #[] #[], 1⟩, ⟨.string ⟨#[97, 98, 115]⟩, .func (.func 88) #[] #[], 2⟩, ⟨.string ⟨#[115, 105, 103, 110]⟩, .func (.func 89) #[] #[], 3⟩, ⟨.string ⟨#[92]⟩, .func (.func 90) #[] #[], 4⟩]
set_option maxRecDepth 100000 in
theorem go_twos (w : World) : Calls Try.prog 72 #[] w (fun e w' => ∃ b, e = .returned (.map (some b)) ∧ w'.heap[b]? = some (.map twoEntries 16) ∧ Below w.heap.size w w') := by
  go_enter Try.func72, Try.ntmps72
  go_wp2_with (first
    | (refine wpList_map_start rfl 128 rfl w (Below.refl _ _) ?_
       intro b w1 h1
       have HF := Lib.hid h1
       clear h1)
    | (refine wpList_map_fill rfl 128 (.tmp 1) _ _ rfl _ _ _ Try.underlying128 Try.underlying9 rfl w _ _ _ rfl HF.out (by kernel_rfl) ?_
       intro w1 h1
       replace HF := Lib.hid h1
       clear h1))
  go_ret
  exact ⟨b, rfl, HF.out.at_, HF.out.bel⟩
set_option maxRecDepth 100000 in
theorem go_ones (w : World) : Calls Try.prog 71 #[] w (fun e w' => ∃ b, e = .returned (.map (some b)) ∧ w'.heap[b]? = some (.map oneEntries 5) ∧ Below w.heap.size w w') := by
  go_enter Try.func71, Try.ntmps71
  go_wp2_with (first
    | (refine wpList_map_start rfl 123 rfl w (Below.refl _ _) ?_
       intro b w1 h1
       have HF := Lib.hid h1
       clear h1)
    | (refine wpList_map_fill rfl 123 (.tmp 1) _ _ rfl _ _ _ Try.underlying123 Try.underlying9 rfl w _ _ _ rfl HF.out (by kernel_rfl) ?_
       intro w1 h1
       replace HF := Lib.hid h1
       clear h1))
  go_ret
  exact ⟨b, rfl, HF.out.at_, HF.out.bel⟩
theorem two_zero (w : World) : (zeroValue 126).run Try.prog w = .ok .nilFunc w := by kernel_rfl
set_option maxRecDepth 100000 in
theorem go_Two_no (op : ByteArray) (a b : Int) (hf : Instr.findNow .string (.string op) twoEntries.toList 0 = some none) (w : World) :
    Calls Try.prog 58 #[.string op, .int .i64 a, .int .i64 b] w (NPost (0, 8) w) := by
  have HFI := Lib.hid hf
  clear hf
  go_enter Try.func58, Try.ntmps58
  go_wp2_with (first
    | (go_at_call 72
       refine (go_twos _).mono ?_
       rintro e1 w1 ⟨b1, rfl, hm, hbel⟩
       have HM := Lib.hid hm
       have HB := Lib.hid hbel
       clear hm hbel)
    | (refine wpList_lookup_now rfl 128 (.tmp 11) (.tmp 12) rfl _ _ _ Try.underlying128 Try.underlying9 rfl b1 _ _ rfl HM.out _ HFI.out .nilFunc two_zero ?_
       clear HFI HM))
  go_ret2
  exact npost rfl HB.out
set_option maxRecDepth 100000 in
theorem go_Two_add (op : ByteArray) (a b : Int) (i : Nat) (r : Int × Int) (hf : Instr.findNow .string (.string op) twoEntries.toList 0 = some (some (i, .func (.func 91) #[] #[])))
    (hc : ∀ w, Calls Try.prog 91 #[.agg #[.int .i64 a, .int .i64 b]] w (NPost r w)) (w : World) :
    Calls Try.prog 58 #[.string op, .int .i64 a, .int .i64 b] w (NPost r w) := by
  have HFI := Lib.hid hf
  have HC := Lib.hid hc
  clear hf hc
  go_enter Try.func58, Try.ntmps58
  go_wp2_with (first
    | (go_at_call 72
       refine (go_twos _).mono ?_
       rintro e1 w1 ⟨b1, rfl, hm, hbel⟩
       have HM := Lib.hid hm
       have HB := Lib.hid hbel
       clear hm hbel)
    | (refine wpList_lookup_now rfl 128 (.tmp 11) (.tmp 12) rfl _ _ _ Try.underlying128 Try.underlying9 rfl b1 _ _ rfl HM.out _ HFI.out .nilFunc two_zero ?_
       clear HFI HM)
    | (go_at_call 91
       refine (HC.out _).mono ?_
       rintro e2 w2 ⟨rfl, hb2⟩
       have HB2 := Lib.hid (HB.out.trans (hb2.mono HB.out.size))
       clear hb2))
  go_ret2
  exact npost rfl HB2.out
set_option maxRecDepth 100000 in
theorem go_Two_and (op : ByteArray) (a b : Int) (i : Nat) (r : Int × Int) (hf : Instr.findNow .string (.string op) twoEntries.toList 0 = some (some (i, .func (.func 100) #[] #[])))
    (hc : ∀ w, Calls Try.prog 100 #[.agg #[.int .i64 a, .int .i64 b]] w (NPost r w)) (w : World) :
    Calls Try.prog 58 #[.string op, .int .i64 a, .int .i64 b] w (NPost r w) := by
  have HFI := Lib.hid hf
  have HC := Lib.hid hc
  clear hf hc
  go_enter Try.func58, Try.ntmps58
  go_wp2_with (first
    | (go_at_call 72
       refine (go_twos _).mono ?_
       rintro e1 w1 ⟨b1, rfl, hm, hbel⟩
       have HM := Lib.hid hm
       have HB := Lib.hid hbel
       clear hm hbel)
    | (refine wpList_lookup_now rfl 128 (.tmp 11) (.tmp 12) rfl _ _ _ Try.underlying128 Try.underlying9 rfl b1 _ _ rfl HM.out _ HFI.out .nilFunc two_zero ?_
       clear HFI HM)
    | (go_at_call 100
       refine (HC.out _).mono ?_
       rintro e2 w2 ⟨rfl, hb2⟩
       have HB2 := Lib.hid (HB.out.trans (hb2.mono HB.out.size))
       clear hb2))
  go_ret2
  exact npost rfl HB2.out
set_option maxRecDepth 100000 in
theorem go_Two_div (op : ByteArray) (a b : Int) (i : Nat) (r : Int × Int) (hf : Instr.findNow .string (.string op) twoEntries.toList 0 = some (some (i, .func (.func 96) #[] #[])))
    (hc : ∀ w, Calls Try.prog 96 #[.agg #[.int .i64 a, .int .i64 b]] w (NPost r w)) (w : World) :
    Calls Try.prog 58 #[.string op, .int .i64 a, .int .i64 b] w (NPost r w) := by
  have HFI := Lib.hid hf
  have HC := Lib.hid hc
  clear hf hc
  go_enter Try.func58, Try.ntmps58
  go_wp2_with (first
    | (go_at_call 72
       refine (go_twos _).mono ?_
       rintro e1 w1 ⟨b1, rfl, hm, hbel⟩
       have HM := Lib.hid hm
       have HB := Lib.hid hbel
       clear hm hbel)
    | (refine wpList_lookup_now rfl 128 (.tmp 11) (.tmp 12) rfl _ _ _ Try.underlying128 Try.underlying9 rfl b1 _ _ rfl HM.out _ HFI.out .nilFunc two_zero ?_
       clear HFI HM)
    | (go_at_call 96
       refine (HC.out _).mono ?_
       rintro e2 w2 ⟨rfl, hb2⟩
       have HB2 := Lib.hid (HB.out.trans (hb2.mono HB.out.size))
       clear hb2))
  go_ret2
  exact npost rfl HB2.out
set_option maxRecDepth 100000 in
theorem go_Two_greatest (op : ByteArray) (a b : Int) (i : Nat) (r : Int × Int) (hf : Instr.findNow .string (.string op) twoEntries.toList 0 = some (some (i, .func (.func 99) #[] #[])))
    (hc : ∀ w, Calls Try.prog 99 #[.agg #[.int .i64 a, .int .i64 b]] w (NPost r w)) (w : World) :
    Calls Try.prog 58 #[.string op, .int .i64 a, .int .i64 b] w (NPost r w) := by
  have HFI := Lib.hid hf
  have HC := Lib.hid hc
  clear hf hc
  go_enter Try.func58, Try.ntmps58
  go_wp2_with (first
    | (go_at_call 72
       refine (go_twos _).mono ?_
       rintro e1 w1 ⟨b1, rfl, hm, hbel⟩
       have HM := Lib.hid hm
       have HB := Lib.hid hbel
       clear hm hbel)
    | (refine wpList_lookup_now rfl 128 (.tmp 11) (.tmp 12) rfl _ _ _ Try.underlying128 Try.underlying9 rfl b1 _ _ rfl HM.out _ HFI.out .nilFunc two_zero ?_
       clear HFI HM)
    | (go_at_call 99
       refine (HC.out _).mono ?_
       rintro e2 w2 ⟨rfl, hb2⟩
       have HB2 := Lib.hid (HB.out.trans (hb2.mono HB.out.size))
       clear hb2))
  go_ret2
  exact npost rfl HB2.out
set_option maxRecDepth 100000 in
theorem go_Two_least (op : ByteArray) (a b : Int) (i : Nat) (r : Int × Int) (hf : Instr.findNow .string (.string op) twoEntries.toList 0 = some (some (i, .func (.func 98) #[] #[])))
    (hc : ∀ w, Calls Try.prog 98 #[.agg #[.int .i64 a, .int .i64 b]] w (NPost r w)) (w : World) :
    Calls Try.prog 58 #[.string op, .int .i64 a, .int .i64 b] w (NPost r w) := by
  have HFI := Lib.hid hf
  have HC := Lib.hid hc
  clear hf hc
  go_enter Try.func58, Try.ntmps58
  go_wp2_with (first
    | (go_at_call 72
       refine (go_twos _).mono ?_
       rintro e1 w1 ⟨b1, rfl, hm, hbel⟩
       have HM := Lib.hid hm
       have HB := Lib.hid hbel
       clear hm hbel)
    | (refine wpList_lookup_now rfl 128 (.tmp 11) (.tmp 12) rfl _ _ _ Try.underlying128 Try.underlying9 rfl b1 _ _ rfl HM.out _ HFI.out .nilFunc two_zero ?_
       clear HFI HM)
    | (go_at_call 98
       refine (HC.out _).mono ?_
       rintro e2 w2 ⟨rfl, hb2⟩
       have HB2 := Lib.hid (HB.out.trans (hb2.mono HB.out.size))
       clear hb2))
  go_ret2
  exact npost rfl HB2.out
set_option maxRecDepth 100000 in
theorem go_Two_left (op : ByteArray) (a b : Int) (i : Nat) (r : Int × Int) (hf : Instr.findNow .string (.string op) twoEntries.toList 0 = some (some (i, .func (.func 103) #[] #[])))
    (hc : ∀ w, Calls Try.prog 103 #[.agg #[.int .i64 a, .int .i64 b]] w (NPost r w)) (w : World) :
    Calls Try.prog 58 #[.string op, .int .i64 a, .int .i64 b] w (NPost r w) := by
  have HFI := Lib.hid hf
  have HC := Lib.hid hc
  clear hf hc
  go_enter Try.func58, Try.ntmps58
  go_wp2_with (first
    | (go_at_call 72
       refine (go_twos _).mono ?_
       rintro e1 w1 ⟨b1, rfl, hm, hbel⟩
       have HM := Lib.hid hm
       have HB := Lib.hid hbel
       clear hm hbel)
    | (refine wpList_lookup_now rfl 128 (.tmp 11) (.tmp 12) rfl _ _ _ Try.underlying128 Try.underlying9 rfl b1 _ _ rfl HM.out _ HFI.out .nilFunc two_zero ?_
       clear HFI HM)
    | (go_at_call 103
       refine (HC.out _).mono ?_
       rintro e2 w2 ⟨rfl, hb2⟩
       have HB2 := Lib.hid (HB.out.trans (hb2.mono HB.out.size))
       clear hb2))
  go_ret2
  exact npost rfl HB2.out
set_option maxRecDepth 100000 in
theorem go_Two_mod (op : ByteArray) (a b : Int) (i : Nat) (r : Int × Int) (hf : Instr.findNow .string (.string op) twoEntries.toList 0 = some (some (i, .func (.func 97) #[] #[])))
    (hc : ∀ w, Calls Try.prog 97 #[.agg #[.int .i64 a, .int .i64 b]] w (NPost r w)) (w : World) :
    Calls Try.prog 58 #[.string op, .int .i64 a, .int .i64 b] w (NPost r w) := by
  have HFI := Lib.hid hf
  have HC := Lib.hid hc
  clear hf hc
  go_enter Try.func58, Try.ntmps58
  go_wp2_with (first
    | (go_at_call 72
       refine (go_twos _).mono ?_
       rintro e1 w1 ⟨b1, rfl, hm, hbel⟩
       have HM := Lib.hid hm
       have HB := Lib.hid hbel
       clear hm hbel)
    | (refine wpList_lookup_now rfl 128 (.tmp 11) (.tmp 12) rfl _ _ _ Try.underlying128 Try.underlying9 rfl b1 _ _ rfl HM.out _ HFI.out .nilFunc two_zero ?_
       clear HFI HM)
    | (go_at_call 97
       refine (HC.out _).mono ?_
       rintro e2 w2 ⟨rfl, hb2⟩
       have HB2 := Lib.hid (HB.out.trans (hb2.mono HB.out.size))
       clear hb2))
  go_ret2
  exact npost rfl HB2.out
set_option maxRecDepth 100000 in
theorem go_Two_mul (op : ByteArray) (a b : Int) (i : Nat) (r : Int × Int) (hf : Instr.findNow .string (.string op) twoEntries.toList 0 = some (some (i, .func (.func 93) #[] #[])))
    (hc : ∀ w, Calls Try.prog 93 #[.agg #[.int .i64 a, .int .i64 b]] w (NPost r w)) (w : World) :
    Calls Try.prog 58 #[.string op, .int .i64 a, .int .i64 b] w (NPost r w) := by
  have HFI := Lib.hid hf
  have HC := Lib.hid hc
  clear hf hc
  go_enter Try.func58, Try.ntmps58
  go_wp2_with (first
    | (go_at_call 72
       refine (go_twos _).mono ?_
       rintro e1 w1 ⟨b1, rfl, hm, hbel⟩
       have HM := Lib.hid hm
       have HB := Lib.hid hbel
       clear hm hbel)
    | (refine wpList_lookup_now rfl 128 (.tmp 11) (.tmp 12) rfl _ _ _ Try.underlying128 Try.underlying9 rfl b1 _ _ rfl HM.out _ HFI.out .nilFunc two_zero ?_
       clear HFI HM)
    | (go_at_call 93
       refine (HC.out _).mono ?_
       rintro e2 w2 ⟨rfl, hb2⟩
       have HB2 := Lib.hid (HB.out.trans (hb2.mono HB.out.size))
       clear hb2))
  go_ret2
  exact npost rfl HB2.out
set_option maxRecDepth 100000 in
theorem go_Two_or (op : ByteArray) (a b : Int) (i : Nat) (r : Int × Int) (hf : Instr.findNow .string (.string op) twoEntries.toList 0 = some (some (i, .func (.func 101) #[] #[])))
    (hc : ∀ w, Calls Try.prog 101 #[.agg #[.int .i64 a, .int .i64 b]] w (NPost r w)) (w : World) :
    Calls Try.prog 58 #[.string op, .int .i64 a, .int .i64 b] w (NPost r w) := by
  have HFI := Lib.hid hf
  have HC := Lib.hid hc
  clear hf hc
  go_enter Try.func58, Try.ntmps58
  go_wp2_with (first
    | (go_at_call 72
       refine (go_twos _).mono ?_
       rintro e1 w1 ⟨b1, rfl, hm, hbel⟩
       have HM := Lib.hid hm
       have HB := Lib.hid hbel
       clear hm hbel)
    | (refine wpList_lookup_now rfl 128 (.tmp 11) (.tmp 12) rfl _ _ _ Try.underlying128 Try.underlying9 rfl b1 _ _ rfl HM.out _ HFI.out .nilFunc two_zero ?_
       clear HFI HM)
    | (go_at_call 101
       refine (HC.out _).mono ?_
       rintro e2 w2 ⟨rfl, hb2⟩
       have HB2 := Lib.hid (HB.out.trans (hb2.mono HB.out.size))
       clear hb2))
  go_ret2
  exact npost rfl HB2.out
set_option maxRecDepth 100000 in
theorem go_Two_power (op : ByteArray) (a b : Int) (i : Nat) (r : Int × Int) (hf : Instr.findNow .string (.string op) twoEntries.toList 0 = some (some (i, .func (.func 105) #[] #[])))
    (hc : ∀ w, Calls Try.prog 105 #[.agg #[.int .i64 a, .int .i64 b]] w (NPost r w)) (w : World) :
    Calls Try.prog 58 #[.string op, .int .i64 a, .int .i64 b] w (NPost r w) := by
  have HFI := Lib.hid hf
  have HC := Lib.hid hc
  clear hf hc
  go_enter Try.func58, Try.ntmps58
  go_wp2_with (first
    | (go_at_call 72
       refine (go_twos _).mono ?_
       rintro e1 w1 ⟨b1, rfl, hm, hbel⟩
       have HM := Lib.hid hm
       have HB := Lib.hid hbel
       clear hm hbel)
    | (refine wpList_lookup_now rfl 128 (.tmp 11) (.tmp 12) rfl _ _ _ Try.underlying128 Try.underlying9 rfl b1 _ _ rfl HM.out _ HFI.out .nilFunc two_zero ?_
       clear HFI HM)
    | (go_at_call 105
       refine (HC.out _).mono ?_
       rintro e2 w2 ⟨rfl, hb2⟩
       have HB2 := Lib.hid (HB.out.trans (hb2.mono HB.out.size))
       clear hb2))
  go_ret2
  exact npost rfl HB2.out
set_option maxRecDepth 100000 in
theorem go_Two_quot (op : ByteArray) (a b : Int) (i : Nat) (r : Int × Int) (hf : Instr.findNow .string (.string op) twoEntries.toList 0 = some (some (i, .func (.func 94) #[] #[])))
    (hc : ∀ w, Calls Try.prog 94 #[.agg #[.int .i64 a, .int .i64 b]] w (NPost r w)) (w : World) :
    Calls Try.prog 58 #[.string op, .int .i64 a, .int .i64 b] w (NPost r w) := by
  have HFI := Lib.hid hf
  have HC := Lib.hid hc
  clear hf hc
  go_enter Try.func58, Try.ntmps58
  go_wp2_with (first
    | (go_at_call 72
       refine (go_twos _).mono ?_
       rintro e1 w1 ⟨b1, rfl, hm, hbel⟩
       have HM := Lib.hid hm
       have HB := Lib.hid hbel
       clear hm hbel)
    | (refine wpList_lookup_now rfl 128 (.tmp 11) (.tmp 12) rfl _ _ _ Try.underlying128 Try.underlying9 rfl b1 _ _ rfl HM.out _ HFI.out .nilFunc two_zero ?_
       clear HFI HM)
    | (go_at_call 94
       refine (HC.out _).mono ?_
       rintro e2 w2 ⟨rfl, hb2⟩
       have HB2 := Lib.hid (HB.out.trans (hb2.mono HB.out.size))
       clear hb2))
  go_ret2
  exact npost rfl HB2.out
set_option maxRecDepth 100000 in
theorem go_Two_rem (op : ByteArray) (a b : Int) (i : Nat) (r : Int × Int) (hf : Instr.findNow .string (.string op) twoEntries.toList 0 = some (some (i, .func (.func 95) #[] #[])))
    (hc : ∀ w, Calls Try.prog 95 #[.agg #[.int .i64 a, .int .i64 b]] w (NPost r w)) (w : World) :
    Calls Try.prog 58 #[.string op, .int .i64 a, .int .i64 b] w (NPost r w) := by
  have HFI := Lib.hid hf
  have HC := Lib.hid hc
  clear hf hc
  go_enter Try.func58, Try.ntmps58
  go_wp2_with (first
    | (go_at_call 72
       refine (go_twos _).mono ?_
       rintro e1 w1 ⟨b1, rfl, hm, hbel⟩
       have HM := Lib.hid hm
       have HB := Lib.hid hbel
       clear hm hbel)
    | (refine wpList_lookup_now rfl 128 (.tmp 11) (.tmp 12) rfl _ _ _ Try.underlying128 Try.underlying9 rfl b1 _ _ rfl HM.out _ HFI.out .nilFunc two_zero ?_
       clear HFI HM)
    | (go_at_call 95
       refine (HC.out _).mono ?_
       rintro e2 w2 ⟨rfl, hb2⟩
       have HB2 := Lib.hid (HB.out.trans (hb2.mono HB.out.size))
       clear hb2))
  go_ret2
  exact npost rfl HB2.out
set_option maxRecDepth 100000 in
theorem go_Two_right (op : ByteArray) (a b : Int) (i : Nat) (r : Int × Int) (hf : Instr.findNow .string (.string op) twoEntries.toList 0 = some (some (i, .func (.func 104) #[] #[])))
    (hc : ∀ w, Calls Try.prog 104 #[.agg #[.int .i64 a, .int .i64 b]] w (NPost r w)) (w : World) :
    Calls Try.prog 58 #[.string op, .int .i64 a, .int .i64 b] w (NPost r w) := by
  have HFI := Lib.hid hf
  have HC := Lib.hid hc
  clear hf hc
  go_enter Try.func58, Try.ntmps58
  go_wp2_with (first
    | (go_at_call 72
       refine (go_twos _).mono ?_
       rintro e1 w1 ⟨b1, rfl, hm, hbel⟩
       have HM := Lib.hid hm
       have HB := Lib.hid hbel
       clear hm hbel)
    | (refine wpList_lookup_now rfl 128 (.tmp 11) (.tmp 12) rfl _ _ _ Try.underlying128 Try.underlying9 rfl b1 _ _ rfl HM.out _ HFI.out .nilFunc two_zero ?_
       clear HFI HM)
    | (go_at_call 104
       refine (HC.out _).mono ?_
       rintro e2 w2 ⟨rfl, hb2⟩
       have HB2 := Lib.hid (HB.out.trans (hb2.mono HB.out.size))
       clear hb2))
  go_ret2
  exact npost rfl HB2.out
set_option maxRecDepth 100000 in
theorem go_Two_sub (op : ByteArray) (a b : Int) (i : Nat) (r : Int × Int) (hf : Instr.findNow .string (.string op) twoEntries.toList 0 = some (some (i, .func (.func 92) #[] #[])))
    (hc : ∀ w, Calls Try.prog 92 #[.agg #[.int .i64 a, .int .i64 b]] w (NPost r w)) (w : World) :
    Calls Try.prog 58 #[.string op, .int .i64 a, .int .i64 b] w (NPost r w) := by
  have HFI := Lib.hid hf
  have HC := Lib.hid hc
  clear hf hc
  go_enter Try.func58, Try.ntmps58
  go_wp2_with (first
    | (go_at_call 72
       refine (go_twos _).mono ?_
       rintro e1 w1 ⟨b1, rfl, hm, hbel⟩
       have HM := Lib.hid hm
       have HB := Lib.hid hbel
       clear hm hbel)
    | (refine wpList_lookup_now rfl 128 (.tmp 11) (.tmp 12) rfl _ _ _ Try.underlying128 Try.underlying9 rfl b1 _ _ rfl HM.out _ HFI.out .nilFunc two_zero ?_
       clear HFI HM)
    | (go_at_call 92
       refine (HC.out _).mono ?_
       rintro e2 w2 ⟨rfl, hb2⟩
       have HB2 := Lib.hid (HB.out.trans (hb2.mono HB.out.size))
       clear hb2))
  go_ret2
  exact npost rfl HB2.out
set_option maxRecDepth 100000 in
theorem go_Two_xor (op : ByteArray) (a b : Int) (i : Nat) (r : Int × Int) (hf : Instr.findNow .string (.string op) twoEntries.toList 0 = some (some (i, .func (.func 102) #[] #[])))
    (hc : ∀ w, Calls Try.prog 102 #[.agg #[.int .i64 a, .int .i64 b]] w (NPost r w)) (w : World) :
    Calls Try.prog 58 #[.string op, .int .i64 a, .int .i64 b] w (NPost r w) := by
  have HFI := Lib.hid hf
  have HC := Lib.hid hc
  clear hf hc
  go_enter Try.func58, Try.ntmps58
  go_wp2_with (first
    | (go_at_call 72
       refine (go_twos _).mono ?_
       rintro e1 w1 ⟨b1, rfl, hm, hbel⟩
       have HM := Lib.hid hm
       have HB := Lib.hid hbel
       clear hm hbel)
    | (refine wpList_lookup_now rfl 128 (.tmp 11) (.tmp 12) rfl _ _ _ Try.underlying128 Try.underlying9 rfl b1 _ _ rfl HM.out _ HFI.out .nilFunc two_zero ?_
       clear HFI HM)
    | (go_at_call 102
       refine (HC.out _).mono ?_
       rintro e2 w2 ⟨rfl, hb2⟩
       have HB2 := Lib.hid (HB.out.trans (hb2.mono HB.out.size))
       clear hb2))
  go_ret2
  exact npost rfl HB2.out
theorem go_Two (op : ByteArray) (a b : Int) (ha : Fit a) (hb : Fit b) (w : World) : Calls Try.prog 58 #[.string op, .int .i64 a, .int .i64 b] w (NPost (twoT op a b) w) := by
  unfold twoT
  by_cases h0 : op = ⟨#[43]⟩
  · rw [if_pos h0]; subst h0; exact go_Two_add _ a b 0 _ (by kernel_rfl) (fun w => pair_add a b ha hb w) w
  rw [if_neg h0]
  by_cases h1 : op = ⟨#[45]⟩
  · rw [if_pos h1]; subst h1; exact go_Two_sub _ a b 1 _ (by kernel_rfl) (fun w => pair_sub a b ha hb w) w
  rw [if_neg h1]
  by_cases h2 : op = ⟨#[42]⟩
  · rw [if_pos h2]; subst h2; exact go_Two_mul _ a b 2 _ (by kernel_rfl) (fun w => pair_mul a b ha hb w) w
  rw [if_neg h2]
  by_cases h3 : op = ⟨#[47, 47]⟩
  · rw [if_pos h3]; subst h3; exact go_Two_quot _ a b 3 _ (by kernel_rfl) (fun w => pair_quot a b ha hb w) w
  rw [if_neg h3]
  by_cases h4 : op = ⟨#[114, 101, 109]⟩
  · rw [if_pos h4]; subst h4; exact go_Two_rem _ a b 4 _ (by kernel_rfl) (fun w => pair_rem a b w) w
  rw [if_neg h4]
  by_cases h5 : op = ⟨#[100, 105, 118]⟩
  · rw [if_pos h5]; subst h5; exact go_Two_div _ a b 5 _ (by kernel_rfl) (fun w => pair_div a b ha hb w) w
  rw [if_neg h5]
  by_cases h6 : op = ⟨#[109, 111, 100]⟩
  · rw [if_pos h6]; subst h6; exact go_Two_mod _ a b 6 _ (by kernel_rfl) (fun w => pair_mod a b ha hb w) w
  rw [if_neg h6]
  by_cases h7 : op = ⟨#[109, 105, 110]⟩
  · rw [if_pos h7]; subst h7; exact go_Two_least _ a b 7 _ (by kernel_rfl) (fun w => pair_least a b w) w
  rw [if_neg h7]
  by_cases h8 : op = ⟨#[109, 97, 120]⟩
  · rw [if_pos h8]; subst h8; exact go_Two_greatest _ a b 8 _ (by kernel_rfl) (fun w => pair_greatest a b w) w
  rw [if_neg h8]
  by_cases h9 : op = ⟨#[47, 92]⟩
  · rw [if_pos h9]; subst h9; exact go_Two_and _ a b 9 _ (by kernel_rfl) (fun w => pair_and a b w) w
  rw [if_neg h9]
  by_cases h10 : op = ⟨#[92, 47]⟩
  · rw [if_pos h10]; subst h10; exact go_Two_or _ a b 10 _ (by kernel_rfl) (fun w => pair_or a b w) w
  rw [if_neg h10]
  by_cases h11 : op = ⟨#[120, 111, 114]⟩
  · rw [if_pos h11]; subst h11; exact go_Two_xor _ a b 11 _ (by kernel_rfl) (fun w => pair_xor a b w) w
  rw [if_neg h11]
  by_cases h12 : op = ⟨#[60, 60]⟩
  · rw [if_pos h12]; subst h12; exact go_Two_left _ a b 12 _ (by kernel_rfl) (fun w => pair_left a b ha w) w
  rw [if_neg h12]
  by_cases h13 : op = ⟨#[62, 62]⟩
  · rw [if_pos h13]; subst h13; exact go_Two_right _ a b 13 _ (by kernel_rfl) (fun w => pair_right a b w) w
  rw [if_neg h13]
  by_cases h14 : op = ⟨#[42, 42]⟩
  · rw [if_pos h14]; subst h14; exact go_Two_power _ a b 14 _ (by kernel_rfl) (fun w => pair_power a b ha hb w) w
  rw [if_neg h14]
  by_cases h15 : op = ⟨#[94]⟩
  · rw [if_pos h15]; subst h15; exact go_Two_power _ a b 15 _ (by kernel_rfl) (fun w => pair_power a b ha hb w) w
  rw [if_neg h15]
  refine go_Two_no op a b ?_ w
  refine (find_ne (ne_beq h0)).trans ?_
  refine (find_ne (ne_beq h1)).trans ?_
  refine (find_ne (ne_beq h2)).trans ?_
  refine (find_ne (ne_beq h3)).trans ?_
  refine (find_ne (ne_beq h4)).trans ?_
  refine (find_ne (ne_beq h5)).trans ?_
  refine (find_ne (ne_beq h6)).trans ?_
  refine (find_ne (ne_beq h7)).trans ?_
  refine (find_ne (ne_beq h8)).trans ?_
  refine (find_ne (ne_beq h9)).trans ?_
  refine (find_ne (ne_beq h10)).trans ?_
  refine (find_ne (ne_beq h11)).trans ?_
  refine (find_ne (ne_beq h12)).trans ?_
  refine (find_ne (ne_beq h13)).trans ?_
  refine (find_ne (ne_beq h14)).trans ?_
  refine (find_ne (ne_beq h15)).trans ?_
  rfl
theorem one_zero (w : World) : (zeroValue 121).run Try.prog w = .ok .nilFunc w := by kernel_rfl
set_option maxRecDepth 100000 in
theorem go_One_no (op : ByteArray) (a : Int) (hf : Instr.findNow .string (.string op) oneEntries.toList 0 = some none) (w : World) :
    Calls Try.prog 57 #[.string op, .int .i64 a] w (NPost (0, 8) w) := by
  have HFI := Lib.hid hf
  clear hf
  go_enter Try.func57, Try.ntmps57
  go_wp2_with (first
    | (go_at_call 71
       refine (go_ones _).mono ?_
       rintro e1 w1 ⟨b1, rfl, hm, hbel⟩
       have HM := Lib.hid hm
       have HB := Lib.hid hbel
       clear hm hbel)
    | (refine wpList_lookup_now rfl 123 (.tmp 9) (.tmp 10) rfl _ _ _ Try.underlying123 Try.underlying9 rfl b1 _ _ rfl HM.out _ HFI.out .nilFunc one_zero ?_
       clear HFI HM))
  go_ret2
  exact npost rfl HB.out
set_option maxRecDepth 100000 in
theorem go_One_abs (op : ByteArray) (a : Int) (i : Nat) (r : Int × Int) (hf : Instr.findNow .string (.string op) oneEntries.toList 0 = some (some (i, .func (.func 88) #[] #[])))
    (hc : ∀ w, Calls Try.prog 88 #[.int .i64 a] w (NPost r w)) (w : World) :
    Calls Try.prog 57 #[.string op, .int .i64 a] w (NPost r w) := by
  have HFI := Lib.hid hf
  have HC := Lib.hid hc
  clear hf hc
  go_enter Try.func57, Try.ntmps57
  go_wp2_with (first
    | (go_at_call 71
       refine (go_ones _).mono ?_
       rintro e1 w1 ⟨b1, rfl, hm, hbel⟩
       have HM := Lib.hid hm
       have HB := Lib.hid hbel
       clear hm hbel)
    | (refine wpList_lookup_now rfl 123 (.tmp 9) (.tmp 10) rfl _ _ _ Try.underlying123 Try.underlying9 rfl b1 _ _ rfl HM.out _ HFI.out .nilFunc one_zero ?_
       clear HFI HM)
    | (go_at_call 88
       refine (HC.out _).mono ?_
       rintro e2 w2 ⟨rfl, hb2⟩
       have HB2 := Lib.hid (HB.out.trans (hb2.mono HB.out.size))
       clear hb2))
  go_ret2
  exact npost rfl HB2.out
set_option maxRecDepth 100000 in
theorem go_One_negate (op : ByteArray) (a : Int) (i : Nat) (r : Int × Int) (hf : Instr.findNow .string (.string op) oneEntries.toList 0 = some (some (i, .func (.func 86) #[] #[])))
    (hc : ∀ w, Calls Try.prog 86 #[.int .i64 a] w (NPost r w)) (w : World) :
    Calls Try.prog 57 #[.string op, .int .i64 a] w (NPost r w) := by
  have HFI := Lib.hid hf
  have HC := Lib.hid hc
  clear hf hc
  go_enter Try.func57, Try.ntmps57
  go_wp2_with (first
    | (go_at_call 71
       refine (go_ones _).mono ?_
       rintro e1 w1 ⟨b1, rfl, hm, hbel⟩
       have HM := Lib.hid hm
       have HB := Lib.hid hbel
       clear hm hbel)
    | (refine wpList_lookup_now rfl 123 (.tmp 9) (.tmp 10) rfl _ _ _ Try.underlying123 Try.underlying9 rfl b1 _ _ rfl HM.out _ HFI.out .nilFunc one_zero ?_
       clear HFI HM)
    | (go_at_call 86
       refine (HC.out _).mono ?_
       rintro e2 w2 ⟨rfl, hb2⟩
       have HB2 := Lib.hid (HB.out.trans (hb2.mono HB.out.size))
       clear hb2))
  go_ret2
  exact npost rfl HB2.out
set_option maxRecDepth 100000 in
theorem go_One_same (op : ByteArray) (a : Int) (i : Nat) (r : Int × Int) (hf : Instr.findNow .string (.string op) oneEntries.toList 0 = some (some (i, .func (.func 87) #[] #[])))
    (hc : ∀ w, Calls Try.prog 87 #[.int .i64 a] w (NPost r w)) (w : World) :
    Calls Try.prog 57 #[.string op, .int .i64 a] w (NPost r w) := by
  have HFI := Lib.hid hf
  have HC := Lib.hid hc
  clear hf hc
  go_enter Try.func57, Try.ntmps57
  go_wp2_with (first
    | (go_at_call 71
       refine (go_ones _).mono ?_
       rintro e1 w1 ⟨b1, rfl, hm, hbel⟩
       have HM := Lib.hid hm
       have HB := Lib.hid hbel
       clear hm hbel)
    | (refine wpList_lookup_now rfl 123 (.tmp 9) (.tmp 10) rfl _ _ _ Try.underlying123 Try.underlying9 rfl b1 _ _ rfl HM.out _ HFI.out .nilFunc one_zero ?_
       clear HFI HM)
    | (go_at_call 87
       refine (HC.out _).mono ?_
       rintro e2 w2 ⟨rfl, hb2⟩
       have HB2 := Lib.hid (HB.out.trans (hb2.mono HB.out.size))
       clear hb2))
  go_ret2
  exact npost rfl HB2.out
set_option maxRecDepth 100000 in
theorem go_One_sign (op : ByteArray) (a : Int) (i : Nat) (r : Int × Int) (hf : Instr.findNow .string (.string op) oneEntries.toList 0 = some (some (i, .func (.func 89) #[] #[])))
    (hc : ∀ w, Calls Try.prog 89 #[.int .i64 a] w (NPost r w)) (w : World) :
    Calls Try.prog 57 #[.string op, .int .i64 a] w (NPost r w) := by
  have HFI := Lib.hid hf
  have HC := Lib.hid hc
  clear hf hc
  go_enter Try.func57, Try.ntmps57
  go_wp2_with (first
    | (go_at_call 71
       refine (go_ones _).mono ?_
       rintro e1 w1 ⟨b1, rfl, hm, hbel⟩
       have HM := Lib.hid hm
       have HB := Lib.hid hbel
       clear hm hbel)
    | (refine wpList_lookup_now rfl 123 (.tmp 9) (.tmp 10) rfl _ _ _ Try.underlying123 Try.underlying9 rfl b1 _ _ rfl HM.out _ HFI.out .nilFunc one_zero ?_
       clear HFI HM)
    | (go_at_call 89
       refine (HC.out _).mono ?_
       rintro e2 w2 ⟨rfl, hb2⟩
       have HB2 := Lib.hid (HB.out.trans (hb2.mono HB.out.size))
       clear hb2))
  go_ret2
  exact npost rfl HB2.out
set_option maxRecDepth 100000 in
theorem go_One_turn (op : ByteArray) (a : Int) (i : Nat) (r : Int × Int) (hf : Instr.findNow .string (.string op) oneEntries.toList 0 = some (some (i, .func (.func 90) #[] #[])))
    (hc : ∀ w, Calls Try.prog 90 #[.int .i64 a] w (NPost r w)) (w : World) :
    Calls Try.prog 57 #[.string op, .int .i64 a] w (NPost r w) := by
  have HFI := Lib.hid hf
  have HC := Lib.hid hc
  clear hf hc
  go_enter Try.func57, Try.ntmps57
  go_wp2_with (first
    | (go_at_call 71
       refine (go_ones _).mono ?_
       rintro e1 w1 ⟨b1, rfl, hm, hbel⟩
       have HM := Lib.hid hm
       have HB := Lib.hid hbel
       clear hm hbel)
    | (refine wpList_lookup_now rfl 123 (.tmp 9) (.tmp 10) rfl _ _ _ Try.underlying123 Try.underlying9 rfl b1 _ _ rfl HM.out _ HFI.out .nilFunc one_zero ?_
       clear HFI HM)
    | (go_at_call 90
       refine (HC.out _).mono ?_
       rintro e2 w2 ⟨rfl, hb2⟩
       have HB2 := Lib.hid (HB.out.trans (hb2.mono HB.out.size))
       clear hb2))
  go_ret2
  exact npost rfl HB2.out
theorem go_One (op : ByteArray) (a : Int) (ha : Fit a) (w : World) : Calls Try.prog 57 #[.string op, .int .i64 a] w (NPost (oneT op a) w) := by
  unfold oneT
  by_cases h0 : op = ⟨#[45]⟩
  · rw [if_pos h0]; subst h0; exact go_One_negate _ a 0 _ (by kernel_rfl) (fun w => whole_negate a ha w) w
  rw [if_neg h0]
  by_cases h1 : op = ⟨#[43]⟩
  · rw [if_pos h1]; subst h1; exact go_One_same _ a 1 _ (by kernel_rfl) (fun w => whole_same a w) w
  rw [if_neg h1]
  by_cases h2 : op = ⟨#[97, 98, 115]⟩
  · rw [if_pos h2]; subst h2; exact go_One_abs _ a 2 _ (by kernel_rfl) (fun w => whole_abs a ha w) w
  rw [if_neg h2]
  by_cases h3 : op = ⟨#[115, 105, 103, 110]⟩
  · rw [if_pos h3]; subst h3; exact go_One_sign _ a 3 _ (by kernel_rfl) (fun w => whole_sign a w) w
  rw [if_neg h3]
  by_cases h4 : op = ⟨#[92]⟩
  · rw [if_pos h4]; subst h4; exact go_One_turn _ a 4 _ (by kernel_rfl) (fun w => whole_turn a w) w
  rw [if_neg h4]
  refine go_One_no op a ?_ w
  refine (find_ne (ne_beq h0)).trans ?_
  refine (find_ne (ne_beq h1)).trans ?_
  refine (find_ne (ne_beq h2)).trans ?_
  refine (find_ne (ne_beq h3)).trans ?_
  refine (find_ne (ne_beq h4)).trans ?_
  rfl
end Go.Proofs.Ytibjcfbilkkmkaa.Num
