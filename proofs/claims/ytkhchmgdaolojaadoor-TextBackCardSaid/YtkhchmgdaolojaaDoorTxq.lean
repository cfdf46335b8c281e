
/-
  The statements of layer 16: only, walked over the program.
  Layer 16, plain: a number's codes are that number; a list of a text's codes is that text.
-/
import Derived.Test.YtkhchmgdaolojaaDoorTxo
namespace Go.Proofs.YtkhchmgdaolojaaDoor.Tms
open Go Go.RowKit Go.Proofs.YtkhchmgdaolojaaDoor.Reg Go.Proofs.YtkhchmgdaolojaaDoor.Rws Go.Proofs.YtkhchmgdaolojaaDoor.Maps Go.Instr
set_option linter.unusedVariables false
set_option linter.unusedSimpArgs false

set_option maxRecDepth 100000 in
set_option maxHeartbeats 4000000 in
theorem l16_only (f : Int) (t : Tm) (q q' : Option Addr) (k k' : Nat) (P : Nat → Prop) (w : World) (h1 : IntSl w AnyB (.slice q 1 k) [f]) (h2 : IsSl w P (.slice q' 1 k') [t]) :
    Calls Tryd.prog 18 #[.agg #[.bool true, .slice q 1 k, .slice q' 1 k', .int .i64 0, .int .i64 0, .string ⟨#[]⟩, .slice none 0 0], .int .i64 0, .int .i64 f] w (fun e w' => ∃ a c, e = .returned (.tuple #[.agg #[.int .i64 t.k, .int .i64 t.n, .string t.s, .slice a t.args.length c], .bool true]) ∧ IsTm w' (fun b => P b ∧ b < w.heap.size) (.agg #[.int .i64 t.k, .int .i64 t.n, .string t.s, .slice a t.args.length c]) t ∧ Below w.heap.size w w') := by
  obtain ⟨w1, w2, w3, w4⟩ := two w (.cells #[.bool true, .slice q 1 k, .slice q' 1 k', .int .i64 0, .int .i64 0, .string ⟨#[]⟩, .slice none 0 0] 35 (0, 0)) (.cells #[.int .i64 0, .int .i64 0, .string ⟨#[]⟩, .slice none 0 0] 28 (0, 0))
  have h2' := h2.lt2.below w4
  obtain ⟨a, c, e, -, -, h3⟩ := h1.below w4
  obtain ⟨ib, io, ea, -, il, hc⟩ := h3 0 (by simp)
  simp only [Value.slice.injEq] at e
  obtain ⟨rfl, -, -⟩ := e
  subst ea
  obtain ⟨tb, oo, eb, -⟩ := h2'.at 0 (by simp)
  subst eb
  obtain ⟨ta, tc, x0, x1, x2, x3, it, lt⟩ := (h2'.atb 0 (by simp)).read
  simp only [List.getElem_cons_zero, Nat.zero_mul, Nat.add_zero] at x0 x1 x2 x3 it hc
  obtain ⟨b0, b1, b2, b3, b4, b5, b6⟩ := row7 w1
  have HR := Lib.hid w2
  have HB := Lib.hid w4
  have HIT := Lib.hid it
  clear h1 h2 h2' h3 w1 w2 w3 w4 it
  have cf : (f != f) = false := by simp
  go_enter Tryd.func18, Tryd.ntmps18
  go_wp2_with (with_reducible show wpList _ _ _ (⟨none, .store _ (.tmp 6) _, _, _, _, _⟩ :: _) _ _
               go_must (refine wpList_store_row rfl 28 (.tmp 6) (.tmp 45) rfl (w.heap.size + 1) #[.int .i64 t.k, .int .i64 t.n, .string t.s, .slice ta t.args.length tc] rfl rfl _ _ HR.out size_term rfl (one4 _ _ _ _ _ _) ?_))
  have hz := setRow_heap _ (w.heap.size + 1) _ (#[.int .i64 t.k, .int .i64 t.n, .string t.s, .slice ta t.args.length tc] : Array Value) _ _ HR.out
  exact bodyPost_ret (v := .tuple #[.agg #[.int .i64 t.k, .int .i64 t.n, .string t.s, .slice ta t.args.length tc], .bool true]) (Push.results_cell_tmp Tryd.results18 _ _ (w.heap.size + 1) _ #[.int .i64 t.k, .int .i64 t.n, .string t.s, .slice ta t.args.length tc] _ _ _ rfl (by simp) hz Tryd.underlying28 rfl (by kernel_rfl)) rfl
    ⟨_, _, rfl, HIT.out.imp (fun _ h => h) (fun b hb _ => setRow_other _ _ _ _ (by have := hb.2; omega)), below_row HB.out (by omega)⟩
end Go.Proofs.YtkhchmgdaolojaaDoor.Tms
namespace Go.Proofs.YtkhchmgdaolojaaDoor.Num
open Go Go.RowKit
set_option linter.unusedVariables false
set_option linter.unusedSimpArgs false

theorem dig_of {r : Nat} (h : r < 10) : dig (UInt8.ofNat (48 + r)) = r := by
  unfold dig
  rw [UInt8.toNat_ofNat_of_lt' (by rw [show UInt8.size = 256 from rfl]; omega)]
  rw [(digN_num (by omega) (by omega)).1]; omega
theorem dec_val : ∀ (m u : Nat), u ≤ m → val 10 (Lib.decDigits u) = u ∧ badB 10 (Lib.decDigits u) = false ∧ Lib.decDigits u ≠ []
  | 0, u, h => by
    obtain rfl : u = 0 := by omega
    rw [dec_small (by omega)]; exact ⟨by decide, by decide, by simp⟩
  | m + 1, u, h => by
    by_cases h1 : u < 10
    · rw [dec_small h1]
      refine ⟨?_, ?_, by simp⟩
      · show 0 * 10 + dig _ = u
        rw [dig_of h1]; omega
      · unfold badB; simp only [List.any_cons, List.any_nil, Bool.or_false, decide_eq_false_iff_not]; rw [dig_of h1]; omega
    · obtain ⟨i1, i2, i3⟩ := dec_val m (u / 10) (by omega)
      have hd := dig_of (r := u % 10) (by omega)
      rw [dec_big h1, val_snoc, bad_snoc, i1, i2, hd]
      refine ⟨by omega, ?_, by simp⟩
      simp only [Bool.false_or, decide_eq_false_iff_not]; omega
theorem dec_parse {u : Nat} (h : u ≤ 9223372036854775808) : parseT (Lib.decDigits u) 10 = (wrap64 (u : Int), 0) := by
  obtain ⟨i1, i2, i3⟩ := dec_val _ u (Nat.le_refl _)
  have hv : val (10 : Int).toNat (Lib.decDigits u) = u := i1
  refine (parse_val (by omega) i3 i2 (by rw [hv]; exact h)).trans ?_
  rw [hv]
theorem dec_head : ∀ (m u : Nat), u ≤ m → (Lib.decDigits u).head? ≠ some 45
  | 0, u, h => by
    obtain rfl : u = 0 := by omega
    rw [dec_small (by omega)]; decide
  | m + 1, u, h => by
    by_cases h1 : u < 10
    · rw [dec_small h1]
      intro he
      simp only [List.head?_cons, Option.some.injEq] at he
      have h2 := congrArg UInt8.toNat he
      rw [UInt8.toNat_ofNat_of_lt' (by rw [show UInt8.size = 256 from rfl]; omega)] at h2
      have h3 : (45 : UInt8).toNat = 45 := rfl
      omega
    · rw [dec_big h1]
      have ih := dec_head m (u / 10) (by omega)
      have hn := (dec_val _ (u / 10) (Nat.le_refl _)).2.2
      cases he : Lib.decDigits (u / 10) with
      | nil => exact absurd he hn
      | cons a l => rw [he] at ih; simpa using ih
end Go.Proofs.YtkhchmgdaolojaaDoor.Num
namespace Go.Proofs.YtkhchmgdaolojaaDoor.Tms
open Go Go.RowKit Go.Proofs.YtkhchmgdaolojaaDoor.Reg Go.Proofs.YtkhchmgdaolojaaDoor.Rws
set_option linter.unusedVariables false
set_option linter.unusedSimpArgs false
theorem number_back {n : Int} (h : Num.Fit n) : numberT (Lib.itoa n) = (n, true) := by
  obtain ⟨h0, h1⟩ := h
  by_cases hn : n < 0
  · have e1 : Lib.itoa n = 45 :: Lib.decDigits n.natAbs := by unfold Lib.itoa; rw [if_pos hn]
    have e2 : isMinus (45 :: Lib.decDigits n.natAbs) = true := rfl
    unfold numberT
    rw [e1, e2, if_pos rfl]
    show numB true (Num.parseT (Lib.decDigits n.natAbs) 10) = _
    rw [Num.dec_parse (by omega)]
    by_cases hm : n = -9223372036854775808
    · subst hm
      rw [show ((((-9223372036854775808 : Int).natAbs : Nat)) : Int) = 9223372036854775808 from rfl, Num.wrap_eq]; decide
    · rw [Num.wrap_in (r := ((n.natAbs : Nat) : Int)) (by unfold Num.Fit; omega)]
      unfold numB
      rw [if_neg (by simp), if_neg (by simp), if_pos rfl]
      show (-((n.natAbs : Nat) : Int), true) = _
      rw [show -((n.natAbs : Nat) : Int) = n by omega]
  · have e1 : Lib.itoa n = Lib.decDigits n.toNat := by unfold Lib.itoa; rw [if_neg hn]
    have e2 : isMinus (Lib.decDigits n.toNat) = false := by unfold isMinus; simpa using Num.dec_head _ n.toNat (Nat.le_refl _)
    unfold numberT
    rw [e1, e2, if_neg (by simp), Num.dec_parse (by omega), Num.wrap_in (r := ((n.toNat : Nat) : Int)) (by unfold Num.Fit; omega)]
    unfold numB
    rw [if_neg (by simp), if_neg (by show ¬ ((n.toNat : Nat) : Int) < 0; omega), if_neg (by simp)]
    show (((n.toNat : Nat) : Int), true) = _
    rw [Int.toNat_of_nonneg (by omega)]
theorem char_good (codes : Bool) (c : UInt8) : badItem codes (charT codes c) = none := by
  cases codes with
  | false => simp [badItem, charT, atomT, Tm.k, Tm.s, ByteArray.size]
  | true =>
    have := c.toNat_lt
    unfold badItem charT
    simp only [if_true]
    rw [if_neg (by simp [intT, Tm.k]), if_pos (by simp [intT, Tm.k]), if_neg (by simp [intT, Tm.n]; omega)]
theorem char_byte (codes : Bool) (c : UInt8) : byteT codes (charT codes c) = c := by
  cases codes with
  | false => rfl
  | true => simp [byteT, charT, intT, Tm.n]
theorem text_list (codes : Bool) (l : List UInt8) : textT codes (listT (charsT codes l) nilT) = (none, l) := by
  have hi : itemsT (listT (charsT codes l) nilT) = (charsT codes l, nilT) := by
    rw [list_items, show itemsT nilT = ([], nilT) from by kernel_rfl]; simp
  have hf : (charsT codes l).findSome? (badItem codes) = none := by
    rw [List.findSome?_eq_none_iff]
    intro x hx
    unfold charsT at hx
    obtain ⟨c, -, rfl⟩ := List.mem_map.1 hx
    exact char_good codes c
  unfold textT
  rw [hi]
  simp only [hf]
  rw [if_neg (by decide), if_pos (by decide +kernel)]
  unfold charsT
  rw [List.map_map, show (byteT codes ∘ charT codes) = id from funext fun c => char_byte codes c, List.map_id]
end Go.Proofs.YtkhchmgdaolojaaDoor.Tms
