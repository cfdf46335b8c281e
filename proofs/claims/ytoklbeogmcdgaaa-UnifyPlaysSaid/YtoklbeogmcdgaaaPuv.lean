
/-
  Unify, Safely and Has, of whatever cells, on both sides.
-/
import Derived.Test.YtoklbeogmcdgaaaRbu
namespace Go.Proofs.Ytoklbeogmcdgaaa.Tms
open Go Go.RowKit Go.Proofs.Ytoklbeogmcdgaaa.Reg Go.Proofs.Ytoklbeogmcdgaaa.Rws Go.Proofs.Ytoklbeogmcdgaaa.Maps
set_option linter.unusedVariables false
set_option linter.unusedSimpArgs false

theorem un_Safely_no {S : Sto} {D : Nat → Prop} {p : Nat} (w : World) (hS : StoAt w D p S) (hI : Inv S) (a b : Int) (hx : ¬ (0 ≤ a ∧ a < S.cells.length) ∨ ¬ (0 ≤ b ∧ b < S.cells.length)) :
    Calls Try.prog 49 #[.pointer (some ⟨p, 0, none⟩), .int .i64 a, .int .i64 b] w fun e w' => e = .returned (.tuple #[.bool false, .int .i64 2]) ∧ w = w' := by
  have H := Lib.hid (un_begin_no w hS hI true a b hx)
  clear hx hS
  go_enter Try.func49, Try.ntmps49
  go_wp2_with fail
  refine H.out.mono ?_
  rintro e1 w1 ⟨rfl, rfl⟩
  go_wp2
  go_ret2
  exact ⟨rfl, rfl⟩
set_option maxRecDepth 100000 in
set_option maxHeartbeats 4000000 in
theorem un_Has_no {S : Sto} {D : Nat → Prop} {p : Nat} (w : World) (hS : StoAt w D p S) (hI : Inv S) (v x : Int) (hn : ¬ (inR S v ∧ inR S x ∧ (cellF S v.toNat).k = 1)) :
    Calls Try.prog 51 #[.pointer (some ⟨p, 0, none⟩), .int .i64 v, .int .i64 x] w fun e w' => e = .returned (.tuple #[.bool false, .int .i64 2]) ∧ Below w.heap.size w w' := by
  have HS := Lib.hid hS
  have HI := Lib.hid hI
  clear hS hI
  by_cases h1 : ¬ inR S v
  · have H1 := Lib.hid (show ¬ (0 ≤ v ∧ v < S.cells.length) from h1)
    clear h1 hn
    go_enter Try.func51, Try.ntmps51
    go_wp2_with fail
    refine (un_cell_no w HS.out v H1.out).mono ?_
    rintro e1 w1 ⟨rfl, rfl⟩
    go_wp2
    go_ret2
    exact ⟨rfl, Below.refl _ _⟩
  have h1' : inR S v := Classical.byContradiction h1
  have hv0 := h1'
  unfold inR at hv0
  obtain ⟨v, rfl⟩ : ∃ n : Nat, v = n := ⟨v.toNat, by omega⟩
  have hvl : v < S.cells.length := by omega
  by_cases h2 : ¬ inR S x
  · have H2 := Lib.hid (show ¬ (0 ≤ x ∧ x < S.cells.length) from h2)
    clear h1 h2 h1' hn
    go_enter Try.func51, Try.ntmps51
    go_wp2_with fail
    refine (un_cell w HS.out HI.out v hvl).mono ?_
    rintro e1 w1 ⟨rfl, rfl⟩
    go_wp2_with fail
    refine (un_cell_no w HS.out x H2.out).mono ?_
    rintro e1 w1 ⟨rfl, rfl⟩
    go_wp2
    go_ret2
    exact ⟨rfl, Below.refl _ _⟩
  have h2' : inR S x := Classical.byContradiction h2
  have hx0 := h2'
  unfold inR at hx0
  obtain ⟨x, rfl⟩ : ∃ n : Nat, x = n := ⟨x.toNat, by omega⟩
  have hxl : x < S.cells.length := by omega
  have hk : (cellF S v).k ≠ 1 := fun e => hn ⟨h1', h2', by rw [Int.toNat_natCast]; exact e⟩
  obtain ⟨fv, cv, gv⟩ := HI.out.stoIn.fol hvl
  have okv := HI.out.cell _ _ gv
  have hal := okv.len
  have hsm := HI.out.small
  have hlook := sto_Look w HS.out fv v _ _ cv gv (by omega) (by omega)
  rw [show shellC (fol S v) (cellF S v) = .mk (cellF S v).k (cellF S v).n (cellF S v).s [] from if_neg hk] at hlook
  obtain ⟨c, hc⟩ : ∃ c, c = cellF S v := ⟨_, rfl⟩
  rw [← hc] at hlook hk
  have HLOOK := Lib.hid hlook
  have b1 : (c.k != 1) = true := by simpa using hk
  clear hc okv cv gv hk hlook h1 h2 h1' h2' hn hal
  go_enter Try.func51, Try.ntmps51
  go_wp2_with fail
  refine (un_cell w HS.out HI.out v hvl).mono ?_
  rintro e1 w1 ⟨rfl, rfl⟩
  go_wp2_with fail
  refine (un_cell w HS.out HI.out x hxl).mono ?_
  rintro e1 w1 ⟨rfl, rfl⟩
  go_wp2_with fail
  refine HLOOK.out.mono ?_
  rintro e3 w3 ⟨av, he3, hav, hb3⟩
  obtain rfl : e3 = .returned (.tuple #[.agg #[.int .i64 c.k, .int .i64 c.n, .string c.s, .slice none 0 0], av]) := he3
  have hb4 := hb3.trans ((below_new w3 (.cells #[.int .i64 c.k, .int .i64 c.n, .string c.s, .slice none 0 0] 33 (0, 0))).mono hb3.size)
  have hr4 := heap_alloc_new w3 (.cells #[.int .i64 c.k, .int .i64 c.n, .string c.s, .slice none 0 0] 33 (0, 0))
  obtain ⟨u0, u1, u2, u3⟩ := row4 hr4
  have HB4 := Lib.hid hb4
  clear hb3 hb4 hav hr4
  dsimp only
  go_wp2
  go_ret2
  exact ⟨rfl, HB4.out⟩
section
variable {w0 w w' : World} {p q mb : Nat} {S R : Sto} {M N : List (Int × Int)} {pv : Value} {Z : Nat → Prop}
theorem inR_nat {S : Sto} {a : Int} (h : inR S a) : ∃ n : Nat, a = n ∧ n < S.cells.length := ⟨a.toNat, by unfold inR at h; omega, by unfold inR at h; omega⟩
theorem not_both {S : Sto} {a b : Int} (h : ¬ (inR S a ∧ inR S b)) : ¬ (0 ≤ a ∧ a < S.cells.length) ∨ ¬ (0 ≤ b ∧ b < S.cells.length) := by
  by_cases h1 : inR S a
  · exact .inr fun h2 => h ⟨h1, h2⟩
  · exact .inl h1
theorem pl_Unify (h : PlAt w0 p q mb S R M N pv Z w) (hI : Inv S) (a b : Int) :
    Calls Try.prog 48 #[.pointer (some ⟨p, 0, none⟩), .int .i64 a, .int .i64 b] w fun e w' => e = .returned (.tuple #[.bool (unA S false a b).1, .int .i64 (unA S false a b).2]) ∧ PlDid w0 p q mb Z w (unW S false a b) R M N pv w' := by
  obtain ⟨D, E, hi, hz⟩ := h
  by_cases hx : inR S a ∧ inR S b
  · have e1 : unA S false a b = (hasB (uniR S false a.toNat b.toNat), hasE (uniR S false a.toNat b.toNat)) := if_pos hx
    have e2 : unW S false a b = uniW S false a.toNat b.toNat := if_pos hx
    rw [e1, e2]
    obtain ⟨⟨a, rfl, ha⟩, ⟨b, rfl, hb⟩⟩ := And.intro (inR_nat hx.1) (inR_nat hx.2)
    rw [Int.toNat_natCast, Int.toNat_natCast]
    refine (un_Unify hi.law hI a b ha hb).mono ?_
    rintro e w' ⟨rfl, hd⟩
    exact ⟨rfl, .of hz (hi.law_to hd)⟩
  · have e1 : unA S false a b = (false, 2) := if_neg hx
    have e2 : unW S false a b = S := if_neg hx
    rw [e1, e2]
    refine (un_Unify_no w hi.law.sto hI a b (not_both hx)).mono ?_
    rintro e w' ⟨rfl, rfl⟩
    exact ⟨rfl, .refl ⟨D, E, hi, hz⟩⟩
theorem pl_Safely (h : PlAt w0 p q mb S R M N pv Z w) (hI : Inv S) (a b : Int) :
    Calls Try.prog 49 #[.pointer (some ⟨p, 0, none⟩), .int .i64 a, .int .i64 b] w fun e w' => e = .returned (.tuple #[.bool (unA S true a b).1, .int .i64 (unA S true a b).2]) ∧ PlDid w0 p q mb Z w (unW S true a b) R M N pv w' := by
  obtain ⟨D, E, hi, hz⟩ := h
  by_cases hx : inR S a ∧ inR S b
  · have e1 : unA S true a b = (hasB (uniR S true a.toNat b.toNat), hasE (uniR S true a.toNat b.toNat)) := if_pos hx
    have e2 : unW S true a b = uniW S true a.toNat b.toNat := if_pos hx
    rw [e1, e2]
    obtain ⟨⟨a, rfl, ha⟩, ⟨b, rfl, hb⟩⟩ := And.intro (inR_nat hx.1) (inR_nat hx.2)
    rw [Int.toNat_natCast, Int.toNat_natCast]
    refine (un_Safely hi.law hI a b ha hb).mono ?_
    rintro e w' ⟨rfl, hd⟩
    exact ⟨rfl, .of hz (hi.law_to hd)⟩
  · have e1 : unA S true a b = (false, 2) := if_neg hx
    have e2 : unW S true a b = S := if_neg hx
    rw [e1, e2]
    refine (un_Safely_no w hi.law.sto hI a b (not_both hx)).mono ?_
    rintro e w' ⟨rfl, rfl⟩
    exact ⟨rfl, .refl ⟨D, E, hi, hz⟩⟩
theorem pl_UnifyR (h : PlAt w0 p q mb S R M N pv Z w) (hI : Inv R) (sf : Bool) (a b : Int) :
    Calls Try.prog 50 #[.pointer (some ⟨q, 0, none⟩), .int .i64 a, .int .i64 b, .bool sf] w fun e w' => e = .returned (.tuple #[.bool (unA R sf a b).1, .int .i64 (unA R sf a b).2]) ∧ PlDid w0 p q mb Z w S (unW R sf a b) M N pv w' := by
  obtain ⟨D, E, hi, hz⟩ := h
  by_cases hx : inR R a ∧ inR R b
  · have e1 : unA R sf a b = (hasB (uniR R sf a.toNat b.toNat), hasE (uniR R sf a.toNat b.toNat)) := if_pos hx
    have e2 : unW R sf a b = uniW R sf a.toNat b.toNat := if_pos hx
    rw [e1, e2]
    obtain ⟨⟨a, rfl, ha⟩, ⟨b, rfl, hb⟩⟩ := And.intro (inR_nat hx.1) (inR_nat hx.2)
    rw [Int.toNat_natCast, Int.toNat_natCast]
    refine (ref_UnifyIn w hi.ref.ref hI sf a b ha hb).mono ?_
    rintro e w' ⟨rfl, hd⟩
    exact ⟨rfl, .of hz (hi.ref_to (hi.ref.did hd))⟩
  · have e1 : unA R sf a b = (false, 2) := if_neg hx
    have e2 : unW R sf a b = R := if_neg hx
    rw [e1, e2]
    refine (ref_Unify_no w hi.ref.ref sf a b hx).mono ?_
    rintro e w' ⟨rfl, rfl⟩
    exact ⟨rfl, .refl ⟨D, E, hi, hz⟩⟩
theorem pl_Has (h : PlAt w0 p q mb S R M N pv Z w) (hI : Inv S) (v x : Int) :
    Calls Try.prog 51 #[.pointer (some ⟨p, 0, none⟩), .int .i64 v, .int .i64 x] w fun e w' => e = .returned (.tuple #[.bool (haA S v x).1, .int .i64 (haA S v x).2]) ∧ PlDid w0 p q mb Z w S R M N pv w' := by
  obtain ⟨D, E, hi, hz⟩ := h
  by_cases hx : inR S v ∧ inR S x ∧ (cellF S v.toNat).k = 1
  · have e1 : haA S v x = (hasB (hasV S v.toNat x.toNat), hasE (hasV S v.toNat x.toNat)) := if_pos hx
    rw [e1]
    obtain ⟨⟨v, rfl, hv⟩, ⟨x, rfl, hxl⟩⟩ := And.intro (inR_nat hx.1) (inR_nat hx.2.1)
    have hk := hx.2.2
    rw [Int.toNat_natCast] at hk
    rw [Int.toNat_natCast, Int.toNat_natCast]
    refine (un_Has hi.law hI v x hv hxl hk).mono ?_
    rintro e w' ⟨rfl, h1, h2⟩
    exact ⟨rfl, .of hz (hi.law_to ⟨D, h1, h2⟩)⟩
  · have e1 : haA S v x = (false, 2) := if_neg hx
    rw [e1]
    refine (un_Has_no w hi.law.sto hI v x hx).mono ?_
    rintro e w' ⟨rfl, hb⟩
    exact ⟨rfl, .below ⟨D, E, hi, hz⟩ hb⟩
theorem pl_HasR (h : PlAt w0 p q mb S R M N pv Z w) (hI : Inv R) (v x : Int) :
    Calls Try.prog 52 #[.pointer (some ⟨q, 0, none⟩), .int .i64 v, .int .i64 x] w fun e w' => e = .returned (.tuple #[.bool (haA R v x).1, .int .i64 (haA R v x).2]) ∧ PlDid w0 p q mb Z w S R M N pv w' := by
  obtain ⟨D, E, hi, hz⟩ := h
  refine (ref_HasIn w hi.ref.ref hI v x).mono ?_
  rintro e w' ⟨rfl, hb⟩
  exact ⟨rfl, .below ⟨D, E, hi, hz⟩ hb⟩
end
end Go.Proofs.Ytoklbeogmcdgaaa.Tms
