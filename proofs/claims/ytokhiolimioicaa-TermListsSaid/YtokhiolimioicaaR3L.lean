
/-
  TermLists: the given statement, out of the walk of the law. No condition is added.
-/
import Derived.Test.YtokhiolimioicaaL3L
import Derived.Test.YtokhiolimioicaaPtO
import Derived.Test.YtokhiolimioicaaRows
import Derived.ProofKit
import Derived.OpenShut
import Derived.ShutString
import Derived.ChangeOld
import Derived.ChangeMaps5
import Derived.Deep.Slices
import Derived.Deep.Fields
import Derived.ChangeSame
namespace Go.Proofs.Ytokhiolimioicaa.Tms
open Go Go.ChangeMaps Go.ChangeShapes Go.WideShapes Go.ChangeAt Go.RowKit Go.Deep
set_option linter.unusedVariables false

section
variable {H : Type} {enc : TypeId × Value → H} {w : World} {base : Nat} {spare : Nat → Bool} {held : Bool}
set_option maxRecDepth 100000 in
theorem psSl_of {fuel : Nat} {v : Value} {x : DataW H × List MemPlace} (h : DataW.trod enc Try.prog w base spare held fuel 52 [v] = some x) : ∃ LL, PsSl w v LL := by
  rcases open_slice Try.underlying52 h with ⟨hcs, _⟩ | ⟨a, len, cap, m, n, D, Pl, hcs, _, hl, hm, hmm, _, hi⟩
  · simp only [List.cons.injEq, and_true] at hcs
    subst hcs
    exact ⟨[], none, 0, rfl, by simp, by decide, fun j hj => absurd hj (by simp)⟩
  · simp only [List.cons.injEq, and_true] at hcs
    subst hcs
    have hlm : len ≤ m := by rw [hmm]; split <;> omega
    have hC : Try.prog.cellsOf 22 = 1 := by kernel_rfl
    have each : ∀ i, i < len → ∃ L : List Pt, ∃ u, w.cell? (a.add i) = some u ∧ PtSl w u L := by
      intro i hilt
      obtain ⟨cs, hc, ht⟩ := hi i (by omega)
      obtain ⟨hl1, _, hat⟩ := World.cells?_some hc
      rw [hC] at hat hl1
      obtain ⟨u, rfl⟩ : ∃ u, cs = [u] := by
        match cs, hl1 with
        | [u], _ => exact ⟨u, rfl⟩
      obtain ⟨L, hL⟩ := ptSl_of ht
      have h0 := hat 0 (by omega)
      rw [Go.Deep.add_add, Nat.mul_one, Nat.add_zero] at h0
      exact ⟨L, u, h0, hL⟩
    let f : Nat → List Pt := fun i => if h : i < len then Classical.choose (each i h) else []
    have hf : ∀ i, i < len → ∃ u, w.cell? (a.add i) = some u ∧ PtSl w u (f i) := fun i hilt => by
      have := Classical.choose_spec (each i hilt)
      simp only [f, dif_pos hilt]
      exact this
    refine ⟨(List.range len).map f, some a, cap, by simp, by simpa using hl, hm, fun j hj => ?_⟩
    have hjl : j < len := by simpa using hj
    obtain ⟨b, off, spot⟩ := a
    obtain ⟨u0, h00, -⟩ := hf 0 (by omega)
    have hsp : spot = none := by simpa [Addr.add] using World.cell?_spot h00
    subst hsp
    have hg : ((List.range len).map f)[j] = f j := by simp
    rw [hg]
    obtain ⟨u, hu, hp⟩ := hf j hjl
    rw [Addr.add_lit] at hu
    exact ⟨b, off, u, rfl, World.block_lt_of_cell? _ _ hu, hu, hp⟩
set_option maxRecDepth 100000 in
/-- an argument of the type [][]Part -/
theorem pss_of {r : Reach} {b0 : Nat} {v : Value} {d : DataW H} {p : List MemPlace} (hv : Value.okWide Try.prog w r b0 52 v) (h : DataW.Trod enc Try.prog w base spare held 52 v d p) : ∃ LL, PsSl w v LL := by
  obtain ⟨a, len, cap, rfl⟩ := okWide_slice Try.underlying52 hv
  obtain ⟨fuel, hf⟩ := h
  exact psSl_of hf
end

theorem own_termLists : ownKnob Try.prog.godebug = none := by kernel_rfl
theorem laid_termLists : laidOutB Try.prog = true := by kernel_rfl

set_option maxRecDepth 100000 in
theorem lifted_termLists (os : Os) (started : os.Started) (H : Type) (enc : TypeId × Value → H) :
    ReturnsInHanded {} Try.checked os 10 .any (Rows.termListsSpec.pre6 enc Try.prog Try.f10 Rows.termListsRow.domain false) (Rows.termListsSpec.post enc Try.prog Try.f10 false true false false) := by
  refine returnsInHanded_of_change (C := Try.checked) own_termLists started (by kernel_rfl) Try.func10
    (ChangeSpec.witness6 (enc := enc) (C := Try.checked) false ⟨#[], #[.slice none 0 0, .slice none 0 0], []⟩ 8 (by kernel_rfl) (by kernel_rfl) (by kernel_rfl) (by kernel_rfl)) ?_
  intro W base args ds gs before hval0 hW hcnd _
  have hval : ∀ (j : Nat) t v, Try.f10.params[j]? = some t → args[j]? = some v → Value.okWide Try.prog W .any base t v := hval0
  have hW' := hW
  obtain ⟨p, q, hA0, hV, rfl, hfz, hnd⟩ := hW
  have hA : DataW.TrodAll enc Try.prog W 0 (fun _ => true) true Try.f10.params.toList args.toList ds p := hA0
  rw [Try.params10] at hA hval
  obtain ⟨v0, vs0, d0, ds0, p0, q0, hargs, rfl, rfl, h0, r0⟩ := trodAll_cons hA
  obtain ⟨v1, vs1, d1, ds1, p1, q1, rfl, rfl, rfl, h1, r1⟩ := trodAll_cons r0
  obtain ⟨rfl, rfl, rfl⟩ := trodAll_nil r1
  obtain rfl : args = #[v0, v1] := by cases args; simp_all
  obtain ⟨rfl, rfl⟩ := trodVars_none hV
  have k0 := h0
  have lt0 : ∀ x ∈ p0, x.block < W.heap.size := by obtain ⟨m, hm⟩ := k0; exact DataW.trod_lt m _ _ _ hm
  have hv0 := hval 0 52 v0 rfl rfl
  have k1 := h1
  have lt1 : ∀ x ∈ p1, x.block < W.heap.size := by obtain ⟨m, hm⟩ := k1; exact DataW.trod_lt m _ _ _ hm
  have hv1 := hval 1 22 v1 rfl rfl
  clear hA0 hval0
  obtain ⟨L0, hL0⟩ := pss_of hv0 h0
  obtain ⟨L1, hL1⟩ := pts_of hv1 h1
  refine (law_lists L0 L1 v0 v1 W hL0 hL1).mono fun e W' ⟨he, bel⟩ => ?_
  subst he
  exact ⟨_, rfl, _, _, _, [], _, [], hW', trodAll_mk1 (shut_bool Try.underlying4 _), (trodAll_cons_mk (Below.trod laid_termLists (by kernel_rfl) (of_decide_eq_true (by kernel_rfl)) k0 bel lt0) (trodAll_cons_mk (Below.trod laid_termLists (by kernel_rfl) (of_decide_eq_true (by kernel_rfl)) k1 bel lt1) trodAll_mk0)), rfl, bel.frame _, fun h => by cases h⟩

/-- THE STATEMENT -/
theorem termLists_holds : Rows.TermListsSaid :=
  OpenClaim.holds_of_wide 10 Try.f10 rfl rfl rfl rfl rfl rfl rfl ⟨rfl, rfl, rfl, rfl, rfl⟩ rfl rfl rfl rfl rfl (by kernel_rfl) Try.func10 (by kernel_rfl)
    (of_decide_eq_true (by kernel_rfl)) (by unfold Func.isWrapper; first | (rw [if_pos (by decide +kernel)]; kernel_rfl) | (rw [if_neg (by decide +kernel)]; exact ⟨rfl, rfl⟩))
    (fun os started H enc _ => lifted_termLists os started H enc)
#print axioms termLists_holds
end Go.Proofs.Ytokhiolimioicaa.Tms
