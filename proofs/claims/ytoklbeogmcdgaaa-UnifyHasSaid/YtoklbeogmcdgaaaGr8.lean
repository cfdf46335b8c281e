
/-
  prolixlaw08.great: are steps more than are looked at?
-/
import Derived.Test.YtoklbeogmcdgaaaOpa
import Derived.Test.YtoklbeogmcdgaaaAl8
namespace Go.Proofs.Ytoklbeogmcdgaaa.Tms
open Go Go.RowKit Go.Proofs.Ytoklbeogmcdgaaa.Reg Go.Proofs.Ytoklbeogmcdgaaa.Rws Go.Proofs.Ytoklbeogmcdgaaa.Maps
set_option linter.unusedVariables false
set_option linter.unusedSimpArgs false

theorem OpSl.at {w : World} {n c : Nat} {q : Option Addr} {l : List OpR} (h : OpSl w (.slice q n c) l) (j : Nat) (hj : j < l.length) : ∃ b off a c', q = some ⟨b, off, none⟩ ∧ w.cell? ⟨b, off + j * 4, none⟩ = some (.int .i64 l[j].k) ∧ w.cell? ⟨b, off + j * 4 + 1, none⟩ = some (.int .i64 l[j].a) ∧
    w.cell? ⟨b, off + j * 4 + 2, none⟩ = some (.int .i64 l[j].b) ∧ w.cell? ⟨b, off + j * 4 + 3, none⟩ = some (.slice a l[j].l.length c') ∧ PtSl w (.slice a l[j].l.length c') l[j].l := by
  obtain ⟨a, cap, e, h1, h2, h3⟩ := h
  obtain ⟨b, off, u, e1, hl, c0, c1, c2, c3, hp⟩ := h3 j hj
  simp only [Value.slice.injEq] at e
  obtain ⟨rfl, -, -⟩ := e
  obtain ⟨a', c', rfl, -, -⟩ := hp.form
  exact ⟨b, off, a', c', e1, c0, c1, c2, c3, hp⟩
def grO (l : List OpR) : Bool := (l.any fun o => decide (60 < o.l.length)) || decide (60 < l.length)
def GrRel (l : List OpR) (w : World) (vi : Value) (wr : World) : Prop := ∃ i : Nat, i ≤ l.length ∧ vi = .int .i64 i ∧ (∀ j (h : j < l.length), j < i → ¬ 60 < l[j].l.length) ∧ Below w.heap.size w wr
set_option maxRecDepth 100000 in
set_option maxHeartbeats 4000000 in
theorem great8 (l : List OpR) (v : Value) (w : World) (h : OpSl w v l) : Calls Try.prog 26 #[v] w (Says (grO l) w) := by
  obtain ⟨a, c, rfl, hc, hm⟩ := h.form
  unfold maxLen at hm
  have H := Lib.hid h
  have hst : GrRel l w (.int .i64 ((0 : Nat) : Int)) w := ⟨0, by omega, rfl, fun j _ hj => by omega, Below.refl _ _⟩
  have HST := Lib.hid hst
  clear h hst
  go_enter Try.func26, Try.ntmps26
  go_wp2
  go_loopw [7] (fun vi wr => GrRel l w vi wr) (fun vi _ => l.length - (intOf vi).toNat)
  case atStart => exact HST.out
  case round =>
    clear HST
    obtain ⟨i, hi, rfl, hno, hb⟩ := hrel
    have HNO := Lib.hid hno
    have HB := Lib.hid hb
    clear hno hb
    by_cases hil : i < l.length
    · have b1 : decide ((i : Int) < (l.length : Int)) = true := by simp; omega
      obtain ⟨b, off, a', c', rfl, x0, x1, x2, x3, hp⟩ := (H.out.below HB.out).at i hil
      have hb1 := below_new wr (.cells #[.int .i64 l[i].k, .int .i64 l[i].a, .int .i64 l[i].b, .slice a' l[i].l.length c'] 49 (0, 0))
      obtain ⟨y0, y1, y2, y3⟩ := row4 (heap_alloc_new wr (.cells #[.int .i64 l[i].k, .int .i64 l[i].a, .int .i64 l[i].b, .slice a' l[i].l.length c'] 49 (0, 0)))
      have HP := Lib.hid (hp.below hb1)
      have HB1 := Lib.hid (HB.out.trans (hb1.mono HB.out.size))
      clear hp hb1
      go_wp2_with fail
      refine (ref_great _ _ _ HP.out).mono ?_
      rintro e2 w2 ⟨rfl, rfl⟩
      clear x0 x1 x2 x3 y0 y1 y2 y3
      by_cases hg : 60 < l[i].l.length
      · have d1 : decide (60 < (l[i].l.length : Int)) = true := by simp; omega
        have hgr : grO l = true := by
          unfold grO
          rw [Bool.or_eq_true, List.any_eq_true]
          exact .inl ⟨l[i], List.getElem_mem hil, by simpa using hg⟩
        have HG := Lib.hid hgr
        clear hgr
        go_wp2
        go_ret
        exact ⟨by rw [HG.out]; rfl, HB1.out⟩
      · have d1 : decide (60 < (l[i].l.length : Int)) = false := by simp; omega
        have hno' : ∀ j (h : j < l.length), j < i + 1 → ¬ 60 < l[j].l.length := fun j h hj => by
          by_cases e : j = i
          · subst e; exact hg
          · exact HNO.out j h (by omega)
        have HNO' := Lib.hid hno'
        clear hno'
        go_wp2
        go_roundw
        case measure => simp [intOf]; omega
        case rel => exact ⟨i + 1, by omega, rfl, HNO'.out, HB1.out⟩
    · have b1 : decide ((i : Int) < (l.length : Int)) = false := by simp; omega
      have hgr : grO l = decide (60 < (l.length : Int)) := by
        have e : (l.any fun o => decide (60 < o.l.length)) = false := by
          rw [List.any_eq_false]
          intro o ho
          obtain ⟨j, hj, rfl⟩ := List.mem_iff_getElem.1 ho
          have := HNO.out j hj (by omega)
          simpa using this
        unfold grO
        rw [e, Bool.false_or]
        exact decide_eq_decide.2 (by omega)
      have HG := Lib.hid hgr
      clear hgr
      go_wp2
      go_ret
      exact ⟨by rw [HG.out]; rfl, HB.out⟩
end Go.Proofs.Ytoklbeogmcdgaaa.Tms
