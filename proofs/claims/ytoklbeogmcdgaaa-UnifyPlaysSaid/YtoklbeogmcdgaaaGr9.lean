
/-
  Layer 9's arguments: Pair, []Pair; prolixlaw09.great.
-/
import Derived.Test.YtoklbeogmcdgaaaGr8
namespace Go.Proofs.Ytoklbeogmcdgaaa.Tms
open Go Go.ChangeMaps Go.ChangeShapes Go.WideShapes Go.ChangeAt Go.RowKit Go.Deep
set_option linter.unusedVariables false
set_option linter.unusedSimpArgs false

/-- a slice of pairs of terms' parts -/
def PrSl (w : World) (v : Value) (l : List (List Pt × List Pt)) : Prop :=
  ∃ a cap, v = .slice a l.length cap ∧ l.length ≤ cap ∧ cap ≤ maxLen ∧ ∀ j (h : j < l.length), ∃ b off u1 u2, a = some ⟨b, off, none⟩ ∧ b < w.heap.size ∧ w.cell? ⟨b, off + j * 2, none⟩ = some u1 ∧ w.cell? ⟨b, off + j * 2 + 1, none⟩ = some u2 ∧ PtSl w u1 l[j].1 ∧ PtSl w u2 l[j].2
theorem PrSl.form {w : World} {v : Value} {l : List (List Pt × List Pt)} (h : PrSl w v l) : ∃ a cap, v = .slice a l.length cap ∧ l.length ≤ cap ∧ cap ≤ maxLen := let ⟨a, c, e, h1, h2, _⟩ := h; ⟨a, c, e, h1, h2⟩
theorem PrSl.below {w w' : World} {v : Value} {l : List (List Pt × List Pt)} (h : PrSl w v l) (hb : Below w.heap.size w w') : PrSl w' v l := by
  obtain ⟨a, cap, e, h1, h2, h3⟩ := h
  refine ⟨a, cap, e, h1, h2, fun j hj => ?_⟩
  obtain ⟨b, off, u1, u2, e1, hl, c0, c1, hp, hq⟩ := h3 j hj
  have hc := fun o => World.cell?_of_block (w := w) (w' := w') (a := ⟨b, o, none⟩) (hb.block b hl)
  exact ⟨b, off, u1, u2, e1, Nat.lt_of_lt_of_le hl hb.size, (hc _).trans c0, (hc _).trans c1, hp.below hb, hq.below hb⟩
theorem PrSl.one {w : World} {u1 u2 : Value} {L M : List Pt} {g : Nat} {T : TypeId} (h1 : PtSl w u1 L) (h2 : PtSl w u2 M) (hg : w.heap[g]? = some (.cells #[u1, u2] T (0, 0))) : PrSl w (.slice (some ⟨g, 0, none⟩) 1 1) [(L, M)] := by
  refine ⟨_, 1, rfl, Nat.le_refl _, by unfold maxLen; omega, fun j hj => ?_⟩
  obtain rfl : j = 0 := by simp at hj; omega
  exact ⟨g, 0, u1, u2, rfl, (Array.getElem?_eq_some_iff.1 hg).1, by simpa using cell_of_row w g 0 _ T _ hg, by simpa using cell_of_row w g 1 _ T _ hg, h1, h2⟩
section
variable {H : Type} {enc : TypeId × Value → H} {w : World} {base : Nat} {spare : Nat → Bool} {held : Bool}
theorem list2 {α : Type} {l : List α} {a b : α} (hl : l.length = 2) (h0 : l[0]? = some a) (h1 : l[1]? = some b) : l = [a, b] := by
  match l, hl with
  | [x0, x1], _ => simp at h0 h1; simp [h0, h1]
set_option maxRecDepth 100000 in
theorem pr_of {fuel : Nat} {cs : List Value} {x : DataW H × List MemPlace} (h : DataW.trod enc Try.prog w base spare held fuel 78 cs = some x) : ∃ (L M : List Pt) (u1 u2 : Value), cs = [u1, u2] ∧ PtSl w u1 L ∧ PtSl w u2 M := by
  obtain ⟨hl, hf⟩ := field_of Try.underlying78 (by kernel_rfl) (by kernel_rfl) h
  obtain ⟨v0, n0, y0, e0, t0⟩ := hf 0 _ rfl
  obtain ⟨v1, n1, y1, e1, t1⟩ := hf 1 _ rfl
  obtain ⟨L, hL, _⟩ := ptSl_of t0
  obtain ⟨M, hM, _⟩ := ptSl_of t1
  exact ⟨L, M, v0, v1, list2 hl e0 e1, hL, hM⟩
end
end Go.Proofs.Ytoklbeogmcdgaaa.Tms
namespace Go.Proofs.Ytoklbeogmcdgaaa.Tms
open Go Go.RowKit Go.Proofs.Ytoklbeogmcdgaaa.Reg Go.Proofs.Ytoklbeogmcdgaaa.Rws Go.Proofs.Ytoklbeogmcdgaaa.Maps
set_option linter.unusedVariables false
set_option linter.unusedSimpArgs false

theorem PrSl.at {w : World} {n c : Nat} {q : Option Addr} {l : List (List Pt × List Pt)} (h : PrSl w (.slice q n c) l) (j : Nat) (hj : j < l.length) : ∃ b off a1 c1 a2 c2, q = some ⟨b, off, none⟩ ∧ w.cell? ⟨b, off + j * 2, none⟩ = some (.slice a1 l[j].1.length c1) ∧ w.cell? ⟨b, off + j * 2 + 1, none⟩ = some (.slice a2 l[j].2.length c2) ∧
    PtSl w (.slice a1 l[j].1.length c1) l[j].1 ∧ PtSl w (.slice a2 l[j].2.length c2) l[j].2 := by
  obtain ⟨a, cap, e, h1, h2, h3⟩ := h
  obtain ⟨b, off, u1, u2, e1, hl, c0, c1, hp, hq⟩ := h3 j hj
  simp only [Value.slice.injEq] at e
  obtain ⟨rfl, -, -⟩ := e
  obtain ⟨a1, c1', rfl, -, -⟩ := hp.form
  obtain ⟨a2, c2', rfl, -, -⟩ := hq.form
  exact ⟨b, off, a1, c1', a2, c2', e1, c0, c1, hp, hq⟩
def prG (p : List Pt × List Pt) : Bool := decide (60 < p.1.length) || decide (60 < p.2.length)
def grP (l : List (List Pt × List Pt)) : Bool := l.any prG || decide (20 < l.length)
def Gr9Rel (l : List (List Pt × List Pt)) (w : World) (vi : Value) (wr : World) : Prop := ∃ i : Nat, i ≤ l.length ∧ vi = .int .i64 i ∧ (∀ j (h : j < l.length), j < i → prG l[j] = false) ∧ Below w.heap.size w wr
set_option maxRecDepth 100000 in
set_option maxHeartbeats 4000000 in
theorem great9 (l : List (List Pt × List Pt)) (v : Value) (w : World) (h : PrSl w v l) : Calls Try.prog 47 #[v] w (Says (grP l) w) := by
  obtain ⟨a, c, rfl, hc, hm⟩ := h.form
  unfold maxLen at hm
  have H := Lib.hid h
  have hst : Gr9Rel l w (.int .i64 ((0 : Nat) : Int)) w := ⟨0, by omega, rfl, fun j _ hj => by omega, Below.refl _ _⟩
  have HST := Lib.hid hst
  clear h hst
  go_enter Try.func47, Try.ntmps47
  go_wp2
  go_loopw [7] (fun vi wr => Gr9Rel l w vi wr) (fun vi _ => l.length - (intOf vi).toNat)
  case atStart => exact HST.out
  case round =>
    clear HST
    obtain ⟨i, hi, rfl, hno, hb⟩ := hrel
    have HNO := Lib.hid hno
    have HB := Lib.hid hb
    clear hno hb
    by_cases hil : i < l.length
    · have b1 : decide ((i : Int) < (l.length : Int)) = true := by simp; omega
      obtain ⟨b, off, a1, c1, a2, c2, rfl, x0, x1, hp, hq⟩ := (H.out.below HB.out).at i hil
      have hbb := below_new wr (.cells #[.slice a1 l[i].1.length c1, .slice a2 l[i].2.length c2] 78 (0, 0))
      have hrw := heap_alloc_new wr (.cells #[.slice a1 l[i].1.length c1, .slice a2 l[i].2.length c2] 78 (0, 0))
      have y0 : _ = some (Value.slice a1 l[i].1.length c1) := cell_of_row _ _ 0 _ _ _ hrw
      have y1 : _ = some (Value.slice a2 l[i].2.length c2) := cell_of_row _ _ 1 _ _ _ hrw
      have HP := Lib.hid (hp.below hbb)
      have HQ := Lib.hid (hq.below hbb)
      have HB1 := Lib.hid (HB.out.trans (hbb.mono HB.out.size))
      have hgp : prG l[i] = (decide (60 < l[i].1.length) || decide (60 < l[i].2.length)) := rfl
      have HGP := Lib.hid hgp
      clear hp hq hbb hrw hgp
      go_wp2_with fail
      refine (ref_great _ _ _ HP.out).mono ?_
      rintro e2 w2 ⟨rfl, rfl⟩
      have hyes : prG l[i] = true → grP l = true := fun e => by
        unfold grP
        rw [Bool.or_eq_true, List.any_eq_true]
        exact .inl ⟨l[i], List.getElem_mem hil, e⟩
      have HYES := Lib.hid hyes
      clear hyes x0 x1
      by_cases hg : 60 < l[i].1.length
      · have d1 : decide (60 < (l[i].1.length : Int)) = true := by simp; omega
        have hgr : grP l = true := HYES.out (by rw [HGP.out, Bool.or_eq_true]; exact .inl (by simpa using hg))
        have HG := Lib.hid hgr
        clear hgr
        go_wp2
        go_ret
        exact ⟨by rw [HG.out]; rfl, HB1.out⟩
      have d1 : decide (60 < (l[i].1.length : Int)) = false := by simp; omega
      go_wp2_with fail
      refine (ref_great _ _ _ HQ.out).mono ?_
      rintro e2 w2 ⟨rfl, rfl⟩
      by_cases hg2 : 60 < l[i].2.length
      · have d2 : decide (60 < (l[i].2.length : Int)) = true := by simp; omega
        have hgr : grP l = true := HYES.out (by rw [HGP.out, Bool.or_eq_true]; exact .inr (by simpa using hg2))
        have HG := Lib.hid hgr
        clear hgr
        go_wp2
        go_ret
        exact ⟨by rw [HG.out]; rfl, HB1.out⟩
      have d2 : decide (60 < (l[i].2.length : Int)) = false := by simp; omega
      have hno' : ∀ j (h : j < l.length), j < i + 1 → prG l[j] = false := fun j h hj => by
        by_cases e : j = i
        · subst e; rw [HGP.out]; simp; omega
        · exact HNO.out j h (by omega)
      have HNO' := Lib.hid hno'
      clear hno'
      go_wp2
      go_roundw
      case measure => simp [intOf]; omega
      case rel => exact ⟨i + 1, by omega, rfl, HNO'.out, HB1.out⟩
    · have b1 : decide ((i : Int) < (l.length : Int)) = false := by simp; omega
      have hgr : grP l = decide (20 < (l.length : Int)) := by
        have e : l.any prG = false := by
          rw [List.any_eq_false]
          intro o ho
          obtain ⟨j, hj, rfl⟩ := List.mem_iff_getElem.1 ho
          rw [HNO.out j hj (by omega)]
          simp
        unfold grP
        rw [e, Bool.false_or]
        exact decide_eq_decide.2 (by omega)
      have HG := Lib.hid hgr
      clear hgr
      go_wp2
      go_ret
      exact ⟨by rw [HG.out]; rfl, HB.out⟩
end Go.Proofs.Ytoklbeogmcdgaaa.Tms
