
/-
  Layer 8's arguments: []Op, [][2]uint8.
  prolixlaw08.great: are steps more than are looked at?
-/
import Derived.Test.YtoklbeogmcdgaaaPt
import Derived.ProofKit
import Derived.OpenShut
import Derived.ShutString
import Derived.ChangeOld
import Derived.ChangeMaps5
import Derived.Deep.Slices
import Derived.Deep.Fields
import Derived.ChangeSame
import Derived.Test.YtoklbeogmcdgaaaAl8
namespace Go.Proofs.Ytoklbeogmcdgaaa.Tms
open Go Go.ChangeMaps Go.ChangeShapes Go.WideShapes Go.ChangeAt Go.RowKit Go.Deep
set_option linter.unusedVariables false
set_option linter.unusedSimpArgs false

/-- a step of layer 8's laws -/
structure OpR where
  k : Int
  a : Int
  b : Int
  l : List Pt
def OpSl (w : World) (v : Value) (l : List OpR) : Prop :=
  ∃ a cap, v = .slice a l.length cap ∧ l.length ≤ cap ∧ cap ≤ maxLen ∧ ∀ j (h : j < l.length), ∃ b off u, a = some ⟨b, off, none⟩ ∧ b < w.heap.size ∧ w.cell? ⟨b, off + j * 4, none⟩ = some (.int .i64 l[j].k) ∧ w.cell? ⟨b, off + j * 4 + 1, none⟩ = some (.int .i64 l[j].a) ∧
    w.cell? ⟨b, off + j * 4 + 2, none⟩ = some (.int .i64 l[j].b) ∧ w.cell? ⟨b, off + j * 4 + 3, none⟩ = some u ∧ PtSl w u l[j].l
theorem OpSl.form {w : World} {v : Value} {l : List OpR} (h : OpSl w v l) : ∃ a cap, v = .slice a l.length cap ∧ l.length ≤ cap ∧ cap ≤ maxLen := let ⟨a, c, e, h1, h2, _⟩ := h; ⟨a, c, e, h1, h2⟩
theorem OpSl.below {w w' : World} {v : Value} {l : List OpR} (h : OpSl w v l) (hb : Below w.heap.size w w') : OpSl w' v l := by
  obtain ⟨a, cap, e, h1, h2, h3⟩ := h
  refine ⟨a, cap, e, h1, h2, fun j hj => ?_⟩
  obtain ⟨b, off, u, e1, hl, c0, c1, c2, c3, hp⟩ := h3 j hj
  have hc := fun o => World.cell?_of_block (w := w) (w' := w') (a := ⟨b, o, none⟩) (hb.block b hl)
  exact ⟨b, off, u, e1, Nat.lt_of_lt_of_le hl hb.size, (hc _).trans c0, (hc _).trans c1, (hc _).trans c2, (hc _).trans c3, hp.below hb⟩
/-- a slice of pairs of bytes -/
def BpSl (w : World) (v : Value) (l : List (Int × Int)) : Prop :=
  ∃ a cap, v = .slice a l.length cap ∧ l.length ≤ cap ∧ cap ≤ maxLen ∧ ∀ j (h : j < l.length), ∃ b off, a = some ⟨b, off, none⟩ ∧ b < w.heap.size ∧ w.cell? ⟨b, off + j * 2, none⟩ = some (.int .u8 l[j].1) ∧ w.cell? ⟨b, off + j * 2 + 1, none⟩ = some (.int .u8 l[j].2) ∧
    (0 ≤ l[j].1 ∧ l[j].1 < 256) ∧ 0 ≤ l[j].2 ∧ l[j].2 < 256
theorem BpSl.form {w : World} {v : Value} {l : List (Int × Int)} (h : BpSl w v l) : ∃ a cap, v = .slice a l.length cap ∧ l.length ≤ cap ∧ cap ≤ maxLen := let ⟨a, c, e, h1, h2, _⟩ := h; ⟨a, c, e, h1, h2⟩
theorem BpSl.below {w w' : World} {v : Value} {l : List (Int × Int)} (h : BpSl w v l) (hb : Below w.heap.size w w') : BpSl w' v l := by
  obtain ⟨a, cap, e, h1, h2, h3⟩ := h
  refine ⟨a, cap, e, h1, h2, fun j hj => ?_⟩
  obtain ⟨b, off, e1, hl, c0, c1, hp⟩ := h3 j hj
  have hc := fun o => World.cell?_of_block (w := w) (w' := w') (a := ⟨b, o, none⟩) (hb.block b hl)
  exact ⟨b, off, e1, Nat.lt_of_lt_of_le hl hb.size, (hc _).trans c0, (hc _).trans c1, hp⟩
section
variable {H : Type} {enc : TypeId × Value → H} {w : World} {base : Nat} {spare : Nat → Bool} {held : Bool}
set_option maxRecDepth 100000 in
theorem op_of {fuel : Nat} {cs : List Value} {x : DataW H × List MemPlace} (h : DataW.trod enc Try.prog w base spare held fuel 49 cs = some x) : ∃ (o : OpR) (u : Value), cs = [.int .i64 o.k, .int .i64 o.a, .int .i64 o.b, u] ∧ PtSl w u o.l := by
  obtain ⟨hl, hf⟩ := field_of Try.underlying49 (by kernel_rfl) (by kernel_rfl) h
  obtain ⟨v0, n0, y0, e0, t0⟩ := hf 0 _ rfl
  obtain ⟨v1, n1, y1, e1, t1⟩ := hf 1 _ rfl
  obtain ⟨v2, n2, y2, e2, t2⟩ := hf 2 _ rfl
  obtain ⟨v3, n3, y3, e3, t3⟩ := hf 3 _ rfl
  obtain ⟨i0, a0, _, _⟩ := DataW.trod_int Try.underlying3 t0
  obtain ⟨i1, a1, _, _⟩ := DataW.trod_int Try.underlying3 t1
  obtain ⟨i2, a2, _, _⟩ := DataW.trod_int Try.underlying3 t2
  simp only [List.cons.injEq, and_true] at a0 a1 a2
  subst a0 a1 a2
  obtain ⟨L, hL, _⟩ := ptSl_of t3
  exact ⟨⟨i0, i1, i2, L⟩, v3, list4 hl e0 e1 e2 e3, hL⟩
set_option maxRecDepth 100000 in
theorem opSl_of {fuel : Nat} {v : Value} {x : DataW H × List MemPlace} (h : DataW.trod enc Try.prog w base spare held fuel 44 [v] = some x) : ∃ l, OpSl w v l := by
  rcases open_slice Try.underlying44 h with ⟨hcs, _⟩ | ⟨a, len, cap, m, n, D, Pl, hcs, _, hl, hm, hmm, _, hi⟩
  · simp only [List.cons.injEq, and_true] at hcs
    subst hcs
    exact ⟨[], none, 0, rfl, by simp, by decide, fun j hj => absurd hj (by simp)⟩
  · simp only [List.cons.injEq, and_true] at hcs
    subst hcs
    have hlm : len ≤ m := by rw [hmm]; split <;> omega
    have hC : Try.prog.cellsOf 49 = 4 := by kernel_rfl
    have each : ∀ i, i < len → ∃ (o : OpR) (u : Value), (∀ q, q < 4 → w.cell? (a.add (i * 4 + q)) = [Value.int .i64 o.k, .int .i64 o.a, .int .i64 o.b, u][q]?) ∧ PtSl w u o.l := by
      intro i hilt
      obtain ⟨cs, hc, ht⟩ := hi i (by omega)
      obtain ⟨o, u, rfl, hL⟩ := op_of ht
      obtain ⟨_, _, hat⟩ := World.cells?_some hc
      rw [hC] at hat
      exact ⟨o, u, fun q hq => by rw [← Go.Deep.add_add]; exact hat q hq, hL⟩
    let f : Nat → OpR := fun i => if h : i < len then Classical.choose (each i h) else ⟨0, 0, 0, []⟩
    have hf : ∀ i, i < len → ∃ u : Value, (∀ q, q < 4 → w.cell? (a.add (i * 4 + q)) = [Value.int .i64 (f i).k, .int .i64 (f i).a, .int .i64 (f i).b, u][q]?) ∧ PtSl w u (f i).l := fun i hilt => by
      have := Classical.choose_spec (each i hilt)
      simp only [f, dif_pos hilt]
      exact this
    refine ⟨(List.range len).map f, some a, cap, by simp, by simpa using hl, hm, fun j hj => ?_⟩
    have hjl : j < len := by simpa using hj
    obtain ⟨b, off, spot⟩ := a
    obtain ⟨u, hq, hp⟩ := hf j hjl
    obtain ⟨u0, hq0, -⟩ := hf 0 (by omega)
    have h00 : w.cell? ((⟨b, off, spot⟩ : Addr).add 0) = some (.int .i64 (f 0).k) := hq0 0 (by omega)
    have hsp : spot = none := by simpa [Addr.add] using World.cell?_spot h00
    subst hsp
    have hg : ((List.range len).map f)[j] = f j := by simp
    rw [hg]
    have key : ∀ q, q < 4 → w.cell? ⟨b, off + j * 4 + q, none⟩ = [Value.int .i64 (f j).k, .int .i64 (f j).a, .int .i64 (f j).b, u][q]? := fun q hq' => by
      have := hq q hq'
      rw [Addr.add_lit, ← Nat.add_assoc] at this
      exact this
    exact ⟨b, off, u, rfl, World.block_lt_of_cell? _ _ ((key 0 (by omega)).trans rfl), key 0 (by omega), key 1 (by omega), key 2 (by omega), key 3 (by omega), hp⟩
set_option maxRecDepth 100000 in
/-- an argument of the type []Op -/
theorem ops_of {r : Reach} {b0 : Nat} {v : Value} {d : DataW H} {p : List MemPlace} (hv : Value.okWide Try.prog w r b0 44 v) (h : DataW.Trod enc Try.prog w base spare held 44 v d p) : ∃ l, OpSl w v l := by
  obtain ⟨a, len, cap, rfl⟩ := okWide_slice Try.underlying44 hv
  obtain ⟨fuel, hf⟩ := h
  exact opSl_of hf
set_option maxRecDepth 100000 in
theorem bp_of {fuel : Nat} {cs : List Value} {x : DataW H × List MemPlace} (h : DataW.trod enc Try.prog w base spare held fuel 53 cs = some x) : ∃ a b : Int, cs = [.int .u8 a, .int .u8 b] ∧ (0 ≤ a ∧ a < 256) ∧ 0 ≤ b ∧ b < 256 := by
  obtain ⟨ys, m, _, _, hcl, hl, hf⟩ := DataW.trod_array Try.underlying53 h
  have hC : Try.prog.cellsOf 53 = 2 := by kernel_rfl
  have hE : Try.prog.cellsOf 5 = 1 := by kernel_rfl
  rw [hC] at hcl
  match cs, hcl with
  | [v0, v1], _ =>
    have h0 := hf 0 (by omega)
    have h1 := hf 1 (by omega)
    rw [hE] at h0 h1
    rw [List.getElem?_eq_getElem (by omega)] at h0 h1
    obtain ⟨i0, a0, _, w0⟩ := DataW.trod_int Try.underlying5 h0
    obtain ⟨i1, a1, _, w1⟩ := DataW.trod_int Try.underlying5 h1
    simp at a0 a1
    subst a0 a1
    exact ⟨i0, i1, rfl, wf_u8 w0, wf_u8 w1⟩
set_option maxRecDepth 100000 in
theorem bpSl_of {fuel : Nat} {v : Value} {x : DataW H × List MemPlace} (h : DataW.trod enc Try.prog w base spare held fuel 45 [v] = some x) : ∃ l, BpSl w v l := by
  rcases open_slice Try.underlying45 h with ⟨hcs, _⟩ | ⟨a, len, cap, m, n, D, Pl, hcs, _, hl, hm, hmm, _, hi⟩
  · simp only [List.cons.injEq, and_true] at hcs
    subst hcs
    exact ⟨[], none, 0, rfl, by simp, by decide, fun j hj => absurd hj (by simp)⟩
  · simp only [List.cons.injEq, and_true] at hcs
    subst hcs
    have hlm : len ≤ m := by rw [hmm]; split <;> omega
    have hC : Try.prog.cellsOf 53 = 2 := by kernel_rfl
    have each : ∀ i, i < len → ∃ o : Int × Int, (∀ q, q < 2 → w.cell? (a.add (i * 2 + q)) = [Value.int .u8 o.1, .int .u8 o.2][q]?) ∧ (0 ≤ o.1 ∧ o.1 < 256) ∧ 0 ≤ o.2 ∧ o.2 < 256 := by
      intro i hilt
      obtain ⟨cs, hc, ht⟩ := hi i (by omega)
      obtain ⟨x, y, rfl, hL⟩ := bp_of ht
      obtain ⟨_, _, hat⟩ := World.cells?_some hc
      rw [hC] at hat
      exact ⟨(x, y), fun q hq => by rw [← Go.Deep.add_add]; exact hat q hq, hL⟩
    let f : Nat → Int × Int := fun i => if h : i < len then Classical.choose (each i h) else (0, 0)
    have hf : ∀ i, i < len → (∀ q, q < 2 → w.cell? (a.add (i * 2 + q)) = [Value.int .u8 (f i).1, .int .u8 (f i).2][q]?) ∧ (0 ≤ (f i).1 ∧ (f i).1 < 256) ∧ 0 ≤ (f i).2 ∧ (f i).2 < 256 := fun i hilt => by
      have := Classical.choose_spec (each i hilt)
      simp only [f, dif_pos hilt]
      exact this
    refine ⟨(List.range len).map f, some a, cap, by simp, by simpa using hl, hm, fun j hj => ?_⟩
    have hjl : j < len := by simpa using hj
    obtain ⟨b, off, spot⟩ := a
    obtain ⟨hq, hp⟩ := hf j hjl
    have h00 : w.cell? ((⟨b, off, spot⟩ : Addr).add 0) = some (.int .u8 (f 0).1) := (hf 0 (by omega)).1 0 (by omega)
    have hsp : spot = none := by simpa [Addr.add] using World.cell?_spot h00
    subst hsp
    have hg : ((List.range len).map f)[j] = f j := by simp
    rw [hg]
    have key : ∀ q, q < 2 → w.cell? ⟨b, off + j * 2 + q, none⟩ = [Value.int .u8 (f j).1, .int .u8 (f j).2][q]? := fun q hq' => by
      have := hq q hq'
      rw [Addr.add_lit, ← Nat.add_assoc] at this
      exact this
    exact ⟨b, off, rfl, World.block_lt_of_cell? _ _ ((key 0 (by omega)).trans rfl), key 0 (by omega), key 1 (by omega), hp⟩
set_option maxRecDepth 100000 in
/-- an argument of the type [][2]uint8 -/
theorem bps_of {r : Reach} {b0 : Nat} {v : Value} {d : DataW H} {p : List MemPlace} (hv : Value.okWide Try.prog w r b0 45 v) (h : DataW.Trod enc Try.prog w base spare held 45 v d p) : ∃ l, BpSl w v l := by
  obtain ⟨a, len, cap, rfl⟩ := okWide_slice Try.underlying45 hv
  obtain ⟨fuel, hf⟩ := h
  exact bpSl_of hf
end
end Go.Proofs.Ytoklbeogmcdgaaa.Tms
namespace Go.Proofs.Ytoklbeogmcdgaaa.Tms
open Go Go.RowKit Go.Proofs.Ytoklbeogmcdgaaa.Reg Go.Proofs.Ytoklbeogmcdgaaa.Rws Go.Proofs.Ytoklbeogmcdgaaa.Maps
set_option linter.unusedVariables false
set_option linter.unusedSimpArgs false

theorem OpSl.at {w : World} {n c : Nat} {q : Option Addr} {l : List OpR} (h : OpSl w (.slice q n c) l) (j : Nat) (hj : j < l.length) : ∃ b off a c', q = some ⟨b, off, none⟩ ∧ w.cell? ⟨b, off + j * 4, none⟩ = some (.int .i64 l[j].k) ∧ w.cell? ⟨b, off + j * 4 + 1, none⟩ = some (.int .i64 l[j].a) ∧
    w.cell? ⟨b, off + j * 4 + 2, none⟩ = some (.int .i64 l[j].b) ∧ w.cell? ⟨b, off + j * 4 + 3, none⟩ = some (.slice a l[j].l.length c') ∧ PtSl w (.slice a l[j].l.length c') l[j].l := by
  obtain ⟨a, cap, e, h1, h2, h3⟩ := h
  obtain ⟨b, off, u, e1, hl, c0, c1, c2, c3, hp⟩ := h3 j hj
  simp only [Value.slice.injEq] at e
  obtain ⟨rfl, -, -⟩ := e
  obtain ⟨a', c', rfl, -, -⟩ := hp.form
  exact ⟨b, off, a', c', e1, c0, c1, c2, c3, hp⟩
def grO (l : List OpR) : Bool := (l.any fun o => decide (60 < o.l.length)) || decide (60 < l.length)
def GrRel (l : List OpR) (w : World) (vi : Value) (wr : World) : Prop := ∃ i : Nat, i ≤ l.length ∧ vi = .int .i64 i ∧ (∀ j (h : j < l.length), j < i → ¬ 60 < l[j].l.length) ∧ Below w.heap.size w wr
set_option maxRecDepth 100000 in
set_option maxHeartbeats 4000000 in
theorem great8 (l : List OpR) (v : Value) (w : World) (h : OpSl w v l) : Calls Try.prog 26 #[v] w (Says (grO l) w) := by
  obtain ⟨a, c, rfl, hc, hm⟩ := h.form
  unfold maxLen at hm
  have H := Lib.hid h
  have hst : GrRel l w (.int .i64 ((0 : Nat) : Int)) w := ⟨0, by omega, rfl, fun j _ hj => by omega, Below.refl _ _⟩
  have HST := Lib.hid hst
  clear h hst
  go_enter Try.func26, Try.ntmps26
  go_wp2
  go_loopw [7] (fun vi wr => GrRel l w vi wr) (fun vi _ => l.length - (intOf vi).toNat)
  case atStart => exact HST.out
  case round =>
    clear HST
    obtain ⟨i, hi, rfl, hno, hb⟩ := hrel
    have HNO := Lib.hid hno
    have HB := Lib.hid hb
    clear hno hb
    by_cases hil : i < l.length
    · have b1 : decide ((i : Int) < (l.length : Int)) = true := by simp; omega
      obtain ⟨b, off, a', c', rfl, x0, x1, x2, x3, hp⟩ := (H.out.below HB.out).at i hil
      have hb1 := below_new wr (.cells #[.int .i64 l[i].k, .int .i64 l[i].a, .int .i64 l[i].b, .slice a' l[i].l.length c'] 49 (0, 0))
      obtain ⟨y0, y1, y2, y3⟩ := row4 (heap_alloc_new wr (.cells #[.int .i64 l[i].k, .int .i64 l[i].a, .int .i64 l[i].b, .slice a' l[i].l.length c'] 49 (0, 0)))
      have HP := Lib.hid (hp.below hb1)
      have HB1 := Lib.hid (HB.out.trans (hb1.mono HB.out.size))
      clear hp hb1
      go_wp2_with fail
      refine (ref_great _ _ _ HP.out).mono ?_
      rintro e2 w2 ⟨rfl, rfl⟩
      clear x0 x1 x2 x3 y0 y1 y2 y3
      by_cases hg : 60 < l[i].l.length
      · have d1 : decide (60 < (l[i].l.length : Int)) = true := by simp; omega
        have hgr : grO l = true := by
          unfold grO
          rw [Bool.or_eq_true, List.any_eq_true]
          exact .inl ⟨l[i], List.getElem_mem hil, by simpa using hg⟩
        have HG := Lib.hid hgr
        clear hgr
        go_wp2
        go_ret
        exact ⟨by rw [HG.out]; rfl, HB1.out⟩
      · have d1 : decide (60 < (l[i].l.length : Int)) = false := by simp; omega
        have hno' : ∀ j (h : j < l.length), j < i + 1 → ¬ 60 < l[j].l.length := fun j h hj => by
          by_cases e : j = i
          · subst e; exact hg
          · exact HNO.out j h (by omega)
        have HNO' := Lib.hid hno'
        clear hno'
        go_wp2
        go_roundw
        case measure => simp [intOf]; omega
        case rel => exact ⟨i + 1, by omega, rfl, HNO'.out, HB1.out⟩
    · have b1 : decide ((i : Int) < (l.length : Int)) = false := by simp; omega
      have hgr : grO l = decide (60 < (l.length : Int)) := by
        have e : (l.any fun o => decide (60 < o.l.length)) = false := by
          rw [List.any_eq_false]
          intro o ho
          obtain ⟨j, hj, rfl⟩ := List.mem_iff_getElem.1 ho
          have := HNO.out j hj (by omega)
          simpa using this
        unfold grO
        rw [e, Bool.false_or]
        exact decide_eq_decide.2 (by omega)
      have HG := Lib.hid hgr
      clear hgr
      go_wp2
      go_ret
      exact ⟨by rw [HG.out]; rfl, HB.out⟩
end Go.Proofs.Ytoklbeogmcdgaaa.Tms
