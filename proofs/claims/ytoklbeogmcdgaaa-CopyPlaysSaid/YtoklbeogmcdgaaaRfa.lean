
/-
  The reference's store (prolixref08.Store) in memory, read as the same plain store, its tops left out: New, There, Follow.
  The reference's store in memory: what turns in it. Printed by gen_rfb.py.
  The reference's Fresh.
  The reference's Bind.
  The reference's Undo.
  The reference's Bind that binds.
-/
import Derived.Test.YtoklbeogmcdgaaaSlb
namespace Go.Proofs.Ytoklbeogmcdgaaa.Tms
open Go Go.RowKit Go.Proofs.Ytoklbeogmcdgaaa.Reg Go.Proofs.Ytoklbeogmcdgaaa.Rws Go.Proofs.Ytoklbeogmcdgaaa.Maps
set_option linter.unusedVariables false
set_option linter.unusedSimpArgs false

/-- a cell of the reference's store in five cells; its top is not told -/
def rcKind : Rws.Kind SCell where
  T := 122
  sz := 5
  R := fun w P cs c => ∃ av, cs = [.int .i64 c.k, .int .i64 c.n, .string c.s, av, .int .i64 c.lk] ∧ IntSl w P av c.args
  pos := by decide
  len := by rintro w P cs a ⟨av, rfl, -⟩; rfl
  one := by
    rintro w P cs a ⟨av, rfl, hav⟩ v hv
    obtain ⟨q, c, rfl⟩ := hav.form
    simp only [List.mem_cons, List.not_mem_nil, or_false] at hv
    rcases hv with rfl | rfl | rfl | rfl | rfl <;> rfl
  mono := by
    rintro w w' P P' cs a hP hw ⟨av, rfl, hav⟩
    exact ⟨av, rfl, hav.move (fun b hb _ => hP b hb) hw⟩
  lt := by
    rintro w P cs a ⟨av, rfl, hav⟩
    exact ⟨av, rfl, hav.low⟩
theorem info_rcell : (Try.prog.info? 122).map (fun i => (i.zero, i.size, i.bytes)) = some (some (.agg #[.int .i64 0, .int .i64 0, .string ⟨#[]⟩, .slice none 0 0, .int .i64 0]), 5, 64) := by kernel_rfl
abbrev rfO (room : Int) (cv bv : Value) : Obj := .cells #[.int .i64 room, cv, bv] 67 (0, 0)
/-- the reference's store lies here -/
structure RefRow (w : World) (D : Nat → Prop) (p : Nat) (S : Sto) (cv bv : Value) (A : Nat → Prop) : Prop where
  row : w.heap[p]? = some (rfO S.room cv bv)
  own : Own rcKind w 0 A cv S.cells
  bonds : Own iKind w 0 (fun _ => False) bv (S.bonds.map (·.1))
  ne : ∀ k, cv.ownBlock = some k → bv.ownBlock ≠ some k
  pc : cv.ownBlock ≠ some p
  pb : bv.ownBlock ≠ some p
  ap : ¬ A p
  ab : ∀ k, bv.ownBlock = some k → ¬ A k
  dp : D p
  dc : ∀ k, cv.ownBlock = some k → D k
  db : ∀ k, bv.ownBlock = some k → D k
  da : ∀ b, A b → D b
  dl : ∀ b, D b → b < w.heap.size
def RefAt (w : World) (D : Nat → Prop) (p : Nat) (S : Sto) : Prop := ∃ cv bv A, RefRow w D p S cv bv A
theorem RefRow.keep {w w' : World} {D : Nat → Prop} {p : Nat} {S : Sto} {cv bv : Value} {A : Nat → Prop} (h : RefRow w D p S cv bv A) (hs : w.heap.size ≤ w'.heap.size) (hk : ∀ b, b < w.heap.size → D b → w'.heap[b]? = w.heap[b]?) : RefRow w' D p S cv bv A :=
  ⟨(hk p (Array.getElem?_eq_some_iff.1 h.row).1 h.dp).trans h.row, h.own.keep hs fun b hlt hq => hk b hlt (by rcases hq with hq | hq; exact h.da b hq; exact h.dc b hq), h.bonds.keep hs fun b hlt hq => hk b hlt (by rcases hq with hq | hq; exact hq.elim; exact h.db b hq),
    h.ne, h.pc, h.pb, h.ap, h.ab, h.dp, h.dc, h.db, h.da, fun b hb => Nat.lt_of_lt_of_le (h.dl b hb) hs⟩
theorem RefAt.keep {w w' : World} {D : Nat → Prop} {p : Nat} {S : Sto} (h : RefAt w D p S) (hs : w.heap.size ≤ w'.heap.size) (hk : ∀ b, b < w.heap.size → D b → w'.heap[b]? = w.heap[b]?) : RefAt w' D p S := by
  obtain ⟨cv, bv, A, h⟩ := h
  exact ⟨cv, bv, A, h.keep hs hk⟩
theorem RefAt.below {w w' : World} {D : Nat → Prop} {p : Nat} {S : Sto} (h : RefAt w D p S) (hb : Below w.heap.size w w') : RefAt w' D p S := h.keep hb.size fun b hlt _ => hb.block b hlt
theorem RefRow.below {w w' : World} {D : Nat → Prop} {p : Nat} {S : Sto} {cv bv : Value} {A : Nat → Prop} (h : RefRow w D p S cv bv A) (hb : Below w.heap.size w w') : RefRow w' D p S cv bv A := h.keep hb.size fun b hlt _ => hb.block b hlt
/-- a cell that is there, read -/
theorem RefRow.cell {w : World} {D : Nat → Prop} {p : Nat} {S : Sto} {cv bv : Value} {A : Nat → Prop} (h : RefRow w D p S cv bv A) (x : Nat) (hx : x < S.cells.length) :
    ∃ g cap av, cv = .slice (some ⟨g, 0, none⟩) S.cells.length cap ∧ S.cells.length ≤ cap ∧ cap ≤ maxLen ∧ w.cell? ⟨g, x * 5, none⟩ = some (.int .i64 S.cells[x].k) ∧ w.cell? ⟨g, x * 5 + 1, none⟩ = some (.int .i64 S.cells[x].n) ∧ w.cell? ⟨g, x * 5 + 2, none⟩ = some (.string S.cells[x].s) ∧
      w.cell? ⟨g, x * 5 + 3, none⟩ = some av ∧ w.cell? ⟨g, x * 5 + 4, none⟩ = some (.int .i64 S.cells[x].lk) ∧ IntSl w (fun b => A b ∧ g ≠ b ∧ b < w.heap.size) av S.cells[x].args := by
  obtain ⟨g, cap, rfl⟩ : ∃ g cap, cv = .slice (some ⟨g, 0, none⟩) S.cells.length cap := by
    rcases h.own.form with ⟨-, e⟩ | ⟨g, c, rfl⟩
    · rw [e] at hx; simp at hx
    · exact ⟨g, c, rfl⟩
  obtain ⟨cs, ⟨av, rfl, hav⟩, hc⟩ := h.own.elem rfl x hx
  obtain ⟨h1, h2⟩ := h.own.caps
  refine ⟨g, cap, av, rfl, h1, h2, hc 0 (by decide), hc 1 (by decide), hc 2 (by decide), hc 3 (by decide), hc 4 (by decide), ?_⟩
  exact hav.move (fun b hb _ => ⟨hb.1, fun e => hb.2.1 (by rw [e]), hb.2.2⟩) fun _ _ _ => rfl
set_option maxHeartbeats 1600000 in
theorem ref_there {S : Sto} {D : Nat → Prop} {p : Nat} (w : World) (hS : RefAt w D p S) (x : Int) :
    Calls Try.prog 39 #[.pointer (some ⟨p, 0, none⟩), .int .i64 x] w fun e w' => e = .returned (.bool (decide (0 ≤ x) && decide (x < S.cells.length))) ∧ w = w' := by
  obtain ⟨cv, bv, A, h⟩ := hS
  obtain ⟨q, c, rfl⟩ := own_form h.own
  obtain ⟨x0, x1, x2⟩ := row3 h.row
  clear h
  by_cases hx : 0 ≤ x
  · have b1 : decide (0 ≤ x) = true := by simpa using hx
    go_enter Try.func39, Try.ntmps39
    go_wp2
    go_ret
    exact ⟨by simp [b1], rfl⟩
  · have b1 : decide (0 ≤ x) = false := by simpa using hx
    go_enter Try.func39, Try.ntmps39
    go_wp2
    go_ret
    exact ⟨by simp [b1], rfl⟩
set_option maxHeartbeats 1600000 in
theorem ref_New (n : Int) (w : World) (h1 : 1 ≤ n) (h2 : n ≤ 16777216) :
    Calls Try.prog 30 #[.int .i64 n] w fun e w' => e = .returned (.tuple #[.pointer (some ⟨w.heap.size, 0, none⟩), .int .i64 0]) ∧ RefAt w' (fun b => b = w.heap.size) w.heap.size ⟨n, [], []⟩ ∧ Below w.heap.size w w' := by
  have d1 : decide (n < 1) = false := by simp; omega
  have d2 : decide (16777216 < n) = false := by simp; omega
  have hg := heap_alloc_new w (rfO n (.slice none 0 0) (.slice none 0 0))
  have hb : Below w.heap.size w (w.alloc (rfO n (.slice none 0 0) (.slice none 0 0))) := (Below.refl _ _).alloc (Nat.le_refl _) _
  have HG := Lib.hid hg
  have HB := Lib.hid hb
  clear hg hb
  go_enter Try.func30, Try.ntmps30
  go_wp2
  go_ret2
  exact ⟨rfl, ⟨_, _, fun _ => False, HG.out, Own.nil _ _ _, Own.nil _ _ _, fun k e => (by cases e), by simp [Value.ownBlock], by simp [Value.ownBlock], fun e => e, fun k e => (by cases e), rfl, fun k e => (by cases e), fun k e => (by cases e), fun b e => e.elim, fun b e => by subst e; simp⟩, HB.out⟩
set_option maxHeartbeats 1600000 in
theorem ref_Follow {S : Sto} {D : Nat → Prop} {p : Nat} (w : World) (hS : RefAt w D p S) (hk : ∀ (x : Nat) (c : SCell), S.cells[x]? = some c → 0 ≤ c.lk → c.k = 1) (f x r : Nat) (hc : Ch S f x r) :
    Calls Try.prog 40 #[.pointer (some ⟨p, 0, none⟩), .int .i64 x] w fun e w' => e = .returned (.int .i64 r) ∧ w = w' := by
  obtain ⟨cv, bv, A, h⟩ := hS
  have HR := Lib.hid h
  have HC := Lib.hid hc
  have HK := Lib.hid hk
  clear h hc hk
  go_enter Try.func40, Try.ntmps40
  go_wp2
  go_loopg [1] f (fun k v wr => FolRel S r w k v wr)
  case atStart => exact ⟨x, rfl, HC.out, rfl⟩
  case round =>
    obtain ⟨y, rfl, hcy, rfl⟩ := hrel
    obtain ⟨g, cap, av, rfl, h1, h2, c0, c1, c2, c3, c4, -⟩ := HR.out.cell y hcy.lt
    have hy0 : (0 : Int) ≤ (y : Int) := by omega
    have hy1 : (y : Int) < (S.cells.length : Int) := by have := hcy.lt; omega
    obtain ⟨x0, x1, x2⟩ := row3 HR.out.row
    cases gk with
    | zero =>
      obtain ⟨hlt, hto, rfl⟩ := hcy
      obtain ⟨T, hT⟩ : ∃ T, T = S.cells[r].lk := ⟨_, rfl⟩
      obtain ⟨K, hK⟩ : ∃ K, K = S.cells[r].k := ⟨_, rfl⟩
      rw [← hT] at c4 hto
      rw [← hK] at c0
      have b1 : decide (0 ≤ T) = false := by simp; omega
      clear hT hK c1 c2 c3
      by_cases k1 : K = 1
      · have e1 : (K == 1) = true := by simpa using k1
        clear k1
        go_wp2
        go_ret
        exact ⟨rfl, rfl⟩
      · have e1 : (K == 1) = false := by simpa using k1
        clear k1
        go_wp2
        go_ret
        exact ⟨rfl, rfl⟩
    | succ k =>
      obtain ⟨hlt, z, hz, hcz⟩ := hcy
      have hk1 := HK.out y _ (List.getElem?_eq_getElem hlt) (by rw [hz]; omega)
      rw [hz] at c4
      rw [hk1] at c0
      have HZ := Lib.hid hcz
      have b1 : decide (0 ≤ (z : Int)) = true := by simp
      clear hz hcz hk1 c1 c2 c3
      go_wp2
      go_roundg k
      case measure => omega
      case rel => exact ⟨z, rfl, HZ.out, rfl⟩
end Go.Proofs.Ytoklbeogmcdgaaa.Tms
namespace Go.Proofs.Ytoklbeogmcdgaaa.Tms
open Go Go.RowKit Go.Proofs.Ytoklbeogmcdgaaa.Reg Go.Proofs.Ytoklbeogmcdgaaa.Rws Go.Proofs.Ytoklbeogmcdgaaa.Maps
set_option linter.unusedVariables false
set_option linter.unusedSimpArgs false

def RefDid (w w' : World) (D : Nat → Prop) (p : Nat) (S' : Sto) : Prop := ∃ D', RefAt w' D' p S' ∧ Keeps w w' D ∧ ∀ b, D' b → D b ∨ (w.heap.size ≤ b ∧ b < w'.heap.size)
theorem RefRow.setTo {w : World} {D : Nat → Prop} {p : Nat} {S : Sto} {bv : Value} {A : Nat → Prop} {g cap : Nat} (h : RefRow w D p S (.slice (some ⟨g, 0, none⟩) S.cells.length cap) bv A) (v : Nat) (hv : v < S.cells.length) (x : Int) (B : List (Int × Int)) (hB : B = S.bonds) :
    RefRow (w.setCell ⟨g, v * 5 + 4, none⟩ (.int .i64 x)) D p ⟨S.room, Tms.setTo S v x, B⟩ (.slice (some ⟨g, 0, none⟩) S.cells.length cap) bv A := by
  subst hB
  have hp : p ≠ g := fun e => h.pc (by rw [e]; rfl)
  have hb : ∀ k, bv.ownBlock = some k → k ≠ g := fun k hk e => h.ne g rfl (by rw [← e]; exact hk)
  have hs := h.own.stored rfl v hv 4 (by decide) (.int .i64 x) { S.cells[v] with lk := x } (by rintro cs ⟨av, rfl, hav⟩; exact ⟨av, rfl, hav⟩)
  refine ⟨(Below.heap_setCell _ _ _ _ hp).trans h.row, ?_, h.bonds.keep (by simp [World.setCell]) fun b hlt hq => ?_, h.ne, h.pc, h.pb, h.ap, h.ab, h.dp, h.dc, h.db, h.da, fun b hb => by have := h.dl b hb; simpa [World.setCell] using this⟩
  · rw [setTo_at hv]; exact hs
  · rcases hq with hq | hq
    · exact hq.elim
    · exact Below.heap_setCell _ _ _ _ (hb b hq)
theorem RefRow.putBond {w u w3 : World} {D : Nat → Prop} {p : Nat} {S : Sto} {cv bv v3 : Value} {A : Nat → Prop} {b : Int × Int} (h : RefRow w D p S cv bv A) (hb : Below w.heap.size w u) (hg : u.grownBy w3 bv.ownBlock)
    (hown : Own iKind w3 0 (fun _ => False) v3 (S.bonds.map (·.1) ++ [b.1])) (hv : ∀ k, v3.ownBlock = some k → bv.ownBlock = some k ∨ u.heap.size ≤ k) :
    (w3.cell? ⟨p, 2, none⟩ = some bv ∧ w3.frozen? ⟨p, 2, none⟩ = false) ∧ RefRow (w3.setCell ⟨p, 2, none⟩ v3) (Grew D w w3) p ⟨S.room, S.cells, S.bonds ++ [b]⟩ cv v3 A ∧ Keeps w (w3.setCell ⟨p, 2, none⟩ v3) D := by
  have hz1 := hb.size
  have hz2 := hg.size
  have hpl := h.dl p h.dp
  have keep : ∀ k, k < w.heap.size → bv.ownBlock ≠ some k → w3.heap[k]? = w.heap[k]? := fun k hk hn => (hg.block k (by omega) fun e => hn e.symm).trans (hb.block k hk)
  have hrow := (keep p hpl h.pb).trans h.row
  have hlow := fun k e => (hown.low k e).2
  have hsz : (w3.setCell ⟨p, 2, none⟩ v3).heap.size = w3.heap.size := by simp [World.setCell]
  have keep2 : ∀ k, k < w.heap.size → bv.ownBlock ≠ some k → k ≠ p → (w3.setCell ⟨p, 2, none⟩ v3).heap[k]? = w.heap[k]? := fun k hk hn hp => (Below.heap_setCell _ _ _ _ hp).trans (keep k hk hn)
  have hv3 : v3.ownBlock ≠ some p := fun e => by
    rcases hv p e with e | e
    · exact h.pb e
    · omega
  refine ⟨⟨cell_of_row w3 p 2 _ _ _ hrow, frozen_of_row w3 p 2 _ _ hrow⟩, ⟨?_, ?_, ?_, ?_, h.pc, hv3, h.ap, ?_, .inl h.dp, fun k e => .inl (h.dc k e), ?_, fun k e => .inl (h.da k e), ?_⟩, ?_, ?_, ?_, by omega, ?_⟩
  · have := heap_setCell_same w3 p 2 _ _ v3 hrow
    simpa using this
  · refine h.own.keep (by omega) fun k hk hq => ?_
    rcases hq with hq | hq
    · exact keep2 k hk (fun e => h.ab k e hq) fun e => h.ap (e ▸ hq)
    · exact keep2 k hk (h.ne k hq) fun e => h.pc (e ▸ hq)
  · show Own iKind _ 0 (fun _ => False) v3 ((S.bonds ++ [b]).map (·.1))
    rw [List.map_append]
    refine hown.keep (by omega) fun k hk hq => ?_
    rcases hq with hq | hq
    · exact hq.elim
    · exact Below.heap_setCell _ _ _ _ fun e => hv3 (by have e : k = p := e; subst e; exact hq)
  · intro k hk e
    have := h.dl k (h.dc k hk)
    rcases hv k e with e | e
    · exact h.ne k hk e
    · omega
  · intro k e ha
    have := h.dl k (h.da k ha)
    rcases hv k e with e | e
    · exact h.ab k e ha
    · omega
  · intro k e
    have := hlow k e
    rcases hv k e with e | e
    · exact .inl (h.db k e)
    · exact .inr ⟨by omega, by omega⟩
  · intro k hk
    rcases hk with hk | hk
    · have := h.dl k hk; omega
    · omega
  · exact hg.os.trans hb.os
  · exact hg.tape.trans hb.tape
  · exact hg.output.trans hb.output
  · intro k hk hn
    exact keep2 k hk (fun e => hn (h.db k e)) fun e => hn (e ▸ h.dp)
theorem RefRow.putCell {w u w3 : World} {D : Nat → Prop} {p : Nat} {S : Sto} {cv bv v3 : Value} {A : Nat → Prop} {c : SCell} (h : RefRow w D p S cv bv A) (hb : Below w.heap.size w u) (hg : u.grownBy w3 cv.ownBlock)
    (hown : Own rcKind w3 0 A v3 (S.cells ++ [c])) (hv : ∀ k, v3.ownBlock = some k → cv.ownBlock = some k ∨ u.heap.size ≤ k) :
    (w3.cell? ⟨p, 1, none⟩ = some cv ∧ w3.frozen? ⟨p, 1, none⟩ = false) ∧ RefRow (w3.setCell ⟨p, 1, none⟩ v3) (Grew D w w3) p ⟨S.room, S.cells ++ [c], S.bonds⟩ v3 bv A ∧ Keeps w (w3.setCell ⟨p, 1, none⟩ v3) D := by
  have hz1 := hb.size
  have hz2 := hg.size
  have hpl := h.dl p h.dp
  have keep : ∀ k, k < w.heap.size → cv.ownBlock ≠ some k → w3.heap[k]? = w.heap[k]? := fun k hk hn => (hg.block k (by omega) fun e => hn e.symm).trans (hb.block k hk)
  have hrow := (keep p hpl h.pc).trans h.row
  have hlow := fun k e => (hown.low k e).2
  have hsz : (w3.setCell ⟨p, 1, none⟩ v3).heap.size = w3.heap.size := by simp [World.setCell]
  have keep2 : ∀ k, k < w.heap.size → cv.ownBlock ≠ some k → k ≠ p → (w3.setCell ⟨p, 1, none⟩ v3).heap[k]? = w.heap[k]? := fun k hk hn hp => (Below.heap_setCell _ _ _ _ hp).trans (keep k hk hn)
  have hv3 : v3.ownBlock ≠ some p := fun e => by
    rcases hv p e with e | e
    · exact h.pc e
    · omega
  refine ⟨⟨cell_of_row w3 p 1 _ _ _ hrow, frozen_of_row w3 p 1 _ _ hrow⟩, ⟨?_, ?_, ?_, ?_, hv3, h.pb, h.ap, h.ab, .inl h.dp, ?_, fun k e => .inl (h.db k e), fun k e => .inl (h.da k e), ?_⟩, ?_, ?_, ?_, by omega, ?_⟩
  · have := heap_setCell_same w3 p 1 _ _ v3 hrow
    simpa using this
  · refine hown.keep (by omega) fun k hk hq => ?_
    rcases hq with hq | hq
    · exact Below.heap_setCell _ _ _ _ fun e => h.ap (by have e : k = p := e; subst e; exact hq)
    · exact Below.heap_setCell _ _ _ _ fun e => hv3 (by have e : k = p := e; subst e; exact hq)
  · refine h.bonds.keep (by omega) fun k hk hq => ?_
    rcases hq with hq | hq
    · exact hq.elim
    · exact keep2 k hk (fun e => h.ne k e hq) fun e => h.pb (e ▸ hq)
  · intro k e hk
    have := h.dl k (h.db k hk)
    rcases hv k e with e | e
    · exact h.ne k e hk
    · omega
  · intro k e
    have := hlow k e
    rcases hv k e with e | e
    · exact .inl (h.dc k e)
    · exact .inr ⟨by omega, by omega⟩
  · intro k hk
    rcases hk with hk | hk
    · have := h.dl k hk; omega
    · omega
  · exact hg.os.trans hb.os
  · exact hg.tape.trans hb.tape
  · exact hg.output.trans hb.output
  · intro k hk hn
    exact keep2 k hk (fun e => hn (h.dc k e)) fun e => hn (e ▸ h.dp)
end Go.Proofs.Ytoklbeogmcdgaaa.Tms
namespace Go.Proofs.Ytoklbeogmcdgaaa.Tms
open Go Go.RowKit Go.Proofs.Ytoklbeogmcdgaaa.Reg Go.Proofs.Ytoklbeogmcdgaaa.Rws Go.Proofs.Ytoklbeogmcdgaaa.Maps
set_option linter.unusedVariables false
set_option linter.unusedSimpArgs false

theorem ref_put_fin {w wS w4 : World} {D : Nat → Prop} {p : Nat} {S S' : Sto} {cv bv : Value} {A : Nat → Prop} {w3 : World} (h1 : Below w.heap.size w wS) (hd : ∀ b, D b → b < w.heap.size) (h : RefRow w4 (Grew D wS w3) p S cv bv A ∧ Keeps wS w4 D) (hS : S = S') (h3 : w3.heap.size = w4.heap.size) : RefDid w w4 D p S' := by
  subst hS
  have hz := h1.size
  refine ⟨Grew D wS w3, ⟨cv, bv, A, h.1⟩, (Keeps.of h1).trans h.2 fun b hb => .inl hb, fun b hb => ?_⟩
  rcases hb with hb | hb
  · exact .inl hb
  · exact .inr ⟨by omega, by omega⟩
theorem RefRow.newTop {w : World} {D : Nat → Prop} {p : Nat} {S : Sto} {cv bv : Value} {A : Nat → Prop} (h : RefRow w D p S cv bv A) (l : List SCell) (hl : ∀ (P : Nat → Prop) (xss : List (List Value)), Each rcKind w P xss S.cells → Each rcKind w P xss l) (hlen : l.length = S.cells.length) : RefRow w D p ⟨S.room, l, S.bonds⟩ cv bv A :=
  ⟨h.row, by obtain ⟨xss, h1, h2⟩ := h.own; exact ⟨xss, by rw [hlen]; exact h1, hl _ _ h2⟩, h.bonds, h.ne, h.pc, h.pb, h.ap, h.ab, h.dp, h.dc, h.db, h.da, h.dl⟩
set_option maxRecDepth 100000 in
set_option maxHeartbeats 4000000 in
theorem ref_Fresh {S : Sto} {D : Nat → Prop} {p : Nat} (w : World) (hS : RefAt w D p S) (hlen : S.cells.length ≤ 20000000) (hroom : (S.cells.length : Int) < S.room) :
    Calls Try.prog 31 #[.pointer (some ⟨p, 0, none⟩)] w fun e w' => e = .returned (.tuple #[.int .i64 S.cells.length, .int .i64 0]) ∧ RefDid w w' D p (freshS S) := by
  have hb1 : decide (S.room ≤ (S.cells.length : Int)) = false := by simp; omega
  obtain ⟨cv, bv, A, hr⟩ := hS
  obtain ⟨q, cap, rfl⟩ := own_form hr.own
  have HR := Lib.hid hr
  have HDL := Lib.hid hr.dl
  clear hr hroom
  go_enter Try.func31, Try.ntmps31
  go_wp2
  refine wp_region_rest (by kernel_rfl) ?_
  have hdr : Below w.heap.size w w.drew := (Below.refl _ _).drew
  have HR0 := Lib.hid (HR.out.below hdr)
  have HB0 := Lib.hid hdr
  clear hdr
  generalize w.drew = W0 at *
  obtain ⟨x0, x1, x2⟩ := row3 HR0.out.row
  refine rest_chainP (fun u => u = W0) 0 10 (.soft 0 (.soft 1 (.soft 2 (.soft 3 (.soft 4 (.soft 5 (.soft 6 (.soft 7 (.soft 8 (.soft 9 .nil)))))))))) (.soft _ (.soft _ (.soft _ (.soft _ (.soft _ (.soft _ (.soft _ (.soft _ (.soft _ (.soft _ .nil)))))))))) ⟨rfl, ⟨rfl, ⟨rfl, ⟨rfl, ⟨rfl, ⟨rfl, ⟨rfl, ⟨rfl, ⟨rfl, ⟨rfl, trivial⟩⟩⟩⟩⟩⟩⟩⟩⟩⟩ (by kernel_rfl) (by kernel_rfl) (by kernel_rfl) (by kernel_rfl) (.inl rfl) rfl ?_
  refine chainP_soft (a1 := ?ma1) (by kernel_rfl) (by kernel_rfl) ?mh1 ?mr1
  case mh1 =>
    intro u hu E hE
    subst hu
    go_wp2
    rfl
  refine chainP_nck _ _ rfl rfl rfl ?_
  simp only [Act.put, List.getElem?_toArray, List.getElem?_cons_succ, List.getElem?_cons_zero, Option.bind_some, List.setIfInBounds_toArray, List.set_cons_succ, List.set_cons_zero, Nat.reduceAdd]
  refine chainP_soft (a1 := ?ma2) (by kernel_rfl) (by kernel_rfl) ?mh2 ?mr2
  case mh2 =>
    intro u hu E hE
    subst hu
    go_wp2
    rfl
  refine chainP_soft (a1 := ?ma3) (by kernel_rfl) (by kernel_rfl) ?mh3 ?mr3
  case mh3 =>
    intro u hu E hE
    subst hu
    go_wp2
    rfl
  refine chainP_soft (a1 := ?ma4) (by kernel_rfl) (by kernel_rfl) ?mh4 ?mr4
  case mh4 =>
    intro u hu E hE
    subst hu
    go_wp2
    rfl
  refine chainP_soft (a1 := ?ma5) (by kernel_rfl) (by kernel_rfl) ?mh5 ?mr5
  case mh5 =>
    intro u hu E hE
    subst hu
    go_wp2
    rfl
  refine chainP_nck _ _ rfl rfl rfl ?_
  simp only [Act.put, List.getElem?_toArray, List.getElem?_cons_succ, List.getElem?_cons_zero, Option.bind_some, List.setIfInBounds_toArray, List.set_cons_succ, List.set_cons_zero, Nat.reduceAdd]
  refine chainP_soft (a1 := ?ma6) (by kernel_rfl) (by kernel_rfl) ?mh6 ?mr6
  case mh6 =>
    intro u hu E hE
    subst hu
    go_wp2
    rfl
  refine chainP_soft (a1 := ?ma7) (by kernel_rfl) (by kernel_rfl) ?mh7 ?mr7
  case mh7 =>
    intro u hu E hE
    subst hu
    go_wp2
    rfl
  refine chainP_soft (a1 := ?ma8) (by kernel_rfl) (by kernel_rfl) ?mh8 ?mr8
  case mh8 =>
    intro u hu E hE
    subst hu
    go_wp2
    rfl
  refine chainP_nil ?_
  refine rest_end (by decide) ?_
  have hbN := below_new W0 (.cells #[.int .i64 1, .int .i64 0, .string ⟨#[]⟩, .slice none 0 0, .int .i64 (-1)] 122 (0, 0))
  have HNA := Lib.hid (heap_alloc_new W0 (.cells #[.int .i64 1, .int .i64 0, .string ⟨#[]⟩, .slice none 0 0, .int .i64 (-1)] 122 (0, 0)))
  have HBN := Lib.hid hbN
  have HR1 := Lib.hid (HR0.out.below hbN)
  clear hbN
  go_wp2_with (with_reducible show wpList _ _ _ (⟨some 21, _, _, _, _, _⟩ :: _) _ _
               refine wpList_put (K := rcKind) rfl (.tmp 18) (.tmp 20) _ rfl Try.underlying65 info_rcell rfl 0 A _ S.cells [.int .i64 1, .int .i64 0, .string ⟨#[]⟩, .slice none 0 0, .int .i64 (-1)] ⟨1, 0, ⟨#[]⟩, [], -1, lastTop S.cells⟩ _ _ _ _ rfl HR1.out.own rfl HNA.out ⟨_, rfl, IntSl.nil _ _⟩ (by unfold maxLen; omega) (by omega) (Nat.zero_le _) ?_
               intro v3 w3 hown3 hb3 hg3 hv3
               obtain ⟨g9, c9, rfl⟩ : ∃ g9 c9, v3 = .slice (some ⟨g9, 0, none⟩) (S.cells.length + 1) c9 := by
                 rcases hown3.form with h | ⟨g9, c9, e9⟩
                 · exfalso; have := congrArg List.length h.2; simp at this
                 · exact ⟨g9, c9, by rw [e9]; simp⟩
               obtain ⟨⟨c7, z7⟩, hfin⟩ := HR0.out.putCell HBN.out hg3 hown3 hv3
               have hrow9 := hfin.1.row
               have HFIN := Lib.hid hfin
               clear hfin hown3 hb3 hg3 hv3 x0 x1 x2)
  go_ret2
  exact ⟨rfl, ref_put_fin HB0.out HDL.out HFIN.out rfl (by simp [World.setCell])⟩
end Go.Proofs.Ytoklbeogmcdgaaa.Tms
namespace Go.Proofs.Ytoklbeogmcdgaaa.Tms
open Go Go.RowKit Go.Proofs.Ytoklbeogmcdgaaa.Reg Go.Proofs.Ytoklbeogmcdgaaa.Rws Go.Proofs.Ytoklbeogmcdgaaa.Maps
set_option linter.unusedVariables false
set_option linter.unusedSimpArgs false

def KindOk (S : Sto) : Prop := ∀ (x : Nat) (c : SCell), S.cells[x]? = some c → 0 ≤ c.lk → c.k = 1
theorem Inv.kindOk {S : Sto} (h : Inv S) : KindOk S := fun x c hc h0 => by
  rcases (h.cell x c hc).lk with e | e
  · omega
  · exact e.2.2
set_option maxRecDepth 100000 in
set_option maxHeartbeats 4000000 in
theorem ref_Bind_no {S : Sto} {D : Nat → Prop} {p : Nat} (w : World) (hS : RefAt w D p S) (x y : Int) (hx : ¬ (0 ≤ x ∧ x < S.cells.length) ∨ ¬ (0 ≤ y ∧ y < S.cells.length)) :
    Calls Try.prog 34 #[.pointer (some ⟨p, 0, none⟩), .int .i64 x, .int .i64 y] w fun e w' => e = .returned (.int .i64 2) ∧ w = w' := by
  have HS := Lib.hid hS
  by_cases h1 : 0 ≤ x ∧ x < S.cells.length
  · have h2 := hx.resolve_left fun h => h h1
    have b1 : (decide (0 ≤ x) && decide (x < (S.cells.length : Int))) = true := by simp; exact h1
    have b2 := dec_no h2
    have HB1 := Lib.hid b1
    have HB2 := Lib.hid b2
    clear b1 b2 hx h1 h2 hS
    go_enter Try.func34, Try.ntmps34
    go_wp2_with fail
    refine (ref_there w HS.out x).mono ?_
    rintro e1 w1 ⟨rfl, rfl⟩
    rw [HB1.out]
    go_wp2_with fail
    refine (ref_there w HS.out y).mono ?_
    rintro e1 w1 ⟨rfl, rfl⟩
    rw [HB2.out]
    go_wp2
    go_ret
    exact ⟨rfl, rfl⟩
  · have b1 := dec_no h1
    have HB1 := Lib.hid b1
    clear b1 hx h1 hS
    go_enter Try.func34, Try.ntmps34
    go_wp2_with fail
    refine (ref_there w HS.out x).mono ?_
    rintro e1 w1 ⟨rfl, rfl⟩
    rw [HB1.out]
    go_wp2
    go_ret
    exact ⟨rfl, rfl⟩
set_option maxRecDepth 100000 in
set_option maxHeartbeats 4000000 in
theorem ref_Bind_id {S : Sto} {D : Nat → Prop} {p : Nat} (w : World) (hS : RefAt w D p S) (hko : KindOk S) (f1 f2 x y v t : Nat) (h1 : Ch S f1 x v) (h2 : Ch S f2 y t) (hk : (S.cells[v]'(h1.end_.1)).k = 1 → v = t) :
    Calls Try.prog 34 #[.pointer (some ⟨p, 0, none⟩), .int .i64 x, .int .i64 y] w fun e w' => e = .returned (.int .i64 (if (S.cells[v]'(h1.end_.1)).k = 1 then 0 else 2)) ∧ w = w' := by
  have hb1 := dec_yes h1.lt
  have hb2 := dec_yes h2.lt
  have hv := h1.end_.1
  have HS := Lib.hid hS
  have HC1 := Lib.hid h1
  have HC2 := Lib.hid h2
  have HB1 := Lib.hid hb1
  have HB2 := Lib.hid hb2
  have HKO := Lib.hid hko
  obtain ⟨cv, bv, A, hr⟩ := hS
  obtain ⟨g, cap, av, rfl, q1, q2, c0, -⟩ := hr.cell v hv
  obtain ⟨x0, x1, x2⟩ := row3 hr.row
  have hv0 : (0 : Int) ≤ (v : Int) := by omega
  have hv1 : (v : Int) < (S.cells.length : Int) := by omega
  by_cases k1 : (S.cells[v]'hv).k = 1
  · have e := hk k1
    subst e
    rw [if_pos k1]
    rw [k1] at c0
    clear hb1 hb2 hk k1 h1 h2 hr hko
    go_enter Try.func34, Try.ntmps34
    go_wp2_with fail
    refine (ref_there w HS.out x).mono ?_
    rintro e1 w1 ⟨rfl, rfl⟩
    rw [HB1.out]
    go_wp2_with fail
    refine (ref_there w HS.out y).mono ?_
    rintro e1 w1 ⟨rfl, rfl⟩
    rw [HB2.out]
    go_wp2_with fail
    refine (ref_Follow w HS.out HKO.out f1 x v HC1.out).mono ?_
    rintro e1 w1 ⟨rfl, rfl⟩
    go_wp2_with fail
    refine (ref_Follow w HS.out HKO.out f2 y v HC2.out).mono ?_
    rintro e1 w1 ⟨rfl, rfl⟩
    go_wp2
    go_ret
    exact ⟨rfl, rfl⟩
  · rw [if_neg k1]
    obtain ⟨K, hK⟩ : ∃ K, K = (S.cells[v]'hv).k := ⟨_, rfl⟩
    rw [← hK] at c0 k1
    have e1 : (K == 1) = false := by simpa using k1
    have e2 : (K != 1) = true := by simpa using k1
    clear hb1 hb2 hk k1 h1 h2 hr hko hK
    go_enter Try.func34, Try.ntmps34
    go_wp2_with fail
    refine (ref_there w HS.out x).mono ?_
    rintro e1 w1 ⟨rfl, rfl⟩
    rw [HB1.out]
    go_wp2_with fail
    refine (ref_there w HS.out y).mono ?_
    rintro e1 w1 ⟨rfl, rfl⟩
    rw [HB2.out]
    go_wp2_with fail
    refine (ref_Follow w HS.out HKO.out f1 x v HC1.out).mono ?_
    rintro e1 w1 ⟨rfl, rfl⟩
    go_wp2_with fail
    refine (ref_Follow w HS.out HKO.out f2 y t HC2.out).mono ?_
    rintro e1 w1 ⟨rfl, rfl⟩
    go_wp2
    go_ret
    exact ⟨rfl, rfl⟩
end Go.Proofs.Ytoklbeogmcdgaaa.Tms
namespace Go.Proofs.Ytoklbeogmcdgaaa.Tms
open Go Go.RowKit Go.Proofs.Ytoklbeogmcdgaaa.Reg Go.Proofs.Ytoklbeogmcdgaaa.Rws Go.Proofs.Ytoklbeogmcdgaaa.Maps
set_option linter.unusedVariables false
set_option linter.unusedSimpArgs false

theorem RefRow.bond {w : World} {D : Nat → Prop} {p : Nat} {S : Sto} {cv bv : Value} {A : Nat → Prop} (h : RefRow w D p S cv bv A) (x : Nat) (hx : x < S.bonds.length) :
    ∃ g cap, bv = .slice (some ⟨g, 0, none⟩) S.bonds.length cap ∧ S.bonds.length ≤ cap ∧ cap ≤ maxLen ∧ w.cell? ⟨g, x, none⟩ = some (.int .i64 S.bonds[x].1) := by
  have hl : (S.bonds.map (·.1)).length = S.bonds.length := List.length_map ..
  obtain ⟨g, cap, rfl⟩ : ∃ g cap, bv = .slice (some ⟨g, 0, none⟩) S.bonds.length cap := by
    rcases h.bonds.form with ⟨-, e⟩ | ⟨g, c, e⟩
    · rw [e] at hl; simp only [List.length_nil] at hl; omega
    · exact ⟨g, c, by rw [e, hl]⟩
  obtain ⟨cs, e, hc⟩ := h.bonds.elem hl x (by omega)
  obtain ⟨h1, h2⟩ := h.bonds.caps
  have e' : cs = [.int .i64 (S.bonds.map (·.1))[x]] := e
  subst e'
  have h0 := hc 0 (by decide)
  refine ⟨g, cap, rfl, h1, h2, ?_⟩
  have e2 : x * iKind.sz + 0 = x := Nat.mul_one x
  rw [e2] at h0
  rw [h0]
  simp
end Go.Proofs.Ytoklbeogmcdgaaa.Tms
namespace Go.Proofs.Ytoklbeogmcdgaaa.Tms
open Go Go.RowKit Go.Proofs.Ytoklbeogmcdgaaa.Reg Go.Proofs.Ytoklbeogmcdgaaa.Rws Go.Proofs.Ytoklbeogmcdgaaa.Maps
set_option linter.unusedVariables false
set_option linter.unusedSimpArgs false

set_option maxRecDepth 100000 in
set_option maxHeartbeats 4000000 in
theorem ref_Bind {S : Sto} {D : Nat → Prop} {p : Nat} (w : World) (hS : RefAt w D p S) (hok : StoOk S) (hko : KindOk S) (f1 f2 x y v t : Nat) (h1 : Ch S f1 x v) (h2 : Ch S f2 y t) (hk : (S.cells[v]'(h1.end_.1)).k = 1) (hne : v ≠ t) :
    Calls Try.prog 34 #[.pointer (some ⟨p, 0, none⟩), .int .i64 x, .int .i64 y] w fun e w' => e = .returned (.int .i64 0) ∧ RefDid w w' D p (bindS S v t) := by
  have hb1 := dec_yes h1.lt
  have hb2 := dec_yes h2.lt
  have hv := h1.end_.1
  have ht := h2.end_.1
  have hsm := hok.small
  have hbs := hok.bsmall
  have HS := Lib.hid hS
  have HC1 := Lib.hid h1
  have HC2 := Lib.hid h2
  have HB1 := Lib.hid hb1
  have HB2 := Lib.hid hb2
  have HKO := Lib.hid hko
  obtain ⟨cv, bv, A, hr⟩ := hS
  obtain ⟨g, cap, av, rfl, q1, q2, c0, c1, c2, c3, c4, -⟩ := hr.cell v hv
  have hlm : (S.bonds.map (·.1)).length = S.bonds.length := List.length_map ..
  obtain ⟨qb, cb, eb⟩ := own_form hr.bonds
  rw [hlm] at eb
  subst eb
  rw [hk] at c0
  have hv0 : (0 : Int) ≤ (v : Int) := by omega
  have hv1 : (v : Int) < (S.cells.length : Int) := by omega
  have e3 : ((v : Int) == (t : Int)) = false := by simp; omega
  have e4 : ((v : Int) != (t : Int)) = true := by simp; omega
  have ft := hr.own.thaw rfl (v * 5 + 4)
  have hset := hr.setTo v hv t S.bonds rfl
  have hrow := hr.row
  obtain ⟨x0, x1, x2⟩ := row3 hrow
  have HST := Lib.hid hset
  have HR := Lib.hid hr
  have HLM := Lib.hid hlm
  clear hb1 hb2 h1 h2 hset hr hrow hk hok hne hko c1 c2 c3 hlm
  go_enter Try.func34, Try.ntmps34
  go_wp2_with fail
  refine (ref_there w HS.out x).mono ?_
  rintro e1 w1 ⟨rfl, rfl⟩
  rw [HB1.out]
  go_wp2_with fail
  refine (ref_there w HS.out y).mono ?_
  rintro e1 w1 ⟨rfl, rfl⟩
  rw [HB2.out]
  go_wp2_with fail
  refine (ref_Follow w HS.out HKO.out f1 x v HC1.out).mono ?_
  rintro e1 w1 ⟨rfl, rfl⟩
  go_wp2_with fail
  refine (ref_Follow w HS.out HKO.out f2 y t HC2.out).mono ?_
  rintro e1 w1 ⟨rfl, rfl⟩
  go_upto_region 8 with fail
  clear x0 x1 x2 c0 c4 ft
  have hks : Keeps w (w.setCell ⟨g, v * 5 + 4, none⟩ (.int .i64 (t : Int))) D := ⟨rfl, rfl, rfl, by simp [World.setCell], fun b _ hb => Below.heap_setCell _ _ _ _ (fun e => hb (by rw [e]; exact HR.out.dc g rfl))⟩
  have hszs : (w.setCell ⟨g, v * 5 + 4, none⟩ (.int .i64 (t : Int))).heap.size = w.heap.size := by simp [World.setCell]
  have HKS := Lib.hid hks
  have HSZ := Lib.hid hszs
  clear hks hszs
  generalize w.setCell ⟨g, v * 5 + 4, none⟩ (.int .i64 (t : Int)) = wS at *
  obtain ⟨x0, x1, x2⟩ := row3 HST.out.row
  have hbN := below_new wS (.cells #[.int .i64 (v : Int)] 3 (0, 0))
  have HRN := Lib.hid (heap_alloc_new wS (.cells #[.int .i64 (v : Int)] 3 (0, 0)))
  have HBL := Lib.hid hbN
  have HST1 := Lib.hid (HST.out.below hbN)
  clear hbN
  go_wp2_with (with_reducible show wpList _ _ _ (⟨some 50, _, _, _, _, _⟩ :: _) _ _
               have t1 : Own iKind (wS.alloc (.cells #[.int .i64 (v : Int)] 3 (0, 0))) 0 (fun _ => False) (.slice qb S.bonds.length cb) (S.bonds.map (·.1)) := HST1.out.bonds
               have t2 : (S.bonds.map (·.1)).length + 1 ≤ maxLen := by rw [HLM.out]; unfold maxLen; omega
               have t3 : ((S.bonds.map (·.1)).length + 1) * 8 ≤ 140737488355328 := by rw [HLM.out]; omega
               refine wpList_put (K := iKind) rfl (.tmp 47) (.tmp 49) _ rfl Try.underlying50 info_int rfl 0 (fun _ => False) (.slice qb S.bonds.length cb) (S.bonds.map (·.1)) [.int .i64 (v : Int)] (v : Int) _ _ _ _ rfl t1 rfl HRN.out rfl t2 t3 (Nat.zero_le _) ?_
               intro v3 w3 hown3 hb3 hg3 hv3
               obtain ⟨g9, c9, rfl⟩ : ∃ g9 c9, v3 = .slice (some ⟨g9, 0, none⟩) (S.bonds.length + 1) c9 := by
                 rcases hown3.form with h | ⟨g9, c9, e9⟩
                 · exfalso; have := congrArg List.length h.2; simp at this
                 · exact ⟨g9, c9, by rw [e9]; simp⟩
               obtain ⟨⟨c7, z7⟩, hfin⟩ := HST.out.putBond (b := ((v : Int), topB S.bonds (max v t))) HBL.out hg3 hown3 hv3
               have HFIN := Lib.hid hfin
               clear hfin hown3 hb3 hg3 hv3 x0 x1 x2)
  go_ret
  have h3 : w3.heap.size = (w3.setCell ⟨p, 2, none⟩ (.slice (some ⟨g9, 0, none⟩) (S.bonds.length + 1) c9)).heap.size := by simp [World.setCell]
  refine ⟨rfl, Grew D wS w3, ⟨_, _, _, HFIN.out.1⟩, HKS.out.trans HFIN.out.2 fun b hb => .inl hb, fun b hb => ?_⟩
  rcases hb with hb | hb
  · exact .inl hb
  · have := HSZ.out
    exact .inr ⟨by omega, by omega⟩
end Go.Proofs.Ytoklbeogmcdgaaa.Tms
