/-
  Layer texts, glued and made small.
-/
import Derived.Test.YtcbijikalfodnaaG07
import Derived.Deep.Cut
import Derived.Deep.CutRange
import Derived.Deep.DeepCutAuto
import Derived.Deep.DeepMust
import Derived.StillTailTactics
set_option linter.unusedVariables false
set_option linter.unusedSimpArgs false
set_option maxRecDepth 100000
set_option maxHeartbeats 4000000
namespace Go.Proofs.Ytcbijikalfodnaa.Tms
open Go Go.RowKit Go.Proofs.Ytcbijikalfodnaa.Reg Go.Proofs.Ytcbijikalfodnaa.Rws
structure SCell where
 k : Int
 n : Int
 s : ByteArray
 args : List Int
 lk : Int
 top : Int
structure Sto where
 room : Int
 cells : List SCell
 bonds : List (Int × Int)
theorem IntSl.move {w w' : World} {P P' : Nat → Prop} {v : Value} {L : List Int} (h : IntSl w P v L) (hP : ∀ b, P b → b < w.heap.size → P' b) (hw : ∀ b, P b → b < w.heap.size → w'.heap[b]? = w.heap[b]?) : IntSl w' P' v L := by
 obtain ⟨a, cap, e, h1, h2, h3⟩ := h; refine ⟨a, cap, e, h1, h2, fun i hi => ?_⟩; obtain ⟨b, off, e, hp, hl, hc⟩ := h3 i hi; have hc' := (World.cell?_of_block (a := ⟨b, off + i, none⟩) (hw b hp hl)).trans hc; exact ⟨b, off, e, hP b hp hl, World.block_lt_of_cell? _ _ hc', hc'⟩
theorem IntSl.low {w : World} {P : Nat → Prop} {v : Value} {L : List Int} (h : IntSl w P v L) : IntSl w (fun b => P b ∧ b < w.heap.size) v L := h.move (fun b hb hl => ⟨hb, hl⟩) fun _ _ _ => rfl
theorem IntSl.form {w : World} {P : Nat → Prop} {v : Value} {L : List Int} (h : IntSl w P v L) : ∃ a cap, v = .slice a L.length cap := let ⟨a, c, e, _⟩ := h; ⟨a, c, e⟩
def cellKind : Rws.Kind SCell where
 T := 78
 sz := 6
 R := fun w P cs c => ∃ av, cs = [.int .i64 c.k, .int .i64 c.n, .string c.s, av, .int .i64 c.lk, .int .i64 c.top] ∧ IntSl w P av c.args
 pos := by decide
 len := by rintro w P cs a ⟨av, rfl, -⟩; rfl
 one := by
  rintro w P cs a ⟨av, rfl, hav⟩ v hv; obtain ⟨q, c, rfl⟩ := hav.form; simp only [List.mem_cons, List.not_mem_nil, or_false] at hv; rcases hv with rfl | rfl | rfl | rfl | rfl | rfl <;> rfl
 mono := by
  rintro w w' P P' cs a hP hw ⟨av, rfl, hav⟩; exact ⟨av, rfl, hav.move (fun b hb _ => hP b hb) hw⟩
 lt := by
  rintro w P cs a ⟨av, rfl, hav⟩; exact ⟨av, rfl, hav.low⟩
theorem info_cell : (Try.prog.info? 78).map (fun i => (i.zero, i.size, i.bytes)) = some (some (.agg #[.int .i64 0, .int .i64 0, .string ⟨#[]⟩, .slice none 0 0, .int .i64 0, .int .i64 0]), 6, 72) := by kernel_rfl
def bondKind : Rws.Kind (Int × Int) where
 T := 131
 sz := 2
 R := fun w P cs c => cs = [.int .i64 c.1, .int .i64 c.2]
 pos := by decide
 len := by rintro w P cs a rfl; rfl
 one := by
  rintro w P cs a rfl v hv; simp only [List.mem_cons, List.not_mem_nil, or_false] at hv; rcases hv with rfl | rfl <;> rfl
 mono := by rintro w w' P P' cs a hP hw rfl; rfl
 lt := by rintro w P cs a rfl; rfl
theorem info_bond : (Try.prog.info? 131).map (fun i => (i.zero, i.size, i.bytes)) = some (some (.agg #[.int .i64 0, .int .i64 0]), 2, 16) := by kernel_rfl
abbrev stoO (room : Int) (cv bv : Value) : Obj := .cells #[.int .i64 room, cv, bv] 75 (0, 0)
structure StoRow (w : World) (D : Nat → Prop) (p : Nat) (S : Sto) (cv bv : Value) (A : Nat → Prop) : Prop where
 row : w.heap[p]? = some (stoO S.room cv bv)
 own : Own cellKind w 0 A cv S.cells
 bonds : Own bondKind w 0 (fun _ => False) bv S.bonds
 ne : ∀ k, cv.ownBlock = some k → bv.ownBlock ≠ some k
 pc : cv.ownBlock ≠ some p
 pb : bv.ownBlock ≠ some p
 ap : ¬ A p
 ab : ∀ k, bv.ownBlock = some k → ¬ A k
 dp : D p
 dc : ∀ k, cv.ownBlock = some k → D k
 db : ∀ k, bv.ownBlock = some k → D k
 da : ∀ b, A b → D b
 dl : ∀ b, D b → b < w.heap.size
def StoAt (w : World) (D : Nat → Prop) (p : Nat) (S : Sto) : Prop := ∃ cv bv A, StoRow w D p S cv bv A
theorem StoRow.keep {w w' : World} {D : Nat → Prop} {p : Nat} {S : Sto} {cv bv : Value} {A : Nat → Prop} (h : StoRow w D p S cv bv A) (hs : w.heap.size ≤ w'.heap.size) (hk : ∀ b, b < w.heap.size → D b → w'.heap[b]? = w.heap[b]?) : StoRow w' D p S cv bv A :=
 ⟨(hk p (Array.getElem?_eq_some_iff.1 h.row).1 h.dp).trans h.row, h.own.keep hs fun b hlt hq => hk b hlt (by rcases hq with hq | hq; exact h.da b hq; exact h.dc b hq), h.bonds.keep hs fun b hlt hq => hk b hlt (by rcases hq with hq | hq; exact hq.elim; exact h.db b hq),
   h.ne, h.pc, h.pb, h.ap, h.ab, h.dp, h.dc, h.db, h.da, fun b hb => Nat.lt_of_lt_of_le (h.dl b hb) hs⟩
theorem StoAt.keep {w w' : World} {D : Nat → Prop} {p : Nat} {S : Sto} (h : StoAt w D p S) (hs : w.heap.size ≤ w'.heap.size) (hk : ∀ b, b < w.heap.size → D b → w'.heap[b]? = w.heap[b]?) : StoAt w' D p S := by
 obtain ⟨cv, bv, A, h⟩ := h; exact ⟨cv, bv, A, h.keep hs hk⟩
theorem StoAt.below {w w' : World} {D : Nat → Prop} {p : Nat} {S : Sto} (h : StoAt w D p S) (hb : Below w.heap.size w w') : StoAt w' D p S := h.keep hb.size fun b hlt _ => hb.block b hlt
theorem StoRow.below {w w' : World} {D : Nat → Prop} {p : Nat} {S : Sto} {cv bv : Value} {A : Nat → Prop} (h : StoRow w D p S cv bv A) (hb : Below w.heap.size w w') : StoRow w' D p S cv bv A := h.keep hb.size fun b hlt _ => hb.block b hlt
theorem own_form {α : Type} {K : Rws.Kind α} {w : World} {base : Nat} {P : Nat → Prop} {v : Value} {l : List α} (h : Own K w base P v l) : ∃ q c, v = .slice q l.length c := by
 rcases h.form with ⟨rfl, e⟩ | ⟨g, c, rfl⟩
 ·exact ⟨none, 0, by rw [e]; rfl⟩
 ·exact ⟨_, c, rfl⟩
theorem StoRow.cell {w : World} {D : Nat → Prop} {p : Nat} {S : Sto} {cv bv : Value} {A : Nat → Prop} (h : StoRow w D p S cv bv A) (x : Nat) (hx : x < S.cells.length) :
 ∃ g cap av, cv = .slice (some ⟨g, 0, none⟩) S.cells.length cap ∧ S.cells.length ≤ cap ∧ cap ≤ maxLen ∧ w.cell? ⟨g, x * 6, none⟩ = some (.int .i64 S.cells[x].k) ∧ w.cell? ⟨g, x * 6 + 1, none⟩ = some (.int .i64 S.cells[x].n) ∧ w.cell? ⟨g, x * 6 + 2, none⟩ = some (.string S.cells[x].s) ∧
   w.cell? ⟨g, x * 6 + 3, none⟩ = some av ∧ w.cell? ⟨g, x * 6 + 4, none⟩ = some (.int .i64 S.cells[x].lk) ∧ w.cell? ⟨g, x * 6 + 5, none⟩ = some (.int .i64 S.cells[x].top) ∧ IntSl w (fun b => A b ∧ g ≠ b ∧ b < w.heap.size) av S.cells[x].args := by
 obtain ⟨g, cap, rfl⟩ : ∃ g cap, cv = .slice (some ⟨g, 0, none⟩) S.cells.length cap := by
  rcases h.own.form with ⟨-, e⟩ | ⟨g, c, rfl⟩
  ·rw [e] at hx; simp at hx
  ·exact ⟨g, c, rfl⟩
 obtain ⟨cs, ⟨av, rfl, hav⟩, hc⟩ := h.own.elem rfl x hx; obtain ⟨h1, h2⟩ := h.own.caps; exact ⟨g, cap, av, rfl, h1, h2, hc 0 (by decide), hc 1 (by decide), hc 2 (by decide), hc 3 (by decide), hc 4 (by decide), hc 5 (by decide), hav⟩
theorem StoRow.bond {w : World} {D : Nat → Prop} {p : Nat} {S : Sto} {cv bv : Value} {A : Nat → Prop} (h : StoRow w D p S cv bv A) (x : Nat) (hx : x < S.bonds.length) :
 ∃ g cap, bv = .slice (some ⟨g, 0, none⟩) S.bonds.length cap ∧ S.bonds.length ≤ cap ∧ cap ≤ maxLen ∧ w.cell? ⟨g, x * 2, none⟩ = some (.int .i64 S.bonds[x].1) ∧ w.cell? ⟨g, x * 2 + 1, none⟩ = some (.int .i64 S.bonds[x].2) := by
 obtain ⟨g, cap, rfl⟩ : ∃ g cap, bv = .slice (some ⟨g, 0, none⟩) S.bonds.length cap := by
  rcases h.bonds.form with ⟨-, e⟩ | ⟨g, c, rfl⟩
  ·rw [e] at hx; simp at hx
  ·exact ⟨g, c, rfl⟩
 obtain ⟨cs, rfl, hc⟩ := h.bonds.elem rfl x hx; obtain ⟨h1, h2⟩ := h.bonds.caps; exact ⟨g, cap, rfl, h1, h2, hc 0 (by decide), hc 1 (by decide)⟩
theorem row3 {w : World} {g : Nat} {y0 y1 y2 : Value} {T : TypeId} {fr : Nat × Nat} (h : w.heap[g]? = some (.cells #[y0, y1, y2] T fr)) :
 w.cell? ⟨g, 0, none⟩ = some y0 ∧ w.cell? ⟨g, 1, none⟩ = some y1 ∧ w.cell? ⟨g, 2, none⟩ = some y2 :=
 ⟨by simpa using cell_of_row w g 0 _ T fr h, by simpa using cell_of_row w g 1 _ T fr h, by simpa using cell_of_row w g 2 _ T fr h⟩
def Ch (S : Sto) : Nat → Nat → Nat → Prop
 | 0, x, r => ∃ h : x < S.cells.length, S.cells[x].lk < 0 ∧ r = x
 | f + 1, x, r => ∃ (h : x < S.cells.length) (y : Nat), S.cells[x].lk = y ∧ Ch S f y r
theorem Ch.lt {S : Sto} : ∀ {f x r : Nat}, Ch S f x r → x < S.cells.length
 | 0, _, _, h => h.1
 | _ + 1, _, _, h => h.1
theorem Ch.end_ {S : Sto} : ∀ {f x r : Nat}, Ch S f x r → ∃ h : r < S.cells.length, S.cells[r].lk < 0
 | 0, x, r, ⟨h, h1, e⟩ => by subst e; exact ⟨h, h1⟩
 | _ + 1, _, _, ⟨_, _, _, h⟩ => h.end_
theorem Ch.same {S : Sto} : ∀ {f f' x r r' : Nat}, Ch S f x r → Ch S f' x r' → r = r'
 | 0, 0, _, _, _, h, h' => h.2.2.trans h'.2.2.symm
 | 0, _ + 1, _, _, _, ⟨_, h, _⟩, ⟨_, y, e, _⟩ => by omega
 | _ + 1, 0, _, _, _, ⟨_, y, e, _⟩, ⟨_, h, _⟩ => by omega
 | _ + 1, _ + 1, _, _, _, ⟨_, y, e, h⟩, ⟨_, y', e', h'⟩ => by
   obtain rfl : y = y' := by omega
   exact h.same h'
structure StoOk (S : Sto) : Prop where
 small : S.cells.length ≤ 20000000
 bsmall : S.bonds.length ≤ 20000000
 ch : ∀ x, x < S.cells.length → ∃ f r, Ch S f x r
 bnd : ∀ b ∈ S.bonds, 0 ≤ b.1 ∧ b.1 < S.cells.length
theorem sto_there {S : Sto} {D : Nat → Prop} {p : Nat} (w : World) (hS : StoAt w D p S) (x : Int) :
 Calls Try.prog 44 #[.pointer (some ⟨p, 0, none⟩), .int .i64 x] w fun e w' => e = .returned (.bool (decide (0 ≤ x) && decide (x < S.cells.length))) ∧ w = w' := by
 obtain ⟨cv, bv, A, h⟩ := hS; obtain ⟨q, c, rfl⟩ := own_form h.own; obtain ⟨x0, x1, x2⟩ := row3 h.row; clear h
 by_cases hx : 0 ≤ x
 ·have b1 : decide (0 ≤ x) = true := by simpa using hx
  go_enter Try.func44, Try.ntmps44
  go_wp2; go_ret; exact ⟨by simp [b1], rfl⟩
 ·have b1 : decide (0 ≤ x) = false := by simpa using hx
  go_enter Try.func44, Try.ntmps44
  go_wp2; go_ret; exact ⟨by simp [b1], rfl⟩
def FolRel (S : Sto) (r : Nat) (w0 : World) (k : Nat) (v : Value) (wr : World) : Prop := ∃ x : Nat, v = .int .i64 x ∧ Ch S k x r ∧ w0 = wr
theorem sto_fol {S : Sto} {D : Nat → Prop} {p : Nat} (w : World) (hS : StoAt w D p S) (f x r : Nat) (hc : Ch S f x r) :
 Calls Try.prog 45 #[.pointer (some ⟨p, 0, none⟩), .int .i64 x] w fun e w' => e = .returned (.int .i64 r) ∧ w = w' := by
 obtain ⟨cv, bv, A, h⟩ := hS; have HR := Lib.hid h; have HC := Lib.hid hc; clear h hc
 go_enter Try.func45, Try.ntmps45
 go_wp2
 go_loopg [1] f (fun k v wr => FolRel S r w k v wr)
 case atStart => exact ⟨x, rfl, HC.out, rfl⟩
 case round =>
  obtain ⟨y, rfl, hcy, rfl⟩ := hrel; obtain ⟨g, cap, av, rfl, h1, h2, c0, c1, c2, c3, c4, c5, -⟩ := HR.out.cell y hcy.lt; have hy0 : (0 : Int) ≤ (y : Int) := by omega
  have hy1 : (y : Int) < (S.cells.length : Int) := by have := hcy.lt; omega
  obtain ⟨x0, x1, x2⟩ := row3 HR.out.row; cases gk with
  | zero =>
    obtain ⟨hlt, hto, rfl⟩ := hcy; obtain ⟨T, hT⟩ : ∃ T, T = S.cells[r].lk := ⟨_, rfl⟩; rw [← hT] at c4 hto; have b1 : decide (0 ≤ T) = false := by simp; omega
    clear hT c0 c1 c2 c3 c5; go_wp2; go_ret; exact ⟨rfl, rfl⟩
  | succ k =>
    obtain ⟨hlt, z, hz, hcz⟩ := hcy; rw [hz] at c4; have HZ := Lib.hid hcz; have b1 : decide (0 ≤ (z : Int)) = true := by simp
    clear hz hcz c0 c1 c2 c3 c5; go_wp2
    go_roundg k
    case measure => omega
    case rel => exact ⟨z, rfl, HZ.out, rfl⟩
theorem sto_Follow {S : Sto} {D : Nat → Prop} {p : Nat} (w : World) (hS : StoAt w D p S) (f x r : Nat) (hc : Ch S f x r) :
 Calls Try.prog 62 #[.pointer (some ⟨p, 0, none⟩), .int .i64 x] w fun e w' => e = .returned (.int .i64 r) ∧ w = w' := by
 have hb : (decide ((0 : Int) ≤ (x : Int)) && decide ((x : Int) < (S.cells.length : Int))) = true := by have := hc.lt; simp; omega
 have HS := Lib.hid hS; have HC := Lib.hid hc; have HB := Lib.hid hb; clear hS hc hb
 go_enter Try.func62, Try.ntmps62
 go_wp2_with fail
 refine (sto_there w HS.out x).mono ?_; rintro e1 w1 ⟨rfl, rfl⟩; rw [HB.out]
 go_wp2_with fail
 refine (sto_fol w HS.out f x r HC.out).mono ?_; rintro e2 w2 ⟨rfl, rfl⟩; go_wp2; go_ret; exact ⟨rfl, rfl⟩
theorem sto_Cells {S : Sto} {D : Nat → Prop} {p : Nat} (w : World) (hS : StoAt w D p S) :
 Calls Try.prog 33 #[.pointer (some ⟨p, 0, none⟩)] w fun e w' => e = .returned (.int .i64 S.cells.length) ∧ w = w' := by
 obtain ⟨cv, bv, A, h⟩ := hS; obtain ⟨q, c, rfl⟩ := own_form h.own; obtain ⟨x0, x1, x2⟩ := row3 h.row; clear h
 go_enter Try.func33, Try.ntmps33
 go_wp2; go_ret; exact ⟨rfl, rfl⟩
theorem sto_Mark {S : Sto} {D : Nat → Prop} {p : Nat} (w : World) (hS : StoAt w D p S) :
 Calls Try.prog 11 #[.pointer (some ⟨p, 0, none⟩)] w fun e w' => e = .returned (.int .i64 S.bonds.length) ∧ w = w' := by
 obtain ⟨cv, bv, A, h⟩ := hS; obtain ⟨q, c, rfl⟩ := own_form h.bonds; obtain ⟨x0, x1, x2⟩ := row3 h.row; clear h
 go_enter Try.func11, Try.ntmps11
 go_wp2; go_ret; exact ⟨rfl, rfl⟩
theorem sto_New (n : Int) (w : World) (h1 : 1 ≤ n) (h2 : n ≤ 16777216) :
 Calls Try.prog 8 #[.int .i64 n] w fun e w' => e = .returned (.tuple #[.pointer (some ⟨w.heap.size, 0, none⟩), .int .i64 0]) ∧ StoAt w' (fun b => b = w.heap.size) w.heap.size ⟨n, [], []⟩ ∧ Below w.heap.size w w' := by
 have d1 : decide (n < 1) = false := by simp; omega
 have d2 : decide (16777216 < n) = false := by simp; omega
 have hg := heap_alloc_new w (stoO n (.slice none 0 0) (.slice none 0 0)); have hb : Below w.heap.size w (w.alloc (stoO n (.slice none 0 0) (.slice none 0 0))) := (Below.refl _ _).alloc (Nat.le_refl _) _; have HG := Lib.hid hg; have HB := Lib.hid hb; clear hg hb
 go_enter Try.func8, Try.ntmps8
 go_wp2; go_ret2; exact ⟨rfl, ⟨_, _, fun _ => False, HG.out, Own.nil _ _ _, Own.nil _ _ _, fun k e => (by cases e), by simp [Value.ownBlock], by simp [Value.ownBlock], fun e => e, fun k e => (by cases e), rfl, fun k e => (by cases e), fun k e => (by cases e), fun b e => e.elim, fun b e => by subst e; simp⟩, HB.out⟩
def StoDid (w w' : World) (D : Nat → Prop) (p : Nat) (S' : Sto) : Prop := ∃ D', StoAt w' D' p S' ∧ Keeps w w' D ∧ ∀ b, D' b → D b ∨ (w.heap.size ≤ b ∧ b < w'.heap.size)
def topB (l : List (Int × Int)) (m : Int) : Int := match l.getLast? with
 | none => m
 | some b => max m b.2
def setTo (S : Sto) (v : Nat) (x : Int) : List SCell := match S.cells[v]? with
 | none => S.cells
 | some c => S.cells.set v { c with lk := x }
def bindS (S : Sto) (v t : Nat) : Sto := ⟨S.room, setTo S v t, S.bonds ++ [((v : Int), topB S.bonds (max v t))]⟩
theorem setTo_at {S : Sto} {v : Nat} {x : Int} (h : v < S.cells.length) : setTo S v x = S.cells.set v { S.cells[v] with lk := x } := by
 unfold setTo; rw [List.getElem?_eq_getElem h]
theorem topB_snoc (l : List (Int × Int)) (b : Int × Int) (m : Int) : topB (l ++ [b]) m = max m b.2 := by simp [topB]
theorem StoRow.setTo {w : World} {D : Nat → Prop} {p : Nat} {S : Sto} {bv : Value} {A : Nat → Prop} {g cap : Nat} (h : StoRow w D p S (.slice (some ⟨g, 0, none⟩) S.cells.length cap) bv A) (v : Nat) (hv : v < S.cells.length) (x : Int) (B : List (Int × Int)) (hB : B = S.bonds) :
 StoRow (w.setCell ⟨g, v * 6 + 4, none⟩ (.int .i64 x)) D p ⟨S.room, Tms.setTo S v x, B⟩ (.slice (some ⟨g, 0, none⟩) S.cells.length cap) bv A := by
 subst hB; have hp : p ≠ g := fun e => h.pc (by rw [e]; rfl)
 have hb : ∀ k, bv.ownBlock = some k → k ≠ g := fun k hk e => h.ne g rfl (by rw [← e]; exact hk)
 have hs := h.own.stored rfl v hv 4 (by decide) (.int .i64 x) { S.cells[v] with lk := x } (by rintro cs ⟨av, rfl, hav⟩; exact ⟨av, rfl, hav⟩); refine ⟨(Below.heap_setCell _ _ _ _ hp).trans h.row, ?_, h.bonds.keep (by simp [World.setCell]) fun b hlt hq => ?_, h.ne, h.pc, h.pb, h.ap, h.ab, h.dp, h.dc, h.db, h.da, fun b hb => by have := h.dl b hb; simpa [World.setCell] using this⟩
 ·rw [setTo_at hv]; exact hs
 ·rcases hq with hq | hq
  ·exact hq.elim
  ·exact Below.heap_setCell _ _ _ _ (hb b hq)
def Grew (D : Nat → Prop) (w w' : World) (b : Nat) : Prop := D b ∨ (w.heap.size ≤ b ∧ b < w'.heap.size)
theorem StoRow.putBond {w u w3 : World} {D : Nat → Prop} {p : Nat} {S : Sto} {cv bv v3 : Value} {A : Nat → Prop} {b : Int × Int} (h : StoRow w D p S cv bv A) (hb : Below w.heap.size w u) (hg : u.grownBy w3 bv.ownBlock)
 (hown : Own bondKind w3 0 (fun _ => False) v3 (S.bonds ++ [b])) (hv : ∀ k, v3.ownBlock = some k → bv.ownBlock = some k ∨ u.heap.size ≤ k) :
 (w3.cell? ⟨p, 2, none⟩ = some bv ∧ w3.frozen? ⟨p, 2, none⟩ = false) ∧ StoRow (w3.setCell ⟨p, 2, none⟩ v3) (Grew D w w3) p ⟨S.room, S.cells, S.bonds ++ [b]⟩ cv v3 A ∧ Keeps w (w3.setCell ⟨p, 2, none⟩ v3) D := by
 have hz1 := hb.size; have hz2 := hg.size; have hpl := h.dl p h.dp; have keep : ∀ k, k < w.heap.size → bv.ownBlock ≠ some k → w3.heap[k]? = w.heap[k]? := fun k hk hn => (hg.block k (by omega) fun e => hn e.symm).trans (hb.block k hk)
 have hrow := (keep p hpl h.pb).trans h.row; have hlow := fun k e => (hown.low k e).2
 have hsz : (w3.setCell ⟨p, 2, none⟩ v3).heap.size = w3.heap.size := by simp [World.setCell]
 have keep2 : ∀ k, k < w.heap.size → bv.ownBlock ≠ some k → k ≠ p → (w3.setCell ⟨p, 2, none⟩ v3).heap[k]? = w.heap[k]? := fun k hk hn hp => (Below.heap_setCell _ _ _ _ hp).trans (keep k hk hn)
 have hv3 : v3.ownBlock ≠ some p := fun e => by
  rcases hv p e with e | e
  ·exact h.pb e
  ·omega
 refine ⟨⟨cell_of_row w3 p 2 _ _ _ hrow, frozen_of_row w3 p 2 _ _ hrow⟩, ⟨?_, ?_, ?_, ?_, h.pc, hv3, h.ap, ?_, .inl h.dp, fun k e => .inl (h.dc k e), ?_, fun k e => .inl (h.da k e), ?_⟩, ?_, ?_, ?_, by omega, ?_⟩
 ·have := heap_setCell_same w3 p 2 _ _ v3 hrow
  simpa using this
 ·refine h.own.keep (by omega) fun k hk hq => ?_
  rcases hq with hq | hq
  ·exact keep2 k hk (fun e => h.ab k e hq) fun e => h.ap (e ▸ hq)
  ·exact keep2 k hk (h.ne k hq) fun e => h.pc (e ▸ hq)
 ·refine hown.keep (by omega) fun k hk hq => ?_
  rcases hq with hq | hq
  ·exact hq.elim
  ·exact Below.heap_setCell _ _ _ _ fun e => hv3 (by have e : k = p := e; subst e; exact hq)
 ·intro k hk e
  have := h.dl k (h.dc k hk); rcases hv k e with e | e
  ·exact h.ne k hk e
  ·omega
 ·intro k e ha
  have := h.dl k (h.da k ha); rcases hv k e with e | e
  ·exact h.ab k e ha
  ·omega
 ·intro k e
  have := hlow k e; rcases hv k e with e | e
  ·exact .inl (h.db k e)
  ·exact .inr ⟨by omega, by omega⟩
 ·intro k hk
  rcases hk with hk | hk
  ·have := h.dl k hk; omega
  ·omega
 ·exact hg.os.trans hb.os
 ·exact hg.tape.trans hb.tape
 ·exact hg.output.trans hb.output
 ·intro k hk hn
  exact keep2 k hk (fun e => hn (h.db k e)) fun e => hn (e ▸ h.dp)
theorem StoRow.putCell {w u w3 : World} {D : Nat → Prop} {p : Nat} {S : Sto} {cv bv v3 : Value} {A : Nat → Prop} {c : SCell} (h : StoRow w D p S cv bv A) (hb : Below w.heap.size w u) (hg : u.grownBy w3 cv.ownBlock)
 (hown : Own cellKind w3 0 A v3 (S.cells ++ [c])) (hv : ∀ k, v3.ownBlock = some k → cv.ownBlock = some k ∨ u.heap.size ≤ k) :
 (w3.cell? ⟨p, 1, none⟩ = some cv ∧ w3.frozen? ⟨p, 1, none⟩ = false) ∧ StoRow (w3.setCell ⟨p, 1, none⟩ v3) (Grew D w w3) p ⟨S.room, S.cells ++ [c], S.bonds⟩ v3 bv A ∧ Keeps w (w3.setCell ⟨p, 1, none⟩ v3) D := by
 have hz1 := hb.size; have hz2 := hg.size; have hpl := h.dl p h.dp; have keep : ∀ k, k < w.heap.size → cv.ownBlock ≠ some k → w3.heap[k]? = w.heap[k]? := fun k hk hn => (hg.block k (by omega) fun e => hn e.symm).trans (hb.block k hk)
 have hrow := (keep p hpl h.pc).trans h.row; have hlow := fun k e => (hown.low k e).2
 have hsz : (w3.setCell ⟨p, 1, none⟩ v3).heap.size = w3.heap.size := by simp [World.setCell]
 have keep2 : ∀ k, k < w.heap.size → cv.ownBlock ≠ some k → k ≠ p → (w3.setCell ⟨p, 1, none⟩ v3).heap[k]? = w.heap[k]? := fun k hk hn hp => (Below.heap_setCell _ _ _ _ hp).trans (keep k hk hn)
 have hv3 : v3.ownBlock ≠ some p := fun e => by
  rcases hv p e with e | e
  ·exact h.pc e
  ·omega
 refine ⟨⟨cell_of_row w3 p 1 _ _ _ hrow, frozen_of_row w3 p 1 _ _ hrow⟩, ⟨?_, ?_, ?_, ?_, hv3, h.pb, h.ap, h.ab, .inl h.dp, ?_, fun k e => .inl (h.db k e), fun k e => .inl (h.da k e), ?_⟩, ?_, ?_, ?_, by omega, ?_⟩
 ·have := heap_setCell_same w3 p 1 _ _ v3 hrow
  simpa using this
 ·refine hown.keep (by omega) fun k hk hq => ?_
  rcases hq with hq | hq
  ·exact Below.heap_setCell _ _ _ _ fun e => h.ap (by have e : k = p := e; subst e; exact hq)
  ·exact Below.heap_setCell _ _ _ _ fun e => hv3 (by have e : k = p := e; subst e; exact hq)
 ·refine h.bonds.keep (by omega) fun k hk hq => ?_
  rcases hq with hq | hq
  ·exact hq.elim
  ·exact keep2 k hk (fun e => h.ne k e hq) fun e => h.pb (e ▸ hq)
 ·intro k e hk
  have := h.dl k (h.db k hk); rcases hv k e with e | e
  ·exact h.ne k e hk
  ·omega
 ·intro k e
  have := hlow k e; rcases hv k e with e | e
  ·exact .inl (h.dc k e)
  ·exact .inr ⟨by omega, by omega⟩
 ·intro k hk
  rcases hk with hk | hk
  ·have := h.dl k hk; omega
  ·omega
 ·exact hg.os.trans hb.os
 ·exact hg.tape.trans hb.tape
 ·exact hg.output.trans hb.output
 ·intro k hk hn
  exact keep2 k hk (fun e => hn (h.dc k e)) fun e => hn (e ▸ h.dp)
theorem bind_fin {w wS w4 : World} {D : Nat → Prop} {p : Nat} {S S' : Sto} {cv bv : Value} {A : Nat → Prop} {w3 : World} (h1 : Keeps w wS D) (h2 : wS.heap.size = w.heap.size) (h : StoRow w4 (Grew D wS w3) p S cv bv A ∧ Keeps wS w4 D) (hS : S = S') (h3 : w3.heap.size = w4.heap.size) : StoDid w w4 D p S' := by
 subst hS; refine ⟨Grew D wS w3, ⟨cv, bv, A, h.1⟩, h1.trans h.2 fun b hb => .inl hb, fun b hb => ?_⟩; rcases hb with hb | hb
 ·exact .inl hb
 ·exact .inr ⟨by omega, by omega⟩
theorem sto_Bind {S : Sto} {D : Nat → Prop} {p : Nat} (w : World) (hS : StoAt w D p S) (hok : StoOk S) (f1 f2 x y v t : Nat) (h1 : Ch S f1 x v) (h2 : Ch S f2 y t) (hk : (S.cells[v]'(h1.end_.1)).k = 1) (hne : v ≠ t) :
 Calls Try.prog 63 #[.pointer (some ⟨p, 0, none⟩), .int .i64 x, .int .i64 y] w fun e w' => e = .returned (.int .i64 0) ∧ StoDid w w' D p (bindS S v t) := by
 have hb1 : (decide ((0 : Int) ≤ (x : Int)) && decide ((x : Int) < (S.cells.length : Int))) = true := by have := h1.lt; simp; omega
 have hb2 : (decide ((0 : Int) ≤ (y : Int)) && decide ((y : Int) < (S.cells.length : Int))) = true := by have := h2.lt; simp; omega
 have hS0 := hS; obtain ⟨cv, bv, A, hr⟩ := hS; have hv := h1.end_.1; have ht := h2.end_.1; obtain ⟨g, cap, av, rfl, q1, q2, c0, c1, c2, c3, c4, c5, -⟩ := hr.cell v hv; rw [hk] at c0; have ft := hr.own.thaw rfl (v * 6 + 4); obtain ⟨qb, cb, rfl⟩ := own_form hr.bonds; have hrow := hr.row; have hset := hr.setTo v hv t S.bonds rfl; have hbs := hok.bsmall; have hv0 : (0 : Int) ≤ (v : Int) := by omega
 have hv1 : (v : Int) < (S.cells.length : Int) := by omega
 have hvt : ((v : Int) == (t : Int)) = false := beq_false_of_ne fun e => hne (by omega)
 have HB1 := Lib.hid hb1; have HB2 := Lib.hid hb2; have HS := Lib.hid hS0; have HC1 := Lib.hid h1; have HC2 := Lib.hid h2; have HST := Lib.hid hset; have HR := Lib.hid hr; clear hb1 hb2 hS0 h1 h2 hset hr hk hok hne
 go_enter Try.func63, Try.ntmps63
 go_wp2_with fail
 refine (sto_there w HS.out x).mono ?_; rintro e1 w1 ⟨rfl, rfl⟩; rw [HB1.out]
 go_wp2_with fail
 refine (sto_there w HS.out y).mono ?_; rintro e1 w1 ⟨rfl, rfl⟩; rw [HB2.out]
 go_wp2_with fail
 refine (sto_fol w HS.out f1 x v HC1.out).mono ?_; rintro e1 w1 ⟨rfl, rfl⟩
 go_wp2_with fail
 refine (sto_fol w HS.out f2 y t HC2.out).mono ?_; rintro e1 w1 ⟨rfl, rfl⟩; obtain ⟨x0, x1, x2⟩ := row3 hrow
 go_upto_region 11 with fail
 clear x0 x1 x2 c0 c1 c2 c3 c4 c5 ft; have hks : Keeps w (w.setCell ⟨g, v * 6 + 4, none⟩ (.int .i64 (t : Int))) D := ⟨rfl, rfl, rfl, by simp [World.setCell], fun b _ hb => Below.heap_setCell _ _ _ _ (fun e => hb (by rw [e]; exact HR.out.dc g rfl))⟩; have hszs : (w.setCell ⟨g, v * 6 + 4, none⟩ (.int .i64 (t : Int))).heap.size = w.heap.size := by simp [World.setCell]
 have HKS := Lib.hid hks; have HSZ := Lib.hid hszs; clear hks hszs; generalize w.setCell ⟨g, v * 6 + 4, none⟩ (.int .i64 (t : Int)) = wS at *; obtain ⟨x0, x1, x2⟩ := row3 HST.out.row; rcases nil_or_snoc S.bonds with hB | ⟨l, bl, hB⟩
 ·have hl : S.bonds.length = 0 := by rw [hB]; rfl
  rw [hl] at x2; have hst1 := HST.out; rw [hl] at hst1; replace HST := Lib.hid hst1; clear hst1; have HBN := Lib.hid hB; have HL := Lib.hid hl; clear hB hl hrow; have hrowN := heap_alloc_new wS (.cells #[.int .i64 (v : Int), .int .i64 (max (v : Int) (t : Int))] 131 (0, 0)); have hbN := below_new wS (.cells #[.int .i64 (v : Int), .int .i64 (max (v : Int) (t : Int))] 131 (0, 0)); have HRN := Lib.hid hrowN; have HBL := Lib.hid hbN; clear hrowN hbN
  go_wp2_with (with_reducible show wpList _ _ _ (⟨some 77, _, _, _, _, _⟩ :: _) _ _
               generalize wS.alloc (.cells #[.int .i64 (v : Int), .int .i64 (max (v : Int) (t : Int))] 131 (0, 0)) = u at *; refine wpList_put (K := bondKind) rfl (.tmp 72) (.tmp 76) _ rfl Try.underlying73 info_bond rfl 0 (fun _ => False) _ S.bonds [.int .i64 (v : Int), .int .i64 (max (v : Int) (t : Int))] ((v : Int), (max (v : Int) (t : Int))) wS.heap.size _ _ _ rfl (HST.out.bonds.below HBL.out) rfl HRN.out rfl (by unfold maxLen; omega) (by omega) (Nat.zero_le _) ?_; intro v3 w3 hown3 hb3 hg3 hv3
               obtain ⟨g9, c9, rfl⟩ : ∃ g9 c9, v3 = .slice (some ⟨g9, 0, none⟩) (S.bonds.length + 1) c9 := by
                rcases hown3.form with h | ⟨g9, c9, e9⟩
                ·exfalso; have := congrArg List.length h.2; simp at this
                ·exact ⟨g9, c9, by rw [e9]; simp⟩
               obtain ⟨⟨c7, z7⟩, hfin⟩ := HST.out.putBond HBL.out hg3 hown3 hv3; have HFIN := Lib.hid hfin; clear hfin hown3 hb3 hg3 hv3 x0 x1 x2)
  go_ret; exact ⟨rfl, bind_fin HKS.out HSZ.out HFIN.out (by simp [bindS, topB, HBN.out]) (by simp [World.setCell])⟩
 ·have hl : S.bonds.length = l.length + 1 := by rw [hB]; simp
  obtain ⟨gb, cb', e1, q3, q4, c0, c1⟩ := HST.out.bond l.length (by show l.length < S.bonds.length; omega); have eb : S.bonds[l.length]'(by omega) = bl := by simp [hB]
  rw [show (⟨S.room, Tms.setTo S v t, S.bonds⟩ : Sto).bonds[l.length]'(by show l.length < S.bonds.length; omega) = bl from eb] at c0 c1; simp only [Value.slice.injEq] at e1; obtain ⟨rfl, -, rfl⟩ := e1; rw [hl] at x2; have hst1 := HST.out; rw [hl] at hst1; replace HST := Lib.hid hst1; clear hst1; have q3 : l.length + 1 ≤ cb := by have : S.bonds.length ≤ cb := q3; omega
  have HBN := Lib.hid hB; have HL := Lib.hid hl; have HC0 := Lib.hid c0; have hbl : l.length + 1 ≤ 20000000 := by omega
  clear hB hl hrow c0 eb; have hrowN := heap_alloc_new wS (.cells #[.int .i64 (v : Int), .int .i64 (max (v : Int) (max (t : Int) bl.2))] 131 (0, 0)); have hbN := below_new wS (.cells #[.int .i64 (v : Int), .int .i64 (max (v : Int) (max (t : Int) bl.2))] 131 (0, 0)); have HRN := Lib.hid hrowN; have HBL := Lib.hid hbN; clear hrowN hbN
  go_wp2_with (with_reducible show wpList _ _ _ (⟨some 77, _, _, _, _, _⟩ :: _) _ _
               generalize wS.alloc (.cells #[.int .i64 (v : Int), .int .i64 (max (v : Int) (max (t : Int) bl.2))] 131 (0, 0)) = u at *; refine wpList_put (K := bondKind) rfl (.tmp 72) (.tmp 76) _ rfl Try.underlying73 info_bond rfl 0 (fun _ => False) _ S.bonds [.int .i64 (v : Int), .int .i64 (max (v : Int) (max (t : Int) bl.2))] ((v : Int), (max (v : Int) (max (t : Int) bl.2))) wS.heap.size _ _ _ rfl (HST.out.bonds.below HBL.out) rfl HRN.out rfl (by unfold maxLen; omega) (by omega) (Nat.zero_le _) ?_; intro v3 w3 hown3 hb3 hg3 hv3
               obtain ⟨g9, c9, rfl⟩ : ∃ g9 c9, v3 = .slice (some ⟨g9, 0, none⟩) (S.bonds.length + 1) c9 := by
                rcases hown3.form with h | ⟨g9, c9, e9⟩
                ·exfalso; have := congrArg List.length h.2; simp at this
                ·exact ⟨g9, c9, by rw [e9]; simp⟩
               obtain ⟨⟨c7, z7⟩, hfin⟩ := HST.out.putBond HBL.out hg3 hown3 hv3; have HFIN := Lib.hid hfin; clear hfin hown3 hb3 hg3 hv3 x0 x1 x2 c1)
  go_ret; exact ⟨rfl, bind_fin HKS.out HSZ.out HFIN.out (by simp [bindS, HBN.out, topB_snoc, Int.max_assoc]) (by simp [World.setCell])⟩
theorem dec_yes {x n : Nat} (hx : x < n) : (decide ((0 : Int) ≤ (x : Int)) && decide ((x : Int) < (n : Int))) = true := by simp; omega
theorem StoRow.bondAt {w : World} {D : Nat → Prop} {p : Nat} {S : Sto} {cv : Value} {A : Nat → Prop} {g n cap : Nat} (h : StoRow w D p S cv (.slice (some ⟨g, 0, none⟩) n cap) A) (x : Nat) (b : Int × Int) (hb : S.bonds[x]? = some b) :
 w.cell? ⟨g, x * 2, none⟩ = some (.int .i64 b.1) ∧ w.cell? ⟨g, x * 2 + 1, none⟩ = some (.int .i64 b.2) := by
 obtain ⟨hx, rfl⟩ := List.getElem?_eq_some_iff.1 hb; obtain ⟨g', cap', e, -, -, h1, h2⟩ := h.bond x hx; simp only [Value.slice.injEq, Option.some.injEq, Addr.mk.injEq, and_true] at e; obtain ⟨rfl, -, -⟩ := e; exact ⟨h1, h2⟩
theorem StoRow.cellAt {w : World} {D : Nat → Prop} {p : Nat} {S : Sto} {bv : Value} {A : Nat → Prop} {g n cap : Nat} (h : StoRow w D p S (.slice (some ⟨g, 0, none⟩) n cap) bv A) (x : Nat) (c : SCell) (hc : S.cells[x]? = some c) :
 ∃ av, w.cell? ⟨g, x * 6, none⟩ = some (.int .i64 c.k) ∧ w.cell? ⟨g, x * 6 + 1, none⟩ = some (.int .i64 c.n) ∧ w.cell? ⟨g, x * 6 + 2, none⟩ = some (.string c.s) ∧
   w.cell? ⟨g, x * 6 + 3, none⟩ = some av ∧ w.cell? ⟨g, x * 6 + 4, none⟩ = some (.int .i64 c.lk) ∧ w.cell? ⟨g, x * 6 + 5, none⟩ = some (.int .i64 c.top) ∧ IntSl w (fun b => A b ∧ g ≠ b ∧ b < w.heap.size) av c.args := by
 obtain ⟨hx, rfl⟩ := List.getElem?_eq_some_iff.1 hc; obtain ⟨g', cap', av, e, -, -, h1, h2, h3, h4, h5, h6, h7⟩ := h.cell x hx; simp only [Value.slice.injEq, Option.some.injEq, Addr.mk.injEq, and_true] at e; obtain ⟨rfl, -, -⟩ := e; exact ⟨av, h1, h2, h3, h4, h5, h6, h7⟩
theorem StoRow.cutBonds {w : World} {D : Nat → Prop} {p : Nat} {S : Sto} {cv : Value} {A : Nat → Prop} {g cap m : Nat} {l : List (Int × Int)} (h : StoRow w D p S cv (.slice (some ⟨g, 0, none⟩) S.bonds.length cap) A) (hm : m ≤ S.bonds.length) (hl : l = S.bonds.take m) :
 StoRow (w.setCell ⟨p, 2, none⟩ (.slice (some ⟨g, 0, none⟩) m cap)) D p ⟨S.room, S.cells, l⟩ cv (.slice (some ⟨g, 0, none⟩) m cap) A ∧ Keeps w (w.setCell ⟨p, 2, none⟩ (.slice (some ⟨g, 0, none⟩) m cap)) D := by
 subst hl; have hs : (w.setCell ⟨p, 2, none⟩ (.slice (some ⟨g, 0, none⟩) m cap)).heap.size = w.heap.size := by simp [World.setCell]
 have keep : ∀ k, k ≠ p → (w.setCell ⟨p, 2, none⟩ (.slice (some ⟨g, 0, none⟩) m cap)).heap[k]? = w.heap[k]? := fun k hk => Below.heap_setCell _ _ _ _ hk
 have hc := h.bonds.cut rfl hm; refine ⟨⟨?_, h.own.keep (by omega) fun k hk hq => keep k fun e => ?_, hc.keep (by omega) fun k hk hq => keep k fun e => ?_, h.ne, h.pc, h.pb, h.ap, h.ab, h.dp, h.dc, h.db, h.da, fun k hk => by have := h.dl k hk; omega⟩, rfl, rfl, rfl, by omega, fun k _ hn => keep k fun e => hn (e ▸ h.dp)⟩
 ·have := heap_setCell_same w p 2 _ _ (.slice (some ⟨g, 0, none⟩) m cap) h.row
  simpa using this
 ·subst e
  rcases hq with hq | hq
  ·exact h.ap hq
  ·exact h.pc hq
 ·subst e
  rcases hq with hq | hq
  ·exact hq
  ·exact h.pb hq
def looseS (S : Sto) : Sto := match S.bonds.getLast? with
 | none => S
 | some b => ⟨S.room, setTo S b.1.toNat (-1), S.bonds.dropLast⟩
theorem looseS_at {S : Sto} {l : List (Int × Int)} {v : Nat} {t : Int} (h : S.bonds = l ++ [((v : Int), t)]) : looseS S = ⟨S.room, setTo S v (-1), l⟩ := by simp [looseS, h]
theorem sto_loose {S : Sto} {D : Nat → Prop} {p : Nat} (w : World) (hS : StoAt w D p S) (l : List (Int × Int)) (v : Nat) (t : Int) (hB : S.bonds = l ++ [((v : Int), t)]) (hv : v < S.cells.length) (hbs : S.bonds.length ≤ 20000000) :
 Calls Try.prog 52 #[.pointer (some ⟨p, 0, none⟩)] w fun e w' => e = .returned (.tuple #[]) ∧ StoAt w' D p (looseS S) ∧ Keeps w w' D := by
 rw [looseS_at hB]; obtain ⟨cv, bv, A, hr⟩ := hS; have hl : S.bonds.length = l.length + 1 := by rw [hB]; simp
 obtain ⟨gb, cb, rfl, q3, q4, -, -⟩ := hr.bond l.length (by omega); obtain ⟨g, cap, av, rfl, q1, q2, -⟩ := hr.cell v hv; have hrow := hr.row; obtain ⟨x0, x1, x2⟩ := row3 hrow; rw [hl] at x2 q3; have hv0 : (0 : Int) ≤ (v : Int) := by omega
 have hv1 : (v : Int) < (S.cells.length : Int) := by omega
 have hl2 : l.length + 1 ≤ 20000000 := by omega
 have HR := Lib.hid hr; have HBN := Lib.hid hB; have HL := Lib.hid hl; clear hr hB hl hrow hbs
 go_enter Try.func52, Try.ntmps52
 go_wp2; refine wp_region_rest (by kernel_rfl) ?_; have hdr : Below w.heap.size w w.drew := (Below.refl _ _).drew; have hr := HR.out.below hdr; have hpl := HR.out.dl p HR.out.dp; clear x0 x1 x2; generalize w.drew = W0 at *; have hk0 := Keeps.of (M := D) hdr; have HK0 := Lib.hid hk0; obtain ⟨d0, -⟩ := hr.bondAt l.length ((v : Int), t) (by rw [HBN.out]; simp); obtain ⟨av', c0, c1, c2, c3, c4, c5, -⟩ := hr.cellAt v (S.cells[v]) (List.getElem?_eq_getElem hv); have ft := hr.own.thaw rfl (v * 6 + 4); have hset := hr.setTo v hv (-1) S.bonds rfl; have hrow := hr.row; obtain ⟨x0, x1, x2⟩ := row3 hrow; rw [HL.out] at x2; have HST := Lib.hid hset; replace HR := Lib.hid hr; clear hset hr hrow c0 c1 c2 c3 c5; dsimp only at d0; refine rest_chainP (fun u => u = W0) 0 12 (.soft 0 (.soft 1 (.soft 2 (.soft 3 (.soft 4 (.soft 5 (.soft 6 (.soft 7 (.soft 8 (.soft 9 (.soft 10 (.soft 11 .nil)))))))))))) (.soft _ (.soft _ (.soft _ (.soft _ (.soft _ (.soft _ (.soft _ (.soft _ (.soft _ (.soft _ (.soft _ (.soft _ .nil)))))))))))) ⟨rfl, ⟨rfl, ⟨rfl, ⟨rfl, ⟨rfl, ⟨rfl, ⟨rfl, ⟨rfl, ⟨rfl, ⟨rfl, ⟨rfl, ⟨rfl, trivial⟩⟩⟩⟩⟩⟩⟩⟩⟩⟩⟩⟩ (by kernel_rfl) (by kernel_rfl) (by kernel_rfl) (by kernel_rfl) (.inr (by kernel_rfl)) rfl ?_; refine cS (a1 := ?ma1) ?mh1 ?mr1
 case mh1 =>
  intro u hu E hE; subst hu; go_wp2; rfl
 refine chainP_nck _ _ rfl rfl rfl ?_; simp only [Act.put, zA, zB, zC, zD, zE, zF, zG, Nat.reduceAdd]; refine cS (a1 := ?ma2) ?mh2 ?mr2
 case mh2 =>
  intro u hu E hE; subst hu; go_wp2; rfl
 refine cS (a1 := ?ma3) ?mh3 ?mr3
 case mh3 =>
  intro u hu E hE; subst hu; go_wp2; rfl
 refine cS (a1 := ?ma4) ?mh4 ?mr4
 case mh4 =>
  intro u hu E hE; subst hu; go_wp2; rfl
 refine chainP_nck _ _ rfl rfl rfl ?_; simp only [Act.put, zA, zB, zC, zD, zE, zF, zG, Nat.reduceAdd]; refine cS (a1 := ?ma5) ?mh5 ?mr5
 case mh5 =>
  intro u hu E hE; subst hu; go_wp2; rfl
 refine cS (a1 := ?ma6) ?mh6 ?mr6
 case mh6 =>
  intro u hu E hE; subst hu; go_wp2; rfl
 refine cS (a1 := ?ma7) ?mh7 ?mr7
 case mh7 =>
  intro u hu E hE; subst hu; go_wp2; rfl
 refine cS (a1 := ?ma8) ?mh8 ?mr8
 case mh8 =>
  intro u hu E hE; subst hu; go_wp2; rfl
 refine cS (a1 := ?ma9) ?mh9 ?mr9
 case mh9 =>
  intro u hu E hE; subst hu; go_wp2; rfl
 refine cS (a1 := ?ma10) ?mh10 ?mr10
 case mh10 =>
  intro u hu E hE; subst hu; go_wp2; rfl
 refine chainP_nil ?_; refine rest_lineL 12 15 [_, _, _] rfl (by kernel_rfl) (by decide) (by decide) (by kernel_rfl) ?_; go_wp2; refine then_rest (rest_end (by decide) ?_); have hks : Keeps W0 (W0.setCell ⟨g, v * 6 + 4, none⟩ (.int .i64 (-1))) D := ⟨rfl, rfl, rfl, by simp [World.setCell], fun b _ hb => Below.heap_setCell _ _ _ _ (fun e => hb (by rw [e]; exact HR.out.dc g rfl))⟩; have HKS := Lib.hid (hk0.trans hks fun b hb => .inl hb); clear x0 x1 x2 d0 c4 ft hks hk0; generalize W0.setCell ⟨g, v * 6 + 4, none⟩ (.int .i64 (-1)) = wS at *; have hc := HST.out.cutBonds (m := l.length) (l := l) (by show l.length ≤ S.bonds.length; have := HL.out; omega) (by show l = S.bonds.take l.length; rw [HBN.out]; simp); have hrow := HST.out.row; obtain ⟨x0, x1, x2⟩ := row3 hrow; have z2 := frozen_of_row wS p 2 _ _ hrow; rw [HL.out] at x2; have HF := Lib.hid hc; clear hc hrow; go_wp2; exact ⟨rfl, .tuple #[], by simp [results, Try.results52, go_sem], rfl, ⟨_, _, _, HF.out.1⟩, HKS.out.trans HF.out.2 fun b hb => .inl hb⟩
def undoN : Nat → Sto → Sto
 | 0, S => S
 | n + 1, S => undoN n (looseS S)
def undoS (S : Sto) (m : Int) : Sto := undoN (S.bonds.length - m.toNat) S
def BndOk (S : Sto) : Prop := S.bonds.length ≤ 20000000 ∧ ∀ b ∈ S.bonds, 0 ≤ b.1 ∧ b.1 < S.cells.length
theorem setTo_len (S : Sto) (v : Nat) (x : Int) : (setTo S v x).length = S.cells.length := by unfold setTo; split <;> simp
theorem loose_ok {S : Sto} {l : List (Int × Int)} {v : Nat} {t : Int} (h : S.bonds = l ++ [((v : Int), t)]) (hk : BndOk S) : BndOk (looseS S) := by
 rw [looseS_at h]; refine ⟨by have := hk.1; rw [h] at this; simp at this; show l.length ≤ _; omega, fun b hb => ?_⟩; have := hk.2 b (by rw [h]; exact List.mem_append_left _ hb); show 0 ≤ b.1 ∧ b.1 < ((setTo S v (-1)).length : Int); rw [setTo_len]; exact this
def UndoRel (S : Sto) (D : Nat → Prop) (p : Nat) (w0 : World) (m : Int) (k : Nat) (wr : World) : Prop := ∃ S', StoAt wr D p S' ∧ BndOk S' ∧ S'.cells.length = S.cells.length ∧ S'.bonds.length - m.toNat = k ∧ undoN k S' = undoS S m ∧ Keeps w0 wr D
theorem sto_Undo {S : Sto} {D : Nat → Prop} {p : Nat} (w : World) (hS : StoAt w D p S) (hok : BndOk S) (m : Int) :
 Calls Try.prog 23 #[.pointer (some ⟨p, 0, none⟩), .int .i64 m] w fun e w' => e = .returned (.tuple #[]) ∧ StoAt w' D p (undoS S m) ∧ Keeps w w' D := by
 have HO := Lib.hid hok; have HS := Lib.hid hS; have hw : ∃ M : Int, max m 0 = M ∧ M.toNat = m.toNat ∧ 0 ≤ M := ⟨_, rfl, by omega, by omega⟩; obtain ⟨M, hmx, hM, hM0⟩ := hw; have HM := Lib.hid hM; have hu : ∀ k S', undoN k S' = undoS S M → undoN k S' = undoS S m := fun k S' h => by rw [h]; unfold undoS; rw [HM.out]
 have HU := Lib.hid hu; clear hS hok hM hu
 go_enter Try.func23, Try.ntmps23
 go_wp2; have hst : UndoRel S D p w M (S.bonds.length - M.toNat) w := ⟨S, HS.out, HO.out, rfl, rfl, rfl, Keeps.refl _ _⟩; have HST := Lib.hid hst; clear hst hmx
 go_loopg [17] (S.bonds.length - M.toNat) (fun k _ wr => UndoRel S D p w M k wr)
 case atStart => exact HST.out
 case round =>
  obtain ⟨S', hs', hb', hc', hl', hu', hk'⟩ := hrel; obtain ⟨cv, bv, A, hr⟩ := hs'; obtain ⟨qb, cb, rfl⟩ := own_form hr.bonds; obtain ⟨x0, x1, x2⟩ := row3 hr.row; have hbs := hb'.1; have HS' : Hid (StoAt wr D p S') := Lib.hid ⟨_, _, _, hr⟩; have HB' := Lib.hid hb'; have HC' := Lib.hid hc'; have HL' := Lib.hid hl'; have HU' := Lib.hid hu'; have HK' := Lib.hid hk'; clear hr hb' hc' hu' hk' HST; cases gk with
  | zero =>
    have b1 : decide (M < (S'.bonds.length : Int)) = false := by simp; omega
    clear hl'; go_wp2; exact ⟨rfl, .tuple #[], by simp [results, Try.results23, go_sem], rfl, by rw [← HU.out 0 S' HU'.out]; exact HS'.out, HK'.out⟩
  | succ k =>
    have b1 : decide (M < (S'.bonds.length : Int)) = true := by simp; omega
    clear hl'
    go_wp2_with fail
    obtain ⟨l, b, hB⟩ : ∃ l b, S'.bonds = l ++ [b] := by
     rcases nil_or_snoc S'.bonds with h | h
     ·have := HL'.out; rw [h] at this; simp at this
     ·exact h
    obtain ⟨v, hv⟩ : ∃ v : Nat, b = ((v : Int), b.2) := ⟨b.1.toNat, by have := (HB'.out.2 b (by rw [hB]; simp)).1; exact Prod.ext (by show b.1 = ((b.1.toNat : Nat) : Int); omega) rfl⟩; rw [hv] at hB; have hvl : v < S'.cells.length := by have := (HB'.out.2 ((v : Int), b.2) (by rw [hB]; simp)).2; exact Int.ofNat_lt.1 this
    have hbn := loose_ok hB HB'.out; refine (sto_loose wr HS'.out l v b.2 hB hvl HB'.out.1).mono ?_; rintro e w2 ⟨rfl, hs2, hk2⟩
    have hrel : UndoRel S D p w M k w2 := by
     refine ⟨looseS S', hs2, hbn, ?_, ?_, HU'.out, HK'.out.trans hk2 fun b hb => .inl hb⟩
     ·rw [looseS_at hB, ← HC'.out]; exact setTo_len _ _ _
     ·have := HL'.out; rw [looseS_at hB]; rw [hB] at this; simp at this ⊢; omega
    have HREL := Lib.hid hrel; clear hrel hs2 hk2 hbn hv hB; go_wp2
    go_roundg k
    case measure => omega
    case rel => exact HREL.out
def lastTop (l : List SCell) : Int := match l.getLast? with
 | none => -1
 | some c => c.top
def addS (S : Sto) (k n : Int) (s : ByteArray) : Sto := ⟨S.room, S.cells ++ [⟨k, n, s, [], -1, lastTop S.cells⟩], S.bonds⟩
abbrev cellV (k n : Int) (s : ByteArray) (l t : Int) : Array Value := #[.int .i64 k, .int .i64 n, .string s, .slice none 0 0, .int .i64 l, .int .i64 t]
theorem row6 {w : World} {g : Nat} {y0 y1 y2 y3 y4 y5 : Value} {T : TypeId} {fr : Nat × Nat} (h : w.heap[g]? = some (.cells #[y0, y1, y2, y3, y4, y5] T fr)) :
 w.cell? ⟨g, 0, none⟩ = some y0 ∧ w.cell? ⟨g, 1, none⟩ = some y1 ∧ w.cell? ⟨g, 2, none⟩ = some y2 ∧ w.cell? ⟨g, 3, none⟩ = some y3 ∧ w.cell? ⟨g, 4, none⟩ = some y4 ∧ w.cell? ⟨g, 5, none⟩ = some y5 :=
 ⟨cell_of_row w g 0 _ _ _ h, cell_of_row w g 1 _ _ _ h, cell_of_row w g 2 _ _ _ h, cell_of_row w g 3 _ _ _ h, cell_of_row w g 4 _ _ _ h, cell_of_row w g 5 _ _ _ h⟩
theorem IntSl.nil (w : World) (P : Nat → Prop) : IntSl w P (.slice none 0 0) [] := ⟨none, 0, rfl, Nat.le_refl _, by decide, fun i hi => by simp at hi⟩
theorem add_fin {w wS w4 : World} {D : Nat → Prop} {p : Nat} {S S' : Sto} {cv bv : Value} {A : Nat → Prop} {w3 : World} (h1 : Below w.heap.size w wS) (h2 : wS.heap.size = w.heap.size + 1) (h : StoRow w4 (Grew D wS w3) p S cv bv A ∧ Keeps wS w4 D) (hS : S = S') (h3 : w3.heap.size = w4.heap.size) : StoDid w w4 D p S' := by
 subst hS; refine ⟨Grew D wS w3, ⟨cv, bv, A, h.1⟩, (Keeps.of h1).trans h.2 fun b hb => .inl hb, fun b hb => ?_⟩; rcases hb with hb | hb
 ·exact .inl hb
 ·exact .inr ⟨by omega, by omega⟩
theorem sto_add {S : Sto} {D : Nat → Prop} {p : Nat} (w : World) (hS : StoAt w D p S) (hlen : S.cells.length ≤ 20000000) (k n : Int) (s : ByteArray) :
 Calls Try.prog 25 #[.pointer (some ⟨p, 0, none⟩), .agg (cellV k n s 0 0)] w fun e w' => e = .returned (.int .i64 S.cells.length) ∧ StoDid w w' D p (addS S k n s) := by
 obtain ⟨cv, bv, A, hr⟩ := hS; have hb0 := below_new w (.cells (cellV k n s 0 0) 78 (0, 0)); have hr0 := hr.below hb0; obtain ⟨q, cap, rfl⟩ := own_form hr.own; obtain ⟨x0, x1, x2⟩ := row3 hr0.row; have HR := Lib.hid hr; have HR0 := Lib.hid hr0; clear hr hr0 hb0; rcases nil_or_snoc S.cells with hB | ⟨l, cl, hB⟩
 ·have hl : S.cells.length = 0 := by rw [hB]; rfl
  rw [hl] at x1 ⊢; have HBN := Lib.hid hB; have HL := Lib.hid hl; clear hB hl
  go_enter Try.func25, Try.ntmps25
  go_wp2; refine wp_region_rest (by kernel_rfl) ?_; have hbT : Below w.heap.size w (w.alloc (.cells #[.int .i64 k, .int .i64 n, .string s, .slice none 0 0, .int .i64 (-1), .int .i64 (-1)] 78 (0, 0))).drew := (below_new w _).drew; have hcT : (w.alloc (.cells #[.int .i64 k, .int .i64 n, .string s, .slice none 0 0, .int .i64 (-1), .int .i64 (-1)] 78 (0, 0))).drew.heap[w.heap.size]? = _ := heap_alloc_new w (.cells #[.int .i64 k, .int .i64 n, .string s, .slice none 0 0, .int .i64 (-1), .int .i64 (-1)] 78 (0, 0)); have hsT : (w.alloc (.cells #[.int .i64 k, .int .i64 n, .string s, .slice none 0 0, .int .i64 (-1), .int .i64 (-1)] 78 (0, 0))).drew.heap.size = w.heap.size + 1 := by show (w.alloc _).heap.size = _; simp
  have HRT := Lib.hid (HR.out.below hbT); have HBT := Lib.hid hbT; have HCT := Lib.hid hcT; have HST := Lib.hid hsT; have hlow : ∀ b, (Value.slice q 0 cap).ownBlock = some b → b < w.heap.size := fun b h => HR.out.dl b (HR.out.dc b (by rw [HL.out]; exact h))
  have HLOW := Lib.hid hlow; clear hbT hcT hsT x0 x1 x2 hlow; generalize (w.alloc (.cells #[.int .i64 k, .int .i64 n, .string s, .slice none 0 0, .int .i64 (-1), .int .i64 (-1)] 78 (0, 0))).drew = W0 at *; have hpl := HR.out.dl p HR.out.dp; refine rest_chainP (fun u => Keeps W0 u (fun b => (Value.slice q 0 cap).ownBlock = some b)) 0 8 (.soft 0 (.soft 1 (.soft 2 (.soft 3 (.soft 4 (.soft 5 (.one 6 (.one 7 .nil)))))))) (.soft _ (.soft _ (.soft _ (.soft _ (.soft _ (.soft _ (.one _ (.one _ .nil)))))))) ⟨rfl, ⟨rfl, ⟨rfl, ⟨rfl, ⟨rfl, ⟨rfl, ⟨rfl, ⟨rfl, trivial⟩⟩⟩⟩⟩⟩⟩⟩ (by kernel_rfl) (by kernel_rfl) (by kernel_rfl) (by kernel_rfl) (.inr (by kernel_rfl)) (Keeps.refl _ _) ?_; refine cS (a1 := ?ma11) ?mh11 ?mr11
  case mh11 =>
   intro u hu E hE; go_wp2; rfl
  refine cS (a1 := ?ma12) ?mh12 ?mr12
  case mh12 =>
   intro u hu E hE; go_wp2; rfl
  refine chainP_nck _ _ rfl rfl rfl ?_; simp only [Act.put, zA, zB, zC, zD, zE, zF, zG, Nat.reduceAdd]; refine cS (a1 := ?ma13) ?mh13 ?mr13
  case mh13 =>
   intro u hu E hE; go_wp2; rfl
  refine cS (a1 := ?ma14) ?mh14 ?mr14
  case mh14 =>
   intro u hu E hE; have hrow := (hu.block p (by have := HST.out; omega) (by have := HR.out.pc; rw [HL.out] at this; exact this)).trans HRT.out.row; rw [HL.out] at hrow; obtain ⟨x0, x1, x2⟩ := row3 hrow; clear hrow; go_wp2; rfl
  refine cS (a1 := ?ma15) ?mh15 ?mr15
  case mh15 =>
   intro u hu E hE; have hrow := (hu.block w.heap.size (by have := HST.out; omega) (fun h => by have := HLOW.out _ h; omega)).trans HCT.out; obtain ⟨x0, x1, x2, x3, x4, x5⟩ := row6 hrow; clear hrow; go_wp2; rfl
  refine chainP_one ?_; intro E hE; go_wp2; have hbN := below_new W0 (.cells #[.int .i64 k, .int .i64 n, .string s, .slice none 0 0, .int .i64 (-1), .int .i64 (-1)] 78 (0, 0)); have hrN := heap_alloc_new W0 (.cells #[.int .i64 k, .int .i64 n, .string s, .slice none 0 0, .int .i64 (-1), .int .i64 (-1)] 78 (0, 0)); refine ⟨Keeps.of hbN, ?_⟩; have hrt := HRT.out; rw [HL.out] at hrt; have HRU := Lib.hid hrt; generalize W0.alloc (.cells #[.int .i64 k, .int .i64 n, .string s, .slice none 0 0, .int .i64 (-1), .int .i64 (-1)] 78 (0, 0)) = u at *; clear hrt; refine chainP_one ?_; intro E hE; refine wpList_put (K := cellKind) rfl (.tmp 29) (.tmp 31) _ rfl Try.underlying72 info_cell rfl 0 A _ S.cells [.int .i64 k, .int .i64 n, .string s, .slice none 0 0, .int .i64 (-1), .int .i64 (-1)] ⟨k, n, s, [], -1, (-1)⟩ W0.heap.size _ _ _ rfl (HRU.out.own.below hbN) rfl hrN ⟨_, rfl, IntSl.nil _ _⟩ (by unfold maxLen; omega) (by omega) (Nat.zero_le _) ?_; intro v3 w3 hown3 hb3 hg3 hv3
  obtain ⟨g9, c9, rfl⟩ : ∃ g9 c9, v3 = .slice (some ⟨g9, 0, none⟩) (S.cells.length + 1) c9 := by
   rcases hown3.form with h | ⟨g9, c9, e9⟩
   ·exfalso; have := congrArg List.length h.2; simp at this
   ·exact ⟨g9, c9, by rw [e9]; simp⟩
  refine hE _ _ ⟨(Keeps.of hbN).trans ⟨hg3.os, hg3.tape, hg3.output, hg3.size, fun b hlt hne => hg3.block b hlt fun e => hne e.symm⟩ fun b hb => .inl hb, ?_⟩; obtain ⟨⟨c7, z7⟩, hfin⟩ := HRU.out.putCell hbN hg3 hown3 hv3; have HFIN := Lib.hid hfin; clear hfin hown3 hb3 hg3 hv3; refine chainP_nil ?_; refine rest_lineL 8 11 [_, _, _] rfl (by kernel_rfl) (by decide) (by decide) (by kernel_rfl) ?_; go_wp2; refine then_rest (rest_end (by decide) ?_); go_wp2; go_ret; exact ⟨rfl, add_fin HBT.out HST.out HFIN.out (by simp [addS, lastTop, HBN.out]) (by simp [World.setCell])⟩
 ·have hl : S.cells.length = l.length + 1 := by rw [hB]; simp
  rw [hl]
  obtain ⟨g, rfl⟩ : ∃ g, q = some ⟨g, 0, none⟩ := by
   rcases HR.out.own.form with ⟨-, h⟩ | ⟨g, c, h⟩
   ·rw [h] at hB; simp at hB
   ·simp only [Value.slice.injEq] at h; exact ⟨g, h.1⟩
  obtain ⟨av, -, -, -, -, -, c5, -⟩ := HR.out.cellAt l.length cl (by rw [hB]; simp); have hpl0 := HR.out.dl p HR.out.dp; have hgl0 := HR.out.dl g (HR.out.dc g rfl); clear x0 x1 x2; obtain ⟨x0, x1, x2⟩ := row3 HR.out.row; rw [hl] at x1; have hcaps := HR.out.own.caps; rw [hl] at hcaps; have hcap1 := hcaps.1; have hbl : l.length + 1 ≤ 20000000 := by omega
  have HBN := Lib.hid hB; have HL := Lib.hid hl; clear hB hl hcaps
  go_enter Try.func25, Try.ntmps25
  go_wp2; refine wp_region_rest (by kernel_rfl) ?_; have hbT : Below w.heap.size w (w.alloc (.cells #[.int .i64 k, .int .i64 n, .string s, .slice none 0 0, .int .i64 (-1), .int .i64 cl.top] 78 (0, 0))).drew := (below_new w _).drew; have hcT : (w.alloc (.cells #[.int .i64 k, .int .i64 n, .string s, .slice none 0 0, .int .i64 (-1), .int .i64 cl.top] 78 (0, 0))).drew.heap[w.heap.size]? = _ := heap_alloc_new w (.cells #[.int .i64 k, .int .i64 n, .string s, .slice none 0 0, .int .i64 (-1), .int .i64 cl.top] 78 (0, 0)); have hsT : (w.alloc (.cells #[.int .i64 k, .int .i64 n, .string s, .slice none 0 0, .int .i64 (-1), .int .i64 cl.top] 78 (0, 0))).drew.heap.size = w.heap.size + 1 := by show (w.alloc _).heap.size = _; simp
  have HRT := Lib.hid (HR.out.below hbT); have HBT := Lib.hid hbT; have HCT := Lib.hid hcT; have HST := Lib.hid hsT; have hlow : ∀ b, (Value.slice (some ⟨g, 0, none⟩) (l.length + 1) cap).ownBlock = some b → b < w.heap.size := fun b h => HR.out.dl b (HR.out.dc b (by rw [HL.out]; exact h))
  have HLOW := Lib.hid hlow; clear hbT hcT hsT x0 x1 x2 hlow; generalize (w.alloc (.cells #[.int .i64 k, .int .i64 n, .string s, .slice none 0 0, .int .i64 (-1), .int .i64 cl.top] 78 (0, 0))).drew = W0 at *; have hpl := HR.out.dl p HR.out.dp; refine rest_chainP (fun u => Keeps W0 u (fun b => (Value.slice (some ⟨g, 0, none⟩) (l.length + 1) cap).ownBlock = some b)) 0 8 (.soft 0 (.soft 1 (.soft 2 (.soft 3 (.soft 4 (.soft 5 (.one 6 (.one 7 .nil)))))))) (.soft _ (.soft _ (.soft _ (.soft _ (.soft _ (.soft _ (.one _ (.one _ .nil)))))))) ⟨rfl, ⟨rfl, ⟨rfl, ⟨rfl, ⟨rfl, ⟨rfl, ⟨rfl, ⟨rfl, trivial⟩⟩⟩⟩⟩⟩⟩⟩ (by kernel_rfl) (by kernel_rfl) (by kernel_rfl) (by kernel_rfl) (.inr (by kernel_rfl)) (Keeps.refl _ _) ?_; refine cS (a1 := ?ma16) ?mh16 ?mr16
  case mh16 =>
   intro u hu E hE; go_wp2; rfl
  refine cS (a1 := ?ma17) ?mh17 ?mr17
  case mh17 =>
   intro u hu E hE; go_wp2; rfl
  refine chainP_nck _ _ rfl rfl rfl ?_; simp only [Act.put, zA, zB, zC, zD, zE, zF, zG, Nat.reduceAdd]; refine cS (a1 := ?ma18) ?mh18 ?mr18
  case mh18 =>
   intro u hu E hE; go_wp2; rfl
  refine cS (a1 := ?ma19) ?mh19 ?mr19
  case mh19 =>
   intro u hu E hE; have hrow := (hu.block p (by have := HST.out; omega) (by have := HR.out.pc; rw [HL.out] at this; exact this)).trans HRT.out.row; rw [HL.out] at hrow; obtain ⟨x0, x1, x2⟩ := row3 hrow; clear hrow; go_wp2; rfl
  refine cS (a1 := ?ma20) ?mh20 ?mr20
  case mh20 =>
   intro u hu E hE; have hrow := (hu.block w.heap.size (by have := HST.out; omega) (fun h => by have := HLOW.out _ h; omega)).trans HCT.out; obtain ⟨x0, x1, x2, x3, x4, x5⟩ := row6 hrow; clear hrow; go_wp2; rfl
  refine chainP_one ?_; intro E hE; go_wp2; have hbN := below_new W0 (.cells #[.int .i64 k, .int .i64 n, .string s, .slice none 0 0, .int .i64 (-1), .int .i64 cl.top] 78 (0, 0)); have hrN := heap_alloc_new W0 (.cells #[.int .i64 k, .int .i64 n, .string s, .slice none 0 0, .int .i64 (-1), .int .i64 cl.top] 78 (0, 0)); refine ⟨Keeps.of hbN, ?_⟩; have hrt := HRT.out; rw [HL.out] at hrt; have HRU := Lib.hid hrt; generalize W0.alloc (.cells #[.int .i64 k, .int .i64 n, .string s, .slice none 0 0, .int .i64 (-1), .int .i64 cl.top] 78 (0, 0)) = u at *; clear hrt; refine chainP_one ?_; intro E hE; refine wpList_put (K := cellKind) rfl (.tmp 29) (.tmp 31) _ rfl Try.underlying72 info_cell rfl 0 A _ S.cells [.int .i64 k, .int .i64 n, .string s, .slice none 0 0, .int .i64 (-1), .int .i64 cl.top] ⟨k, n, s, [], -1, cl.top⟩ W0.heap.size _ _ _ rfl (HRU.out.own.below hbN) rfl hrN ⟨_, rfl, IntSl.nil _ _⟩ (by unfold maxLen; omega) (by omega) (Nat.zero_le _) ?_; intro v3 w3 hown3 hb3 hg3 hv3
  obtain ⟨g9, c9, rfl⟩ : ∃ g9 c9, v3 = .slice (some ⟨g9, 0, none⟩) (S.cells.length + 1) c9 := by
   rcases hown3.form with h | ⟨g9, c9, e9⟩
   ·exfalso; have := congrArg List.length h.2; simp at this
   ·exact ⟨g9, c9, by rw [e9]; simp⟩
  refine hE _ _ ⟨(Keeps.of hbN).trans ⟨hg3.os, hg3.tape, hg3.output, hg3.size, fun b hlt hne => hg3.block b hlt fun e => hne e.symm⟩ fun b hb => .inl hb, ?_⟩; obtain ⟨⟨c7, z7⟩, hfin⟩ := HRU.out.putCell hbN hg3 hown3 hv3; have HFIN := Lib.hid hfin; clear hfin hown3 hb3 hg3 hv3; refine chainP_nil ?_; refine rest_lineL 8 11 [_, _, _] rfl (by kernel_rfl) (by decide) (by decide) (by kernel_rfl) ?_; go_wp2; refine then_rest (rest_end (by decide) ?_); go_wp2; go_ret; exact ⟨rfl, add_fin HBT.out HST.out HFIN.out (by simp [addS, lastTop, HBN.out]) (by simp [World.setCell])⟩
def freshS (S : Sto) : Sto := addS S 1 0 ⟨#[]⟩
theorem StoDid.after {w w1 w' : World} {D : Nat → Prop} {p : Nat} {S : Sto} (hb : Below w.heap.size w w1) (h : StoDid w1 w' D p S) (hD : ∀ b, D b → b < w.heap.size) : StoDid w w' D p S := by
 obtain ⟨D', h1, h2, h3⟩ := h; refine ⟨D', h1, (Keeps.of hb).trans h2 fun b hb => .inl hb, fun b hb' => ?_⟩; have := hb.size; rcases h3 b hb' with h | h
 ·exact .inl h
 ·exact .inr ⟨by omega, h.2⟩
theorem sto_Fresh {S : Sto} {D : Nat → Prop} {p : Nat} (w : World) (hS : StoAt w D p S) (hlen : S.cells.length ≤ 20000000) (hroom : (S.cells.length : Int) < S.room) :
 Calls Try.prog 9 #[.pointer (some ⟨p, 0, none⟩)] w fun e w' => e = .returned (.tuple #[.int .i64 S.cells.length, .int .i64 0]) ∧ StoDid w w' D p (freshS S) := by
 have hb1 : decide (S.room ≤ (S.cells.length : Int)) = false := by simp; omega
 obtain ⟨cv, bv, A, hr⟩ := hS; obtain ⟨q, cap, rfl⟩ := own_form hr.own; have HR := Lib.hid hr; have HL := Lib.hid hlen; clear hr hroom
 go_enter Try.func9, Try.ntmps9
 go_wp2; refine wp_region_rest (by kernel_rfl) ?_; have hdr : Below w.heap.size w w.drew := (Below.refl _ _).drew; have HR0 := Lib.hid (HR.out.below hdr); have HB0 := Lib.hid hdr; clear hdr; generalize w.drew = W0 at *; obtain ⟨x0, x1, x2⟩ := row3 HR0.out.row; refine rest_chainP (fun u => u = W0) 0 10 (.soft 0 (.soft 1 (.soft 2 (.soft 3 (.soft 4 (.soft 5 (.soft 6 (.soft 7 (.soft 8 (.soft 9 .nil)))))))))) (.soft _ (.soft _ (.soft _ (.soft _ (.soft _ (.soft _ (.soft _ (.soft _ (.soft _ (.soft _ .nil)))))))))) ⟨rfl, ⟨rfl, ⟨rfl, ⟨rfl, ⟨rfl, ⟨rfl, ⟨rfl, ⟨rfl, ⟨rfl, ⟨rfl, trivial⟩⟩⟩⟩⟩⟩⟩⟩⟩⟩ (by kernel_rfl) (by kernel_rfl) (by kernel_rfl) (by kernel_rfl) (.inl rfl) rfl ?_; refine cS (a1 := ?ma21) ?mh21 ?mr21
 case mh21 =>
  intro u hu E hE; subst hu; go_wp2; rfl
 refine chainP_nck _ _ rfl rfl rfl ?_; simp only [Act.put, zA, zB, zC, zD, zE, zF, zG, Nat.reduceAdd]; refine cS (a1 := ?ma22) ?mh22 ?mr22
 case mh22 =>
  intro u hu E hE; subst hu; go_wp2; rfl
 refine cS (a1 := ?ma23) ?mh23 ?mr23
 case mh23 =>
  intro u hu E hE; subst hu; go_wp2; rfl
 refine cS (a1 := ?ma24) ?mh24 ?mr24
 case mh24 =>
  intro u hu E hE; subst hu; go_wp2; rfl
 refine cS (a1 := ?ma25) ?mh25 ?mr25
 case mh25 =>
  intro u hu E hE; subst hu; go_wp2; rfl
 refine chainP_nck _ _ rfl rfl rfl ?_; simp only [Act.put, zA, zB, zC, zD, zE, zF, zG, Nat.reduceAdd]; refine cS (a1 := ?ma26) ?mh26 ?mr26
 case mh26 =>
  intro u hu E hE; subst hu; go_wp2; rfl
 refine cS (a1 := ?ma27) ?mh27 ?mr27
 case mh27 =>
  intro u hu E hE; subst hu; go_wp2; rfl
 refine cS (a1 := ?ma28) ?mh28 ?mr28
 case mh28 =>
  intro u hu E hE; subst hu; go_wp2; rfl
 refine chainP_nil ?_; refine rest_end (by decide) ?_
 go_wp2_with fail
 refine (sto_add W0 ⟨_, _, _, HR0.out⟩ HL.out 1 0 ⟨#[]⟩).mono ?_; rintro e w2 ⟨rfl, hd⟩; have HD := Lib.hid (hd.after HB0.out HR.out.dl); clear hd; go_wp2; go_ret2; exact ⟨rfl, HD.out⟩
theorem sto_Fresh_full {S : Sto} {D : Nat → Prop} {p : Nat} (w : World) (hS : StoAt w D p S) (hlen : S.cells.length ≤ 20000000) (hroom : S.room ≤ (S.cells.length : Int)) :
 Calls Try.prog 9 #[.pointer (some ⟨p, 0, none⟩)] w fun e w' => e = .returned (.tuple #[.int .i64 0, .int .i64 9]) ∧ Below w.heap.size w w' := by
 have hb1 : decide (S.room ≤ (S.cells.length : Int)) = true := by simp; omega
 obtain ⟨cv, bv, A, hr⟩ := hS; obtain ⟨q, cap, rfl⟩ := own_form hr.own; have HR := Lib.hid hr; have HL := Lib.hid hlen; clear hr hroom
 go_enter Try.func9, Try.ntmps9
 go_wp2; refine wp_region_rest (by kernel_rfl) ?_; have hdr : Below w.heap.size w w.drew := (Below.refl _ _).drew; have HR0 := Lib.hid (HR.out.below hdr); have HB0 := Lib.hid hdr; clear hdr; generalize w.drew = W0 at *; obtain ⟨x0, x1, x2⟩ := row3 HR0.out.row; refine rest_chainP (fun u => u = W0) 0 10 (.soft 0 (.soft 1 (.soft 2 (.soft 3 (.soft 4 (.soft 5 (.soft 6 (.soft 7 (.soft 8 (.soft 9 .nil)))))))))) (.soft _ (.soft _ (.soft _ (.soft _ (.soft _ (.soft _ (.soft _ (.soft _ (.soft _ (.soft _ .nil)))))))))) ⟨rfl, ⟨rfl, ⟨rfl, ⟨rfl, ⟨rfl, ⟨rfl, ⟨rfl, ⟨rfl, ⟨rfl, ⟨rfl, trivial⟩⟩⟩⟩⟩⟩⟩⟩⟩⟩ (by kernel_rfl) (by kernel_rfl) (by kernel_rfl) (by kernel_rfl) (.inl rfl) rfl ?_; refine cS (a1 := ?ma29) ?mh29 ?mr29
 case mh29 =>
  intro u hu E hE; subst hu; go_wp2; rfl
 refine chainP_nck _ _ rfl rfl rfl ?_; simp only [Act.put, zA, zB, zC, zD, zE, zF, zG, Nat.reduceAdd]; refine cS (a1 := ?ma30) ?mh30 ?mr30
 case mh30 =>
  intro u hu E hE; subst hu; go_wp2; rfl
 refine cS (a1 := ?ma31) ?mh31 ?mr31
 case mh31 =>
  intro u hu E hE; subst hu; go_wp2; rfl
 refine cS (a1 := ?ma32) ?mh32 ?mr32
 case mh32 =>
  intro u hu E hE; subst hu; go_wp2; rfl
 refine cS (a1 := ?ma33) ?mh33 ?mr33
 case mh33 =>
  intro u hu E hE; subst hu; go_wp2; rfl
 refine chainP_nck _ _ rfl rfl rfl ?_; simp only [Act.put, zA, zB, zC, zD, zE, zF, zG, Nat.reduceAdd]; refine cS (a1 := ?ma34) ?mh34 ?mr34
 case mh34 =>
  intro u hu E hE; subst hu; go_wp2; rfl
 refine cS (a1 := ?ma35) ?mh35 ?mr35
 case mh35 =>
  intro u hu E hE; subst hu; go_wp2; rfl
 refine cS (a1 := ?ma36) ?mh36 ?mr36
 case mh36 =>
  intro u hu E hE; subst hu; go_wp2; rfl
 refine chainP_nil ?_; refine rest_end (by decide) ?_; go_wp2; go_ret2; exact ⟨rfl, HB0.out⟩
theorem info_int : (Try.prog.info? 3).map (fun i => (i.zero, i.size, i.bytes)) = some (some (.int .i64 0), 1, 8) := by kernel_rfl
theorem row_is {w : World} {base n : Nat} {T : TypeId} {v : Value} {L : List Int} (hn : L.length = n) (h : w.ownsRow base T 1 v n (L.map fun n => Value.int .i64 n)) : IntSl w (fun b => v.ownBlock = some b ∧ base ≤ b) v L := by
 subst hn; obtain ⟨-, ⟨rfl, e⟩ | ⟨g, cap, cur, rfl, hb, hg, hc, hm, hsz, ht⟩⟩ := id h
 ·exact ⟨none, 0, by rw [e], by omega, by decide, fun i hi => by omega⟩
 ·refine ⟨_, _, rfl, hc, hm, fun i hi => ⟨g, 0, rfl, ⟨rfl, hb⟩, (Array.getElem?_eq_some_iff.1 hg).1, ?_⟩⟩
  have h5 := h.cellAt i (by simpa using hi); rw [Nat.zero_add, h5]
  simp [hi]
def ClonePost (L : List Int) (w : World) (e : Ending) (w' : World) : Prop := ∃ v, e = .returned v ∧ IntSl w' (fun b => w.heap.size ≤ b) v L ∧ Below w.heap.size w w'
theorem clone_is {w : World} {P : Nat → Prop} {v : Value} {L : List Int} (h : IntSl w P v L) (hL : L.length ≤ 1000000000) : Calls Try.prog 47 #[v] w (ClonePost L w) := by
 obtain ⟨a, cap, rfl, h1, h2, h3⟩ := h; cases a with
 | none =>
   obtain rfl : L = [] := by
    cases L with
    | nil => rfl
    | cons x L => obtain ⟨b, off, e, -⟩ := h3 0 (by simp); cases e
   refine (Try.slices_Clone_int_nil 0 cap w).mono ?_; rintro e w1 ⟨rfl, rfl⟩; exact ⟨_, rfl, IntSl.nil _ _, Below.refl _ _⟩
 | some a =>
   cases hL0 : L with
   | nil =>
     subst hL0; refine (Try.slices_Clone_int_zero a cap w).mono ?_; rintro e w1 ⟨v, rfl, ho, -, hb⟩; refine ⟨v, rfl, ?_, hb⟩; have := row_is (L := []) rfl ho; exact this.move (fun b hb _ => hb.2) fun _ _ _ => rfl
   | cons x L' =>
     rw [← hL0]; obtain ⟨b, off, e, -⟩ := h3 0 (by rw [hL0]; simp); obtain rfl := Option.some.inj e; refine (Try.slices_Clone_int b off L.length cap L w (Nat.le_refl _) (by omega) fun j hj => ?_).mono ?_
     ·obtain ⟨b', off', e, -, -, hc⟩ := h3 j hj
      simp only [Option.some.injEq, Addr.mk.injEq, and_true] at e; obtain ⟨rfl, rfl⟩ := e; rw [hc]
      simp [hj]
     ·rintro e w1 ⟨v, rfl, ho, -, hb⟩
      rw [List.take_length] at ho; refine ⟨v, rfl, (row_is rfl ho).move (fun b hb _ => hb.2) fun _ _ _ => rfl, hb⟩
def shellC (x : Nat) (c : SCell) : Tm := if c.k = 1 then .mk 1 x ⟨#[]⟩ [] else .mk c.k c.n c.s []
abbrev aggS (t : Tm) : Value := .agg #[.int .i64 t.k, .int .i64 t.n, .string t.s, .slice none 0 0]
theorem sto_shell {S : Sto} {D : Nat → Prop} {p : Nat} (w : World) (hS : StoAt w D p S) (x : Nat) (c : SCell) (hx : S.cells[x]? = some c) (hlen : S.cells.length ≤ 20000000) :
 Calls Try.prog 46 #[.pointer (some ⟨p, 0, none⟩), .int .i64 x] w fun e w' => e = .returned (aggS (shellC x c)) ∧ Below w.heap.size w w' := by
 obtain ⟨cv, bv, A, hr⟩ := hS; have hxl := (List.getElem?_eq_some_iff.1 hx).1; obtain ⟨g, cap, av, rfl, q1, q2, -⟩ := hr.cell x hxl; have hb0 := below_new w (.cells #[.int .i64 0, .int .i64 0, .string ⟨#[]⟩, .slice none 0 0] 49 (0, 0)); have hn0 := heap_alloc_new w (.cells #[.int .i64 0, .int .i64 0, .string ⟨#[]⟩, .slice none 0 0] 49 (0, 0)); obtain ⟨x0, x1, x2⟩ := row3 (hr.below hb0).row; obtain ⟨av', c0, c1, c2, c3, c4, c5, -⟩ := (hr.below hb0).cellAt x c hx; have hx0 : (0 : Int) ≤ (x : Int) := by omega
 have hx1 : (x : Int) < (S.cells.length : Int) := by omega
 have HR := Lib.hid (hr.below hb0); have HB := Lib.hid hb0; have HN := Lib.hid hn0; have HX := Lib.hid hx; clear hr hb0 hn0 hx
 by_cases k1 : c.k = 1
 ·have b1 : (c.k == 1) = true := by simp [k1]
  have hsh : shellC x c = .mk 1 x ⟨#[]⟩ [] := if_pos k1; rw [hsh]; clear hsh k1
  go_enter Try.func46, Try.ntmps46
  go_wp2_with (with_reducible show wpList _ _ _ (⟨none, .store _ (.tmp 4) _, _, _, _, _⟩ :: _) _ _
               refine wpList_store_row rfl 49 (.tmp 4) (.tmp 18) rfl w.heap.size #[.int .i64 1, .int .i64 (x : Int), .string ⟨#[]⟩, .slice none 0 0] rfl rfl _ _ HN.out size_term rfl (one4 _ _ _ _ _ _) ?_)
  have hz := setRow_heap _ w.heap.size _ #[.int .i64 1, .int .i64 (x : Int), .string ⟨#[]⟩, .slice none 0 0] _ _ HN.out; exact bodyPost_ret (v := .agg #[.int .i64 1, .int .i64 (x : Int), .string ⟨#[]⟩, .slice none 0 0]) (results_cell_row Try.results46 _ _ w.heap.size _ _ _ _ rfl hz Try.underlying49 rfl (by kernel_rfl)) rfl ⟨rfl, below_setRow HB.out (Nat.le_refl _) _⟩
 ·have b1 : (c.k == 1) = false := by simpa using k1
  have hsh : shellC x c = .mk c.k c.n c.s [] := if_neg k1; rw [hsh]; clear hsh k1
  go_enter Try.func46, Try.ntmps46
  go_wp2; refine wp_region_rest (by kernel_rfl) ?_; clear x0 x1 x2 c0 c1 c2 c3 c4 c5; have hdr := (HB.out).trans ((Below.refl (w.alloc (.cells #[.int .i64 0, .int .i64 0, .string ⟨#[]⟩, .slice none 0 0] 49 (0, 0))).heap.size (w.alloc (.cells #[.int .i64 0, .int .i64 0, .string ⟨#[]⟩, .slice none 0 0] 49 (0, 0)))).drew.mono HB.out.size); have HR0 := Lib.hid (HR.out.below (Below.refl _ _).drew); have hN0 : (w.alloc (.cells #[.int .i64 0, .int .i64 0, .string ⟨#[]⟩, .slice none 0 0] 49 (0, 0))).drew.heap[w.heap.size]? = _ := HN.out; have HN0 := Lib.hid hN0; have HB0 := Lib.hid hdr; clear hdr hN0; generalize (w.alloc (.cells #[.int .i64 0, .int .i64 0, .string ⟨#[]⟩, .slice none 0 0] 49 (0, 0))).drew = W0 at *; obtain ⟨av2, c0, c1, c2, c3, c4, c5, -⟩ := HR0.out.cellAt x c HX.out; refine rest_chainP (fun u => u = W0) 0 13 (.soft 0 (.soft 1 (.soft 2 (.soft 3 (.soft 4 (.soft 5 (.soft 6 (.soft 7 (.soft 8 (.soft 9 (.soft 10 (.soft 11 (.soft 12 .nil))))))))))))) (.soft _ (.soft _ (.soft _ (.soft _ (.soft _ (.soft _ (.soft _ (.soft _ (.soft _ (.soft _ (.soft _ (.soft _ (.soft _ .nil))))))))))))) ⟨rfl, ⟨rfl, ⟨rfl, ⟨rfl, ⟨rfl, ⟨rfl, ⟨rfl, ⟨rfl, ⟨rfl, ⟨rfl, ⟨rfl, ⟨rfl, ⟨rfl, trivial⟩⟩⟩⟩⟩⟩⟩⟩⟩⟩⟩⟩⟩ (by kernel_rfl) (by kernel_rfl) (by kernel_rfl) (by kernel_rfl) (.inr (by kernel_rfl)) rfl ?_; refine cS (a1 := ?ma37) ?mh37 ?mr37
  case mh37 =>
   intro u hu E hE; subst hu; go_wp2; rfl
  refine chainP_nck _ _ rfl rfl rfl ?_; simp only [Act.put, zA, zB, zC, zD, zE, zF, zG, Nat.reduceAdd]; refine cS (a1 := ?ma38) ?mh38 ?mr38
  case mh38 =>
   intro u hu E hE; subst hu; go_wp2; rfl
  refine cS (a1 := ?ma39) ?mh39 ?mr39
  case mh39 =>
   intro u hu E hE; subst hu; go_wp2; rfl
  refine cS (a1 := ?ma40) ?mh40 ?mr40
  case mh40 =>
   intro u hu E hE; subst hu; go_wp2; rfl
  refine chainP_nck _ _ rfl rfl rfl ?_; simp only [Act.put, zA, zB, zC, zD, zE, zF, zG, Nat.reduceAdd]; refine cS (a1 := ?ma41) ?mh41 ?mr41
  case mh41 =>
   intro u hu E hE; subst hu; go_wp2; rfl
  refine cS (a1 := ?ma42) ?mh42 ?mr42
  case mh42 =>
   intro u hu E hE; subst hu; go_wp2; rfl
  refine cS (a1 := ?ma43) ?mh43 ?mr43
  case mh43 =>
   intro u hu E hE; subst hu; go_wp2; rfl
  refine chainP_nck _ _ rfl rfl rfl ?_; simp only [Act.put, zA, zB, zC, zD, zE, zF, zG, Nat.reduceAdd]; refine cS (a1 := ?ma44) ?mh44 ?mr44
  case mh44 =>
   intro u hu E hE; subst hu; go_wp2; rfl
  refine cS (a1 := ?ma45) ?mh45 ?mr45
  case mh45 =>
   intro u hu E hE; subst hu; go_wp2; rfl
  refine cS (a1 := ?ma46) ?mh46 ?mr46
  case mh46 =>
   intro u hu E hE; subst hu; go_wp2; rfl
  refine chainP_nil ?_; refine rest_lineL 13 14 [_] rfl (by kernel_rfl) (by decide) (by decide) (by kernel_rfl) ?_; refine wpList_store_row rfl 49 (.tmp 4) (.tmp 31) rfl w.heap.size #[.int .i64 c.k, .int .i64 c.n, .string c.s, .slice none 0 0] rfl rfl _ _ HN0.out size_term rfl (one4 _ _ _ _ _ _) ?_; refine then_rest (rest_end (by decide) ?_); go_wp2; have hz := setRow_heap _ w.heap.size _ #[.int .i64 c.k, .int .i64 c.n, .string c.s, .slice none 0 0] _ _ HN0.out; exact bodyPost_ret (v := .agg #[.int .i64 c.k, .int .i64 c.n, .string c.s, .slice none 0 0]) (results_cell_row Try.results46 _ _ w.heap.size _ _ _ _ rfl hz Try.underlying49 rfl (by kernel_rfl)) rfl ⟨rfl, below_setRow HB0.out (Nat.le_refl _) _⟩
def LookPost (t : Tm) (L : List Int) (w : World) (e : Ending) (w' : World) : Prop := ∃ v, e = .returned (.tuple #[aggS t, v]) ∧ IntSl w' (fun b => w.heap.size ≤ b) v L ∧ Below w.heap.size w w'
theorem sto_Look {S : Sto} {D : Nat → Prop} {p : Nat} (w : World) (hS : StoAt w D p S) (f x r : Nat) (c : SCell) (hc : Ch S f x r) (hr : S.cells[r]? = some c) (hlen : S.cells.length ≤ 20000000) (hargs : c.args.length ≤ 1000000000) :
 Calls Try.prog 18 #[.pointer (some ⟨p, 0, none⟩), .int .i64 x] w (LookPost (shellC r c) c.args w) := by
 have hb0 := below_new w (.cells #[.int .i64 0, .int .i64 0, .string ⟨#[]⟩, .slice none 0 0] 49 (0, 0)); have hn0 := heap_alloc_new w (.cells #[.int .i64 0, .int .i64 0, .string ⟨#[]⟩, .slice none 0 0] 49 (0, 0)); have hrl := (List.getElem?_eq_some_iff.1 hr).1; have HS := Lib.hid (hS.below hb0); have HB := Lib.hid hb0; have HN := Lib.hid hn0; have HX := Lib.hid (dec_yes hc.lt); have HC := Lib.hid hc; have HR := Lib.hid hr; have HL := Lib.hid hlen; have HA := Lib.hid hargs; clear hb0 hn0 hS hc hr hlen hargs
 go_enter Try.func18, Try.ntmps18
 go_wp2_with fail
 refine (sto_there _ HS.out x).mono ?_; rintro e1 w1 ⟨rfl, rfl⟩; rw [HX.out]
 go_wp2_with fail
 refine (sto_fol _ HS.out f x r HC.out).mono ?_; rintro e1 w1 ⟨rfl, rfl⟩; go_wp2; refine wp_region_rest (by kernel_rfl) ?_; have hdr := (HB.out).trans ((Below.refl (w.alloc (.cells #[.int .i64 0, .int .i64 0, .string ⟨#[]⟩, .slice none 0 0] 49 (0, 0))).heap.size (w.alloc (.cells #[.int .i64 0, .int .i64 0, .string ⟨#[]⟩, .slice none 0 0] 49 (0, 0)))).drew.mono HB.out.size); have HS0 := Lib.hid (HS.out.below (Below.refl _ _).drew); have hN0 : (w.alloc (.cells #[.int .i64 0, .int .i64 0, .string ⟨#[]⟩, .slice none 0 0] 49 (0, 0))).drew.heap[w.heap.size]? = _ := HN.out; have hz0 : w.heap.size < (w.alloc (.cells #[.int .i64 0, .int .i64 0, .string ⟨#[]⟩, .slice none 0 0] 49 (0, 0))).drew.heap.size := (Array.getElem?_eq_some_iff.1 hN0).1; have HN0 := Lib.hid hN0; have HB0 := Lib.hid hdr; clear hdr hN0; generalize (w.alloc (.cells #[.int .i64 0, .int .i64 0, .string ⟨#[]⟩, .slice none 0 0] 49 (0, 0))).drew = W0 at *; have hs0 := HS0.out; obtain ⟨cv, bv, A, hrow⟩ := hs0; have HROW := Lib.hid hrow; obtain ⟨g, cap, av, rfl, q1, q2, -⟩ := hrow.cell r hrl; have hx0 : (0 : Int) ≤ (r : Int) := by omega
 have hx1 : (r : Int) < (S.cells.length : Int) := by omega
 obtain ⟨av', -, -, -, hc3, -, -, hav⟩ := hrow.cellAt r c HR.out; have HC3 := Lib.hid hc3; clear hc3; have hpl := hrow.dl p hrow.dp; have hgl := hrow.dl g (hrow.dc g rfl); have HAV := Lib.hid hav; clear hav hrow; refine rest_chainP (fun u => Below W0.heap.size W0 u) 0 12 (.soft 0 (.soft 1 (.soft 3 (.soft 4 (.soft 5 (.soft 6 (.soft 7 (.soft 8 (.soft 9 (.soft 10 (.one 2 (.one 11 .nil)))))))))))) (.soft _ (.soft _ (.soft _ (.soft _ (.soft _ (.soft _ (.soft _ (.soft _ (.soft _ (.soft _ (.one _ (.one _ .nil)))))))))))) ⟨rfl, ⟨rfl, ⟨rfl, ⟨rfl, ⟨rfl, ⟨rfl, ⟨rfl, ⟨rfl, ⟨rfl, ⟨rfl, ⟨rfl, ⟨rfl, trivial⟩⟩⟩⟩⟩⟩⟩⟩⟩⟩⟩⟩ (by kernel_rfl) (by kernel_rfl) (by kernel_rfl) (by kernel_rfl) (.inr (by kernel_rfl)) (Below.refl _ _) ?_; refine cS (a1 := ?ma47) ?mh47 ?mr47
 case mh47 =>
  intro u hu E hE; go_wp2; rfl
 refine cS (a1 := ?ma48) ?mh48 ?mr48
 case mh48 =>
  intro u hu E hE; go_wp2; rfl
 refine cS (a1 := ?ma49) ?mh49 ?mr49
 case mh49 =>
  intro u hu E hE; go_wp2; rfl
 refine chainP_nck _ _ rfl rfl rfl ?_; simp only [Act.put, zA, zB, zC, zD, zE, zF, zG, Nat.reduceAdd]; refine cS (a1 := ?ma50) ?mh50 ?mr50
 case mh50 =>
  intro u hu E hE; go_wp2; rfl
 refine cS (a1 := ?ma51) ?mh51 ?mr51
 case mh51 =>
  intro u hu E hE; obtain ⟨x0, x1, x2⟩ := row3 (HROW.out.below hu).row; go_wp2; rfl
 refine cS (a1 := ?ma52) ?mh52 ?mr52
 case mh52 =>
  intro u hu E hE; go_wp2; rfl
 refine cS (a1 := ?ma53) ?mh53 ?mr53
 case mh53 =>
  intro u hu E hE; go_wp2; rfl
 refine cS (a1 := ?ma54) ?mh54 ?mr54
 case mh54 =>
  intro u hu E hE; go_wp2; rfl
 refine cS (a1 := ?ma55) ?mh55 ?mr55
 case mh55 =>
  intro u hu E hE; have y3 := (hu.cell (p := ⟨g, r * 6 + 3, none⟩) (by show g < _; exact (HROW.out.dl g (HROW.out.dc g rfl)))).trans HC3.out; go_wp2; rfl
 refine chainP_one ?_; intro E hE
 go_wp2_with fail
 refine (sto_shell W0 HS0.out r c HR.out HL.out).mono ?_; rintro e2 w2 ⟨rfl, hb2⟩; go_wp2; refine ⟨hb2, ?_⟩; have HB2 := Lib.hid hb2; clear hb2; refine chainP_one ?_; intro E hE
 go_wp2_with fail
 refine (clone_is (HAV.out.below HB2.out) HA.out).mono ?_; rintro e3 w3 ⟨v3, rfl, hi3, hb3⟩; go_wp2; refine ⟨HB2.out.trans (hb3.mono HB2.out.size), ?_⟩; have hn3 := ((HB2.out.trans (hb3.mono HB2.out.size)).block _ hz0).trans HN0.out; have hbl3 := HB0.out.trans ((HB2.out.trans (hb3.mono HB2.out.size)).mono HB0.out.size); have hsz3 : w.heap.size ≤ w2.heap.size := Nat.le_trans HB0.out.size HB2.out.size; have hs02 : w.heap.size < w2.heap.size := Nat.lt_of_lt_of_le hz0 HB2.out.size; have HN3 := Lib.hid hn3; have HI3 := Lib.hid hi3; have HB3 := Lib.hid hbl3; clear hn3 hi3 hbl3 hb3; refine chainP_nil ?_; refine rest_lineL 12 14 [_, _] rfl (by kernel_rfl) (by decide) (by decide) (by kernel_rfl) ?_
 go_wp2_with (with_reducible show wpList _ _ _ (⟨none, .store _ (.tmp 4) _, _, _, _, _⟩ :: _) _ _
              refine wpList_store_row rfl 49 (.tmp 4) (.tmp 20) rfl w.heap.size #[.int .i64 (shellC r c).k, .int .i64 (shellC r c).n, .string (shellC r c).s, .slice none 0 0] rfl rfl _ _ HN3.out size_term rfl (one4 _ _ _ _ _ _) ?_)
 refine then_rest (rest_end (by decide) ?_); go_wp2; have hz := setRow_heap _ w.heap.size _ #[.int .i64 (shellC r c).k, .int .i64 (shellC r c).n, .string (shellC r c).s, .slice none 0 0] _ _ HN3.out; refine bodyPost_ret (v := .tuple #[aggS (shellC r c), v3]) (Push.results_cell_tmp Try.results18 _ _ w.heap.size _ _ _ _ _ rfl (by simp) hz Try.underlying49 rfl (by kernel_rfl)) rfl ⟨_, rfl, ?_, below_setRow HB3.out (Nat.le_refl _) _⟩; exact HI3.out.move (fun b hb _ => by omega) fun b hb _ => setRow_other _ _ _ _ (by omega)
end Go.Proofs.Ytcbijikalfodnaa.Tms
namespace Go.Proofs.Ytcbijikalfodnaa.Rws
open Go Go.RowKit
section
variable {α : Type} {K : Kind α}
theorem wpList_clear_own {Q : Program} {w : World} {ops : Array Oper} {rest : List Oper} {o : Oper} {a : Act} {E : Exit → Act → World → Prop} (hgd : o.guard = none) (x : Operand) (t : TypeId)
 (ho : o.op = .call { callee := .builtin .clear, args := #[x], argTypes := #[t] }) (ht : Q.underlying t = some (.slice K.T)) (z : Value) (hz : ∀ w, (zeroValue K.T).run Q w = .ok z w) (hzs : z.cells.size = K.sz) (hz1 : ∀ v ∈ z.cells.toList, v.oneCell' = true)
 (base : Nat) (P : Nat → Prop) (l : List α) (g n m cap c' : Nat) (hown : Own K w base P (.slice (some ⟨g, 0, none⟩) n cap) l) (hn : l.length = n) (hm : m < n) (hx : a.eval x = .slice (some ⟨g, m * K.sz, none⟩) (n - m) c')
 (h : ∀ w', Own K w' base P (.slice (some ⟨g, 0, none⟩) m cap) (l.take m) → w.grownBy w' (some g) → w'.heap.size = w.heap.size → wpList Q ops E rest (a.put o.dst (.tuple #[])) w') : wpList Q ops E (o :: rest) a w := by
 refine wpList_plain hgd fun K' hK' => ?_
 obtain ⟨xss, h1, h2⟩ := id hown; obtain ⟨h0, h1⟩ := h1; rcases h1 with ⟨e, -⟩ | ⟨g', cap', cur, e, hb, hg, hc, hmx, hs, htk⟩
 ·cases e
 simp only [Value.slice.injEq, Option.some.injEq, Addr.mk.injEq, and_true] at e; obtain ⟨rfl, e2, rfl⟩ := e; have hlen : (Builtin.zeroCells z.cells (n - m)).toList.length = (n - m) * K.sz := by simp [Builtin.zeroCells, hzs]
 have hsum : m * K.sz + (n - m) * K.sz = n * K.sz := by rw [← Nat.add_mul]; congr 1; omega
 have hcs : n * K.sz ≤ cap * K.sz := Nat.mul_le_mul_right _ (by omega)
 have hone : ∀ v ∈ (Builtin.zeroCells z.cells (n - m)).toList, v.oneCell' = true := by
  intro v hv; simp only [Builtin.zeroCells, Array.toList_map, List.mem_map] at hv; obtain ⟨i, -, rfl⟩ := hv; have hp := K.pos; have hlt : i % z.cells.size < z.cells.size := Nat.mod_lt _ (by omega); rw [getElem!_pos z.cells (i % z.cells.size) hlt]; exact hz1 _ (by simp)
 have hrun := run_storeCells_at (P := Q) g (m * K.sz) K.T (Builtin.zeroCells z.cells (n - m)).toList 0 cur w hg (by rw [hlen]; omega) hone; generalize hW : w.setRow g _ = W at hrun
 have hzrun : (Builtin.clear_ #[t] o.type #[.slice (some ⟨g, m * K.sz, none⟩) (n - m) c']).run Q w = .ok (.tuple #[]) W := by
  obtain ⟨d, hd⟩ : ∃ d, n - m = d + 1 := ⟨n - m - 1, by omega⟩; rw [hd] at hrun ⊢; unfold Builtin.clear_; simp only [List.getElem?_toArray, List.getElem?_cons_zero, Sem.run_bind, run_underlying ht, Result.andThen_ok, hz, hrun, Sem.run_pure]
 unfold Oper.wp execOp; simp only [ho, resolve, invoke, builtin, Sem.run_bind, Sem.run_pure, Result.andThen_ok, List.map_toArray, List.map_cons, List.map_nil, hx, hzrun]; refine hK' _ _ (h W ?_ ?_ ?_)
 ·subst hW
  have hsz : ∀ cs, (w.setRow g cs).heap.size = w.heap.size := fun cs => by simp [World.setRow]
  obtain ⟨yss, ⟨k0, k1⟩, k2⟩ := hown.cut hn (Nat.le_of_lt hm); have hml : (l.take m).length = m := by rw [List.length_take, hn]; omega
  refine ⟨yss, ⟨k0, .inr ⟨g, cap, _, by rw [hml], hb, setRow_heap w g _ _ _ _ hg, by rw [hml]; omega, hmx, ?_, ?_⟩⟩, k2.mono (fun b h => ⟨h.1, h.2.1, by rw [hsz]; exact h.2.2⟩) fun b hb _ => setRow_other w g b _ fun e => hb.2.1 (by simp [Value.ownBlock, e])⟩
  ·have hcl : cur.toList.length = cur.size := by simp
   simp only [List.size_toArray, List.length_append, List.length_take, List.length_drop, hlen, Nat.add_zero, hcl]; omega
  ·rcases k1 with ⟨e, -⟩ | ⟨g', cap', cur', e, -, hg', -, -, -, htk'⟩
   ·cases e
   simp only [Value.slice.injEq, Option.some.injEq, Addr.mk.injEq, and_true] at e; obtain ⟨rfl, -, -⟩ := e; rw [hg] at hg'; simp only [Option.some.injEq, Obj.cells.injEq, and_true] at hg'; subst hg'; rw [← htk', hml]; simp only [Nat.add_zero]; rw [List.append_assoc, List.take_append_of_le_length (by simp; omega), List.take_take, Nat.min_self]
 ·subst hW
  exact ⟨rfl, rfl, rfl, by simp [World.setRow], fun k hk hne => setRow_other w g k _ fun e => hne (by rw [e])⟩
 ·subst hW
  simp [World.setRow]
theorem wpList_clear_none {Q : Program} {w : World} {ops : Array Oper} {rest : List Oper} {o : Oper} {a : Act} {E : Exit → Act → World → Prop} (hgd : o.guard = none) (x : Operand) (t e : TypeId)
 (ho : o.op = .call { callee := .builtin .clear, args := #[x], argTypes := #[t] }) (ht : Q.underlying t = some (.slice e)) (q : Option Addr) (c : Nat) (hx : a.eval x = .slice q 0 c)
 (h : wpList Q ops E rest (a.put o.dst (.tuple #[])) w) : wpList Q ops E (o :: rest) a w := by
 refine wpList_plain hgd fun K' hK' => ?_
 have hrun : (Builtin.clear_ #[t] o.type #[.slice q 0 c]).run Q w = .ok (.tuple #[]) w := by
  unfold Builtin.clear_; cases q <;> simp only [List.getElem?_toArray, List.getElem?_cons_zero, Sem.run_bind, run_underlying ht, Result.andThen_ok, Sem.run_pure]
 unfold Oper.wp execOp; simp only [ho, resolve, invoke, builtin, Sem.run_bind, Sem.run_pure, Result.andThen_ok, List.map_toArray, List.map_cons, List.map_nil, hx, hrun]; exact hK' _ _ h
end
end Go.Proofs.Ytcbijikalfodnaa.Rws
namespace Go.Proofs.Ytcbijikalfodnaa.Tms
open Go Go.RowKit Go.Proofs.Ytcbijikalfodnaa.Reg Go.Proofs.Ytcbijikalfodnaa.Rws
def lastB (l : List (Int × Int)) : Int := match l.getLast? with
 | none => -1
 | some b => b.2
def cutE (S : Sto) (n : Int) : Int := if n < 0 ∨ (S.cells.length : Int) < n then 2 else if n ≤ lastB S.bonds then 14 else if n ≤ lastTop (S.cells.take n.toNat) then 14 else 0
def cutS (S : Sto) (n : Int) : Sto := if cutE S n = 0 then ⟨S.room, S.cells.take n.toNat, S.bonds⟩ else S
def CutPost (S : Sto) (D : Nat → Prop) (p : Nat) (n : Int) (w : World) (e : Ending) (w' : World) : Prop := e = .returned (.int .i64 (cutE S n)) ∧ StoAt w' D p (cutS S n) ∧ Keeps w w' D
theorem lastTop_take {l : List SCell} {c : SCell} (k : Nat) (h : l[k]? = some c) : lastTop (l.take (k + 1)) = c.top := by
 unfold lastTop; obtain ⟨hk, rfl⟩ := List.getElem?_eq_some_iff.1 h; rw [List.take_succ_eq_append_getElem hk, List.getLast?_concat]
theorem sto_take {S : Sto} (n : Nat) (h : S.cells.length ≤ n) : (⟨S.room, S.cells.take n, S.bonds⟩ : Sto) = S := by rw [List.take_of_length_le h]
theorem cut_fin {S : Sto} {D : Nat → Prop} {p m : Nat} {w w' : World} {cv bv : Value} {A : Nat → Prop} (hE : cutE S m = 0) (h : StoRow w' D p ⟨S.room, S.cells.take m, S.bonds⟩ cv bv A) (hk : Keeps w w' D) : CutPost S D p m w (.returned (.int .i64 0)) w' :=
 ⟨by rw [hE], by unfold cutS; rw [if_pos hE]; exact ⟨_, _, _, h⟩, hk⟩
theorem same_fin {S : Sto} {D : Nat → Prop} {p m : Nat} {w w' : World} {cv bv : Value} {A : Nat → Prop} (hE : cutE S m = 0) (hc : cutS S m = S) (h : StoRow w' D p S cv bv A) (hk : Keeps w w' D) : CutPost S D p m w (.returned (.int .i64 0)) w' :=
 ⟨by rw [hE], by rw [hc]; exact ⟨_, _, _, h⟩, hk⟩
theorem StoRow.same1 {w : World} {D : Nat → Prop} {p : Nat} {S : Sto} {cv bv : Value} {A : Nat → Prop} (h : StoRow w D p S cv bv A) : StoRow (w.setCell ⟨p, 1, none⟩ cv) D p S cv bv A ∧ Keeps w (w.setCell ⟨p, 1, none⟩ cv) D := by
 have hs : (w.setCell ⟨p, 1, none⟩ cv).heap.size = w.heap.size := by simp [World.setCell]
 have hh : ∀ k, (w.setCell ⟨p, 1, none⟩ cv).heap[k]? = w.heap[k]? := fun k => by
  by_cases e : k = p
  ·subst e
   have := heap_setCell_same w k 1 _ _ cv h.row; rw [h.row]
   simpa using this
  ·exact Below.heap_setCell _ _ _ _ e
 exact ⟨h.keep (by omega) fun k _ _ => hh k, rfl, rfl, rfl, by omega, fun k _ _ => hh k⟩
theorem StoRow.cutCells {w w1 : World} {D : Nat → Prop} {p : Nat} {S : Sto} {bv : Value} {A : Nat → Prop} {g cap m : Nat} (h : StoRow w D p S (.slice (some ⟨g, 0, none⟩) S.cells.length cap) bv A) (hm : m ≤ S.cells.length)
 (ho : Own cellKind w1 0 A (.slice (some ⟨g, 0, none⟩) m cap) (S.cells.take m)) (hg : w.grownBy w1 (some g)) (hs : w1.heap.size = w.heap.size) :
 (w1.cell? ⟨p, 1, none⟩ = some (.slice (some ⟨g, 0, none⟩) S.cells.length cap) ∧ w1.frozen? ⟨p, 1, none⟩ = false) ∧ StoRow (w1.setCell ⟨p, 1, none⟩ (.slice (some ⟨g, 0, none⟩) m cap)) D p ⟨S.room, S.cells.take m, S.bonds⟩ (.slice (some ⟨g, 0, none⟩) m cap) bv A ∧ Keeps w (w1.setCell ⟨p, 1, none⟩ (.slice (some ⟨g, 0, none⟩) m cap)) D := by
 have hs' : (w1.setCell ⟨p, 1, none⟩ (.slice (some ⟨g, 0, none⟩) m cap)).heap.size = w.heap.size := by simp [World.setCell, hs]
 have hpg : p ≠ g := fun e => h.pc (by rw [e]; rfl)
 have hrow : w1.heap[p]? = _ := (hg.block p (h.dl p h.dp) fun e => hpg (Option.some.inj e)).trans h.row; have keep : ∀ k, k ≠ p → (w1.setCell ⟨p, 1, none⟩ (.slice (some ⟨g, 0, none⟩) m cap)).heap[k]? = w1.heap[k]? := fun k hk => Below.heap_setCell _ _ _ _ hk
 have keep2 : ∀ k, k < w.heap.size → k ≠ p → k ≠ g → (w1.setCell ⟨p, 1, none⟩ (.slice (some ⟨g, 0, none⟩) m cap)).heap[k]? = w.heap[k]? := fun k hlt hk hkg => (keep k hk).trans (hg.block k hlt fun e => hkg (Option.some.inj e))
 have hne : ∀ k, (Value.slice (some ⟨g, 0, none⟩) m cap).ownBlock = some k → bv.ownBlock ≠ some k := fun k hk => h.ne k hk
 refine ⟨⟨cell_of_row w1 p 1 _ _ _ hrow, frozen_of_row w1 p 1 _ _ hrow⟩, ⟨?_, ho.keep (by omega) fun k hk hq => keep k fun e => ?_, h.bonds.keep (by omega) fun k hk hq => keep2 k hk (fun e => ?_) fun e => ?_, hne, h.pc, h.pb, h.ap, h.ab, h.dp, h.dc, h.db, h.da, fun k hk => by have := h.dl k hk; omega⟩, hg.os, hg.tape, hg.output, by omega, fun k hlt hn => keep2 k hlt (fun e => hn (e ▸ h.dp)) fun e => hn (h.dc k (by rw [e]; rfl))⟩
 ·have := heap_setCell_same w1 p 1 _ _ (.slice (some ⟨g, 0, none⟩) m cap) hrow
  simpa using this
 ·subst e
  rcases hq with hq | hq
  ·exact h.ap hq
  ·exact h.pc hq
 ·subst e
  rcases hq with hq | hq
  ·exact hq
  ·exact h.pb hq
 ·subst e
  rcases hq with hq | hq
  ·exact hq
  ·exact h.ne k rfl hq
theorem sto_Cut {S : Sto} {D : Nat → Prop} {p : Nat} (w : World) (hS : StoAt w D p S) (hlen : S.cells.length ≤ 20000000) (hbs : S.bonds.length ≤ 20000000) (n : Int) :
 Calls Try.prog 34 #[.pointer (some ⟨p, 0, none⟩), .int .i64 n] w (CutPost S D p n w) := by
 have hid : ∀ x : Int, cutE S n = x → x ≠ 0 → CutPost S D p n w (.returned (.int .i64 x)) w := fun x h hx => ⟨by rw [h], by unfold cutS; rw [if_neg (by rw [h]; exact hx)]; exact hS, Keeps.refl _ _⟩
 have HID := Lib.hid hid; clear hid; obtain ⟨cv, bv, A, hr⟩ := hS; obtain ⟨q, cap, rfl⟩ := own_form hr.own; obtain ⟨qb, cb, rfl⟩ := own_form hr.bonds; obtain ⟨x0, x1, x2⟩ := row3 hr.row; have HR := Lib.hid hr; clear hr
 by_cases h0 : n < 0
 ·have b0 : decide (n < 0) = true := by simpa using h0
  have hE : cutE S n = 2 := if_pos (.inl h0); have HE := Lib.hid (HID.out 2 hE (by decide)); clear hE h0
  go_enter Try.func34, Try.ntmps34
  go_wp2; go_ret; exact HE.out
 have b0 : decide (n < 0) = false := by simpa using h0
 by_cases h1 : (S.cells.length : Int) < n
 ·have b1 : decide ((S.cells.length : Int) < n) = true := by simpa using h1
  have hE : cutE S n = 2 := if_pos (.inr h1); have HE := Lib.hid (HID.out 2 hE (by decide)); clear hE h1 h0
  go_enter Try.func34, Try.ntmps34
  go_wp2; go_ret; exact HE.out
 have b1 : decide ((S.cells.length : Int) < n) = false := by simpa using h1
 have hE0 : cutE S n = if n ≤ lastB S.bonds then 14 else if n ≤ lastTop (S.cells.take n.toNat) then 14 else 0 := if_neg (by omega)
 obtain ⟨m, rfl⟩ : ∃ m : Nat, n = (m : Int) := ⟨n.toNat, by omega⟩; have hml : m ≤ S.cells.length := by omega
 rw [show ((m : Int)).toNat = m from rfl] at hE0; have HE0 := Lib.hid hE0; clear hE0 h0 h1 b0 b1; have b0 : decide ((m : Int) < 0) = false := by simp
 have b1 : decide ((S.cells.length : Int) < (m : Int)) = false := by simp; omega
 rcases nil_or_snoc S.bonds with hB | ⟨l, b, hB⟩
 ·have hbl : S.bonds.length = 0 := by rw [hB]; rfl
  have hA : ¬ (m : Int) ≤ lastB S.bonds := by rw [hB]; simp [lastB]; omega
  rw [hbl] at x2; have HBL := Lib.hid hbl; have HA := Lib.hid hA; clear hbl hA hB
  by_cases hm0 : m = 0
  ·subst hm0
   have hE : cutE S (0 : Nat) = 0 := by rw [HE0.out, if_neg HA.out]; rfl
   have HE := Lib.hid hE; clear hE
   by_cases hlt : 0 < S.cells.length
   ·obtain ⟨g, rfl⟩ : ∃ g, q = some ⟨g, 0, none⟩ := by
     rcases HR.out.own.form with ⟨-, h⟩ | ⟨g, c, h⟩
     ·rw [h] at hlt; simp at hlt
     ·simp only [Value.slice.injEq] at h; exact ⟨g, h.1⟩
    have hcap : S.cells.length ≤ cap := by have := HR.out.own.caps; omega
    go_enter Try.func34, Try.ntmps34
    go_wp2_with (with_reducible show wpList _ _ _ (⟨none, .call _, _, _, _, _⟩ :: _) _ _
                 refine wpList_clear_own (K := cellKind) rfl (.tmp 59) _ rfl Try.underlying72 (.agg #[.int .i64 0, .int .i64 0, .string ⟨#[]⟩, .slice none 0 0, .int .i64 0, .int .i64 0]) (fun _ => by kernel_rfl) rfl (by decide) 0 A S.cells g S.cells.length 0 cap _ HR.out.own rfl (by omega) rfl ?_; intro w1 hown1 hg1 hs1; obtain ⟨⟨c7, z7⟩, hfin⟩ := HR.out.cutCells (m := 0) (by omega) hown1 hg1 hs1; have HFIN := Lib.hid hfin; clear hfin hown1 hg1 hs1 x0 x1 x2)
    go_ret; exact cut_fin HE.out HFIN.out.1 HFIN.out.2
   have hl0 : S.cells.length = 0 := by omega
   obtain ⟨NN, hNN⟩ : ∃ NN, NN = S.cells.length := ⟨_, rfl⟩; have hsame := HR.out.same1; rw [← hNN] at hsame x1 b1; obtain rfl : NN = 0 := by omega
   have HSAME := Lib.hid hsame; have z1 := frozen_of_row w p 1 _ _ HR.out.row; have hfx : cutS S ((0 : Nat) : Int) = S := by unfold cutS; rw [if_pos HE.out]; exact sto_take _ (by omega)
   have HFX := Lib.hid hfx; clear hsame hl0 hlt hNN hfx
   go_enter Try.func34, Try.ntmps34
   go_wp2_with (with_reducible show wpList _ _ _ (⟨none, .call _, _, _, _, _⟩ :: _) _ _
                refine wpList_clear_none rfl (.tmp 59) _ _ rfl Try.underlying72 _ _ rfl ?_)
   all_goals
    go_ret; exact same_fin HE.out HFX.out HSAME.out.1 HSAME.out.2
  obtain ⟨k, rfl⟩ : ∃ k, m = k + 1 := ⟨m - 1, by omega⟩
  obtain ⟨g, rfl⟩ : ∃ g, q = some ⟨g, 0, none⟩ := by
   rcases HR.out.own.form with ⟨-, h⟩ | ⟨g, c, h⟩
   ·rw [h] at hml; simp at hml
   ·simp only [Value.slice.injEq] at h; exact ⟨g, h.1⟩
  obtain ⟨cl, hcl⟩ : ∃ cl, S.cells[k]? = some cl := ⟨_, List.getElem?_eq_getElem (by omega)⟩; obtain ⟨av, -, -, -, -, -, c5, -⟩ := HR.out.cellAt k cl hcl; have hkt := lastTop_take k hcl; have hcap : S.cells.length ≤ cap := by have := HR.out.own.caps; omega
  clear b0 b1; have b0 : decide ((k : Int) + 1 < 0) = false := by simp; omega
  have b1 : decide ((S.cells.length : Int) < (k : Int) + 1) = false := by simp; omega
  by_cases hB0 : ((k + 1 : Nat) : Int) ≤ cl.top
  ·have hE : cutE S ((k + 1 : Nat) : Int) = 14 := by rw [HE0.out, if_neg HA.out, hkt]; exact if_pos hB0
   have bB : decide ((k : Int) + 1 ≤ cl.top) = true := by simp; omega
   have HE := Lib.hid (HID.out 14 hE (by decide)); clear hE hkt hcl hB0 hm0
   go_enter Try.func34, Try.ntmps34
   go_wp2; go_ret; exact HE.out
  have hE : cutE S ((k + 1 : Nat) : Int) = 0 := by rw [HE0.out, if_neg HA.out, hkt]; exact if_neg hB0
  have bB : decide ((k : Int) + 1 ≤ cl.top) = false := by simp; omega
  have HE := Lib.hid hE; clear hE hkt hcl hB0 hm0
  by_cases hlt : k + 1 < S.cells.length
  ·have hne : ¬ cap = k + 1 := by omega
   go_enter Try.func34, Try.ntmps34
   go_wp2_with (with_reducible show wpList _ _ _ (⟨none, .call _, _, _, _, _⟩ :: _) _ _
                refine wpList_clear_own (K := cellKind) rfl (.tmp 59) _ rfl Try.underlying72 (.agg #[.int .i64 0, .int .i64 0, .string ⟨#[]⟩, .slice none 0 0, .int .i64 0, .int .i64 0]) (fun _ => by kernel_rfl) rfl (by decide) 0 A S.cells g S.cells.length (k + 1) cap _ HR.out.own rfl (by omega) rfl ?_; intro w1 hown1 hg1 hs1; obtain ⟨⟨c7, z7⟩, hfin⟩ := HR.out.cutCells (m := k + 1) (by omega) hown1 hg1 hs1; have HFIN := Lib.hid hfin; clear hfin hown1 hg1 hs1 x0 x1 x2)
   go_ret; exact cut_fin HE.out HFIN.out.1 HFIN.out.2
  obtain ⟨NN, hNN⟩ : ∃ NN, NN = S.cells.length := ⟨_, rfl⟩; have hsame := HR.out.same1; rw [← hNN] at hsame x1 b1 hcap; obtain rfl : NN = k + 1 := by omega
  have HSAME := Lib.hid hsame; have z1 := frozen_of_row w p 1 _ _ HR.out.row; have hfx : cutS S ((k + 1 : Nat) : Int) = S := by unfold cutS; rw [if_pos HE.out]; exact sto_take _ (by omega)
  have HFX := Lib.hid hfx; have hk2 : k + 1 ≤ 20000000 := by omega
  clear hsame hlt hNN hfx
  by_cases hcc : cap = k + 1
  ·subst hcc
   go_enter Try.func34, Try.ntmps34
   go_wp2_with (with_reducible show wpList _ _ _ (⟨none, .call _, _, _, _, _⟩ :: _) _ _
                refine wpList_clear_none rfl (.tmp 59) _ _ rfl Try.underlying72 _ _ rfl ?_)
   all_goals
    go_ret; exact same_fin HE.out HFX.out HSAME.out.1 HSAME.out.2
  go_enter Try.func34, Try.ntmps34
  go_wp2_with (with_reducible show wpList _ _ _ (⟨none, .call _, _, _, _, _⟩ :: _) _ _
               refine wpList_clear_none rfl (.tmp 59) _ _ rfl Try.underlying72 _ _ rfl ?_)
  all_goals
   go_ret; exact same_fin HE.out HFX.out HSAME.out.1 HSAME.out.2
 ·by_cases hA0 : (m : Int) ≤ b.2
  ·have hbl : S.bonds.length = l.length + 1 := by rw [hB]; simp
   have hlb : lastB S.bonds = b.2 := by rw [hB]; simp [lastB]
   obtain ⟨gb, rfl⟩ : ∃ gb, qb = some ⟨gb, 0, none⟩ := by
    rcases HR.out.bonds.form with ⟨-, h⟩ | ⟨g, c, h⟩
    ·rw [h] at hB; simp at hB
    ·simp only [Value.slice.injEq] at h; exact ⟨g, h.1⟩
   obtain ⟨-, d1⟩ := HR.out.bondAt l.length b (by rw [hB]; simp); have hlb2 : l.length + 1 ≤ 20000000 := by omega
   have hcb : l.length + 1 ≤ cb := by have := HR.out.bonds.caps; omega
   rw [hbl] at x2; have hE : cutE S m = 14 := by rw [HE0.out, hlb]; exact if_pos hA0
   have bA : decide ((m : Int) ≤ b.2) = true := by simpa using hA0
   have HE := Lib.hid (HID.out 14 hE (by decide)); clear hbl hB hlb hA0 hE
   go_enter Try.func34, Try.ntmps34
   go_wp2; go_ret; exact HE.out
  have hbl : S.bonds.length = l.length + 1 := by rw [hB]; simp
  have hlb : lastB S.bonds = b.2 := by rw [hB]; simp [lastB]
  obtain ⟨gb, rfl⟩ : ∃ gb, qb = some ⟨gb, 0, none⟩ := by
   rcases HR.out.bonds.form with ⟨-, h⟩ | ⟨g, c, h⟩
   ·rw [h] at hB; simp at hB
   ·simp only [Value.slice.injEq] at h; exact ⟨g, h.1⟩
  obtain ⟨-, d1⟩ := HR.out.bondAt l.length b (by rw [hB]; simp); have hlb2 : l.length + 1 ≤ 20000000 := by omega
  have hcb : l.length + 1 ≤ cb := by have := HR.out.bonds.caps; omega
  rw [hbl] at x2; have hA : ¬ (m : Int) ≤ lastB S.bonds := by rw [hlb]; exact hA0
  have HA0 := Lib.hid hA0; have HBL := Lib.hid hbl; have HA := Lib.hid hA; clear hbl hA hB hlb hA0
  by_cases hm0 : m = 0
  ·subst hm0
   have hE : cutE S (0 : Nat) = 0 := by rw [HE0.out, if_neg HA.out]; rfl
   have HE := Lib.hid hE; clear hE; have bA : decide ((0 : Int) ≤ b.2) = false := by have := HA0.out; simp; omega
   by_cases hlt : 0 < S.cells.length
   ·obtain ⟨g, rfl⟩ : ∃ g, q = some ⟨g, 0, none⟩ := by
     rcases HR.out.own.form with ⟨-, h⟩ | ⟨g, c, h⟩
     ·rw [h] at hlt; simp at hlt
     ·simp only [Value.slice.injEq] at h; exact ⟨g, h.1⟩
    have hcap : S.cells.length ≤ cap := by have := HR.out.own.caps; omega
    go_enter Try.func34, Try.ntmps34
    go_wp2_with (with_reducible show wpList _ _ _ (⟨none, .call _, _, _, _, _⟩ :: _) _ _
                 refine wpList_clear_own (K := cellKind) rfl (.tmp 59) _ rfl Try.underlying72 (.agg #[.int .i64 0, .int .i64 0, .string ⟨#[]⟩, .slice none 0 0, .int .i64 0, .int .i64 0]) (fun _ => by kernel_rfl) rfl (by decide) 0 A S.cells g S.cells.length 0 cap _ HR.out.own rfl (by omega) rfl ?_; intro w1 hown1 hg1 hs1; obtain ⟨⟨c7, z7⟩, hfin⟩ := HR.out.cutCells (m := 0) (by omega) hown1 hg1 hs1; have HFIN := Lib.hid hfin; clear hfin hown1 hg1 hs1 x0 x1 x2)
    go_ret; exact cut_fin HE.out HFIN.out.1 HFIN.out.2
   have hl0 : S.cells.length = 0 := by omega
   obtain ⟨NN, hNN⟩ : ∃ NN, NN = S.cells.length := ⟨_, rfl⟩; have hsame := HR.out.same1; rw [← hNN] at hsame x1 b1; obtain rfl : NN = 0 := by omega
   have HSAME := Lib.hid hsame; have z1 := frozen_of_row w p 1 _ _ HR.out.row; have hfx : cutS S ((0 : Nat) : Int) = S := by unfold cutS; rw [if_pos HE.out]; exact sto_take _ (by omega)
   have HFX := Lib.hid hfx; clear hsame hl0 hlt hNN hfx
   go_enter Try.func34, Try.ntmps34
   go_wp2_with (with_reducible show wpList _ _ _ (⟨none, .call _, _, _, _, _⟩ :: _) _ _
                refine wpList_clear_none rfl (.tmp 59) _ _ rfl Try.underlying72 _ _ rfl ?_)
   all_goals
    go_ret; exact same_fin HE.out HFX.out HSAME.out.1 HSAME.out.2
  obtain ⟨k, rfl⟩ : ∃ k, m = k + 1 := ⟨m - 1, by omega⟩
  obtain ⟨g, rfl⟩ : ∃ g, q = some ⟨g, 0, none⟩ := by
   rcases HR.out.own.form with ⟨-, h⟩ | ⟨g, c, h⟩
   ·rw [h] at hml; simp at hml
   ·simp only [Value.slice.injEq] at h; exact ⟨g, h.1⟩
  obtain ⟨cl, hcl⟩ : ∃ cl, S.cells[k]? = some cl := ⟨_, List.getElem?_eq_getElem (by omega)⟩; obtain ⟨av, -, -, -, -, -, c5, -⟩ := HR.out.cellAt k cl hcl; have hkt := lastTop_take k hcl; have hcap : S.cells.length ≤ cap := by have := HR.out.own.caps; omega
  clear b0 b1; have b0 : decide ((k : Int) + 1 < 0) = false := by simp; omega
  have b1 : decide ((S.cells.length : Int) < (k : Int) + 1) = false := by simp; omega
  have bA : decide ((k : Int) + 1 ≤ b.2) = false := by have := HA0.out; simp; omega
  by_cases hB0 : ((k + 1 : Nat) : Int) ≤ cl.top
  ·have hE : cutE S ((k + 1 : Nat) : Int) = 14 := by rw [HE0.out, if_neg HA.out, hkt]; exact if_pos hB0
   have bB : decide ((k : Int) + 1 ≤ cl.top) = true := by simp; omega
   have HE := Lib.hid (HID.out 14 hE (by decide)); clear hE hkt hcl hB0 hm0
   go_enter Try.func34, Try.ntmps34
   go_wp2; go_ret; exact HE.out
  have hE : cutE S ((k + 1 : Nat) : Int) = 0 := by rw [HE0.out, if_neg HA.out, hkt]; exact if_neg hB0
  have bB : decide ((k : Int) + 1 ≤ cl.top) = false := by simp; omega
  have HE := Lib.hid hE; clear hE hkt hcl hB0 hm0
  by_cases hlt : k + 1 < S.cells.length
  ·have hne : ¬ cap = k + 1 := by omega
   go_enter Try.func34, Try.ntmps34
   go_wp2_with (with_reducible show wpList _ _ _ (⟨none, .call _, _, _, _, _⟩ :: _) _ _
                refine wpList_clear_own (K := cellKind) rfl (.tmp 59) _ rfl Try.underlying72 (.agg #[.int .i64 0, .int .i64 0, .string ⟨#[]⟩, .slice none 0 0, .int .i64 0, .int .i64 0]) (fun _ => by kernel_rfl) rfl (by decide) 0 A S.cells g S.cells.length (k + 1) cap _ HR.out.own rfl (by omega) rfl ?_; intro w1 hown1 hg1 hs1; obtain ⟨⟨c7, z7⟩, hfin⟩ := HR.out.cutCells (m := k + 1) (by omega) hown1 hg1 hs1; have HFIN := Lib.hid hfin; clear hfin hown1 hg1 hs1 x0 x1 x2)
   go_ret; exact cut_fin HE.out HFIN.out.1 HFIN.out.2
  obtain ⟨NN, hNN⟩ : ∃ NN, NN = S.cells.length := ⟨_, rfl⟩; have hsame := HR.out.same1; rw [← hNN] at hsame x1 b1 hcap; obtain rfl : NN = k + 1 := by omega
  have HSAME := Lib.hid hsame; have z1 := frozen_of_row w p 1 _ _ HR.out.row; have hfx : cutS S ((k + 1 : Nat) : Int) = S := by unfold cutS; rw [if_pos HE.out]; exact sto_take _ (by omega)
  have HFX := Lib.hid hfx; have hk2 : k + 1 ≤ 20000000 := by omega
  clear hsame hlt hNN hfx
  by_cases hcc : cap = k + 1
  ·subst hcc
   go_enter Try.func34, Try.ntmps34
   go_wp2_with (with_reducible show wpList _ _ _ (⟨none, .call _, _, _, _, _⟩ :: _) _ _
                refine wpList_clear_none rfl (.tmp 59) _ _ rfl Try.underlying72 _ _ rfl ?_)
   all_goals
    go_ret; exact same_fin HE.out HFX.out HSAME.out.1 HSAME.out.2
  go_enter Try.func34, Try.ntmps34
  go_wp2_with (with_reducible show wpList _ _ _ (⟨none, .call _, _, _, _, _⟩ :: _) _ _
               refine wpList_clear_none rfl (.tmp 59) _ _ rfl Try.underlying72 _ _ rfl ?_)
  all_goals
   go_ret; exact same_fin HE.out HFX.out HSAME.out.1 HSAME.out.2
end Go.Proofs.Ytcbijikalfodnaa.Tms
