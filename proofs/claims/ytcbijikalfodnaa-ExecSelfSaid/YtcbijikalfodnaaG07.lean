/-
  Layer texts, glued and made small.
-/
import Derived.Test.YtcbijikalfodnaaG06
import Derived.Laws.EntriesVeiled
import Derived.Deep.QuietTactic
import Derived.BigQuiet
import Derived.Laws.Cover1
set_option linter.unusedVariables false
set_option linter.unusedSimpArgs false
set_option maxRecDepth 100000
set_option maxHeartbeats 4000000
namespace Go.Proofs.Ytcbijikalfodnaa.Tms
open Go Go.RowKit Go.Proofs.Ytcbijikalfodnaa.Reg Go.Proofs.Ytcbijikalfodnaa.Rws Go.Proofs.Ytcbijikalfodnaa.Cod Go.Proofs.Ytcbijikalfodnaa.Maps
theorem row5 {w : World} {g : Nat} {y0 y1 y2 y3 y4 : Value} {T : TypeId} {fr : Nat × Nat} (h : w.heap[g]? = some (.cells #[y0, y1, y2, y3, y4] T fr)) :
 w.cell? ⟨g, 0, none⟩ = some y0 ∧ w.cell? ⟨g, 1, none⟩ = some y1 ∧ w.cell? ⟨g, 2, none⟩ = some y2 ∧ w.cell? ⟨g, 3, none⟩ = some y3 ∧ w.cell? ⟨g, 4, none⟩ = some y4 :=
 ⟨cell_of_row w g 0 _ _ _ h, cell_of_row w g 1 _ _ _ h, cell_of_row w g 2 _ _ _ h, cell_of_row w g 3 _ _ _ h, cell_of_row w g 4 _ _ _ h⟩
theorem size_code : (Try.prog.info? 30).map (·.size) = some 5 := by kernel_rfl
theorem one5 (s : ByteArray) (x y z : Int) (a : Option Addr) (l c : Nat) : (#[Value.string s, .int .i64 x, .int .i64 y, .int .i64 z, .slice a l c].all fun v => v.oneCell') = true := by simp [Value.oneCell']
theorem each_ins {w : World} {P : Nat → Prop} : ∀ {xss : List (List Value)} {L : List Ins}, Each insKind w P xss L → ∀ j (h : j < L.length), ∀ k < 4, xss.flatten[j * 4 + k]? = [Value.int .i64 L[j].op, .int .i64 L[j].a, .int .i64 L[j].n, .string L[j].s][k]?
 | [], [], _, j, h, _, _ => by simp at h
 | x :: xss, i :: L, he, j, h, k, hk => by
   have h1 : x = [.int .i64 i.op, .int .i64 i.a, .int .i64 i.n, .string i.s] := he.1; cases j with
   | zero =>
     subst h1; rw [List.flatten_cons, List.getElem?_append_left (by simp; omega)]
     simp
   | succ j =>
     have ih := each_ins he.2 j (by simpa using h) k hk; subst h1; rw [List.flatten_cons, List.getElem?_append_right (by simp; omega)]; simp only [List.length_cons, List.length_nil, Nat.zero_add, List.getElem_cons_succ]; rw [← ih]
     congr 1
     omega
 | [], _ :: _, h, _, _, _, _ => h.elim
 | _ :: _, [], h, _, _, _, _ => h.elim
theorem own_ins {w : World} {base : Nat} {P : Nat → Prop} {lv : Value} {L : List Ins} (h : Own insKind w base P lv L) : InsSl w lv L := by
 rcases h.form with ⟨rfl, e⟩ | ⟨g, c, rfl⟩
 ·subst e
  exact InsSl.nil _ _ _
 ·obtain ⟨xss, h1, h2⟩ := h
  refine ⟨_, _, rfl, fun j hj => ⟨g, 0, rfl, ?_⟩⟩; have he := each_ins h2 j hj; have hc := fun k (hk : k < 4) => (h1.cellAt (j * 4 + k) (show j * 4 + k < L.length * 4 by omega)).trans (he k hk)
  exact ⟨by rw [Nat.zero_add]; exact hc 0 (by omega), by rw [Nat.zero_add]; exact hc 1 (by omega), by rw [Nat.zero_add]; exact hc 2 (by omega), by rw [Nat.zero_add]; exact hc 3 (by omega)⟩
theorem PutRow.setNb {C : PutC} {S : List Int} {L : List Ins} {lv : Value} {w : World} (h : PutRow C S L lv w) (x : Int) : PutRow { C with nb := x } S L lv (w.setCell ⟨C.cb, 3, none⟩ (.int .i64 x)) ∧ Keeps w (w.setCell ⟨C.cb, 3, none⟩ (.int .i64 x)) (PMine C w) := by
 have keep : ∀ b, b ≠ C.cb → (w.setCell ⟨C.cb, 3, none⟩ (.int .i64 x)).heap[b]? = w.heap[b]? := fun b hne => Below.heap_setCell _ _ _ _ hne
 have hsz : (w.setCell ⟨C.cb, 3, none⟩ (.int .i64 x)).heap.size = w.heap.size := by simp [World.setCell]
 refine ⟨⟨(keep _ h.pc).trans h.prow, ?_, h.times.below (keep _ fun e => h.ct e.symm), h.slots.below (keep _ fun e => h.cs e.symm), h.own.keep (by omega) fun b hlt hq => ?_, h.ne, h.lp, h.lc, h.lt, h.ls, by have := h.base; show C.base ≤ _; omega⟩, rfl, rfl, rfl, by omega, fun b hlt hn => keep b fun e => hn (.inl e)⟩
 ·have := heap_setCell_same w C.cb 3 _ _ (.int .i64 x) h.crow
  simpa using this
 ·rcases hq with hq | hq
  ·exact hq.elim
  ·exact keep b fun e => h.nown h.lc (by rw [hq, e])
theorem PutRow.setNs {C : PutC} {S : List Int} {L : List Ins} {lv : Value} {w : World} (h : PutRow C S L lv w) (x : Int) : PutRow { C with ns := x } S L lv (w.setCell ⟨C.cb, 2, none⟩ (.int .i64 x)) ∧ Keeps w (w.setCell ⟨C.cb, 2, none⟩ (.int .i64 x)) (PMine C w) := by
 have keep : ∀ b, b ≠ C.cb → (w.setCell ⟨C.cb, 2, none⟩ (.int .i64 x)).heap[b]? = w.heap[b]? := fun b hne => Below.heap_setCell _ _ _ _ hne
 have hsz : (w.setCell ⟨C.cb, 2, none⟩ (.int .i64 x)).heap.size = w.heap.size := by simp [World.setCell]
 refine ⟨⟨(keep _ h.pc).trans h.prow, ?_, h.times.below (keep _ fun e => h.ct e.symm), h.slots.below (keep _ fun e => h.cs e.symm), h.own.keep (by omega) fun b hlt hq => ?_, h.ne, h.lp, h.lc, h.lt, h.ls, by have := h.base; show C.base ≤ _; omega⟩, rfl, rfl, rfl, by omega, fun b hlt hn => keep b fun e => hn (.inl e)⟩
 ·have := heap_setCell_same w C.cb 2 _ _ (.int .i64 x) h.crow
  simpa using this
 ·rcases hq with hq | hq
  ·exact hq.elim
  ·exact keep b fun e => h.nown h.lc (by rw [hq, e])
def zeroCod : Cod := ⟨⟨#[]⟩, 0, 0, 0, []⟩
def oneB (D : List Int) (n : Int) : Bool := D.count n == 1
def compC (h b : Tm) : Cod :=
 ⟨h.s, h.args.length, (patT (oneB (occT h ++ occT b)) (patL (oneB (occT h ++ occT b)) [] h.args).2 b).2.length, (patL (oneB (occT h ++ occT b)) [] h.args).1.length,
   (patL (oneB (occT h ++ occT b)) [] h.args).1 ++ (patT (oneB (occT h ++ occT b)) (patL (oneB (occT h ++ occT b)) [] h.args).2 b).1⟩
def compE (h b : Tm) : Cod × Int :=
 if checkT h ≠ 0 then (zeroCod, checkT h) else if checkT b ≠ 0 then (zeroCod, checkT b) else if h.k ≠ 3 ∧ h.k ≠ 4 then (zeroCod, 2) else if 20000 < h.size + b.size then (zeroCod, 3) else (compC h b, 0)
theorem oneOf_cnt (D : List Int) : oneOf (cntMC D) = oneB D := by
 funext n
 unfold oneOf oneB; rw [get_cntM]
 by_cases h : D.count n = 1
 ·simp [h]
 ·have h2 : ¬ ((D.count n : Nat) : Int) = 1 := by omega
  rw [beq_false_of_ne h2, beq_false_of_ne h]
abbrev codV (c : Cod) (vs : Value) : Value := .agg #[.string c.name, .int .i64 c.args, .int .i64 c.slots, .int .i64 c.body, vs]
def slBlk : Value → Option Nat
 | .slice (some a) _ _ => some a.block
 | _ => none
def CplPostP (r : Cod × Int) (w : World) (e : Ending) (w' : World) : Prop := ∃ vs, e = .returned (.tuple #[codV r.1 vs, .int .i64 r.2]) ∧ InsSl w' vs r.1.l ∧ Below w.heap.size w w' ∧ ∀ b, slBlk vs = some b → w.heap.size ≤ b
def CplPost (r : Cod × Int) (w : World) (e : Ending) (w' : World) : Prop := ∃ vs, e = .returned (.tuple #[codV r.1 vs, .int .i64 r.2]) ∧ InsSl w' vs r.1.l ∧ Below w.heap.size w w'
abbrev zero5 : Array Value := #[.string ⟨#[]⟩, .int .i64 0, .int .i64 0, .int .i64 0, .slice none 0 0]
structure CpCtx (w : World) (h b : Tm) (a1 : Option Addr) (c1 : Nat) (a2 : Option Addr) (c2 : Nat) (cs : Array Value) (wr : World) : Prop where
 hb : wr.heap[w.heap.size]? = some (rowT h a1 c1)
 bb : wr.heap[w.heap.size + 1]? = some (rowT b a2 c2)
 rs : wr.heap[w.heap.size + 2]? = some (.cells cs 30 (0, 0))
 bel : Below w.heap.size w wr
 big : w.heap.size + 3 ≤ wr.heap.size
theorem CpCtx.on {w : World} {h b : Tm} {a1 : Option Addr} {c1 : Nat} {a2 : Option Addr} {c2 : Nat} {cs : Array Value} {wr w' : World} (hc : CpCtx w h b a1 c1 a2 c2 cs wr) (hb : Below wr.heap.size wr w') : CpCtx w h b a1 c1 a2 c2 cs w' := by
 have := hc.big; exact ⟨(hb.block _ (by omega)).trans hc.hb, (hb.block _ (by omega)).trans hc.bb, (hb.block _ (by omega)).trans hc.rs, hc.bel.trans (hb.mono hc.bel.size), Nat.le_trans hc.big hb.size⟩
theorem CpCtx.start (w : World) (h b : Tm) (a1 : Option Addr) (c1 : Nat) (a2 : Option Addr) (c2 : Nat) : CpCtx w h b a1 c1 a2 c2 zero5 (((w.alloc (rowT h a1 c1)).alloc (rowT b a2 c2)).alloc (.cells zero5 30 (0, 0))) := by
 obtain ⟨t0, t1, tsz, tbl⟩ := two w (rowT h a1 c1) (rowT b a2 c2); generalize (w.alloc (rowT h a1 c1)).alloc (rowT b a2 c2) = w2 at *; have hb := below_new w2 (.cells zero5 30 (0, 0)); have hn := heap_alloc_new w2 (.cells zero5 30 (0, 0)); rw [tsz] at hn; exact ⟨(hb.block _ (by omega)).trans t0, (hb.block _ (by omega)).trans t1, hn, tbl.trans (hb.mono tbl.size), by simp; omega⟩
theorem CpCtx.keeps {w : World} {h b : Tm} {a1 : Option Addr} {c1 : Nat} {a2 : Option Addr} {c2 : Nat} {cs : Array Value} {wr w' : World} {M : Nat → Prop} (hc : CpCtx w h b a1 c1 a2 c2 cs wr) (hb : Keeps wr w' M) (hM : ∀ b, M b → w.heap.size + 3 ≤ b) : CpCtx w h b a1 c1 a2 c2 cs w' := by
 have := hc.big; have keep : ∀ b, b < w.heap.size + 3 → w'.heap[b]? = wr.heap[b]? := fun b hlt => hb.block b (by omega) fun e => by have := hM b e; omega
 exact ⟨(keep _ (by omega)).trans hc.hb, (keep _ (by omega)).trans hc.bb, (keep _ (by omega)).trans hc.rs, hc.bel.trans ⟨hb.os, hb.tape, hb.output, hb.size, fun b hlt => keep b (by omega)⟩, Nat.le_trans hc.big hb.size⟩
abbrev crowO (nm : ByteArray) (na ns nb : Int) (lv : Value) : Obj := .cells #[.string nm, .int .i64 na, .int .i64 ns, .int .i64 nb, lv] 30 (0, 0)
abbrev prowO (tb sb cb : Nat) : Obj := .cells #[.map (some tb), .map (some sb), .func (.func 39) #[] #[.pointer (some ⟨cb, 0, none⟩)]] 99 (0, 0)
structure Four (w w4 : World) (nm : ByteArray) (na : Int) : Prop where
 bel : Below w.heap.size w w4
 size : w4.heap.size = w.heap.size + 4
 crow : w4.heap[w.heap.size]? = some (crowO nm na 0 0 (.slice none 0 0))
 tb : IMap w4 (w.heap.size + 1) []
 sb : IMap w4 (w.heap.size + 1 + 1) []
 prow : w4.heap[w.heap.size + 1 + 1 + 1]? = some (prowO (w.heap.size + 1) (w.heap.size + 1 + 1) w.heap.size)
theorem cp_four (w : World) (nm : ByteArray) (na : Int) : Four w ((((w.alloc (crowO nm na 0 0 (.slice none 0 0))).alloc (.map #[] 0)).alloc (.map #[] 0)).alloc (prowO (w.heap.size + 1) (w.heap.size + 1 + 1) w.heap.size)) nm na := by
 obtain ⟨t0, t1, tsz, tbl⟩ := two w (crowO nm na 0 0 (.slice none 0 0)) (.map #[] 0); generalize (w.alloc (crowO nm na 0 0 (.slice none 0 0))).alloc (.map #[] 0) = w2 at *; obtain ⟨u0, u1, usz, ubl⟩ := two w2 (.map #[] 0) (prowO (w.heap.size + 1) (w.heap.size + 1 + 1) w.heap.size); generalize (w2.alloc (.map #[] 0)).alloc (prowO (w.heap.size + 1) (w.heap.size + 1 + 1) w.heap.size) = w4 at *; rw [tsz] at u0 u1; exact ⟨tbl.trans (ubl.mono tbl.size), by omega, (ubl.block _ (by omega)).trans t0, ⟨#[], 0, (ubl.block _ (by omega)).trans t1, rfl⟩, ⟨#[], 0, u0, rfl⟩, u1⟩
def CplRel (C : PutC) (ts : List Tm) (w : World) (vi : Value) (wr : World) : Prop :=
 ∃ q : Nat, q ≤ ts.length ∧ vi = .int .i64 q ∧ Did C (patL (oneOf C.T) [] (ts.take q)).2 (patL (oneOf C.T) [] (ts.take q)).1 w wr
theorem cp_put {w5 w4 w7 : World} {nm : ByteArray} {na : Int} {D : List Int} (h4 : Four w5 w4 nm na) (hk : Keeps w4 w7 (fun b => b = w5.heap.size + 1)) (hi : IMap w7 (w5.heap.size + 1) (cntMC D)) :
 PutAt ⟨w7.heap.size, w5.heap.size + 1 + 1 + 1, w5.heap.size, w5.heap.size + 1, w5.heap.size + 1 + 1, nm, na, 0, 0, cntMC D⟩ [] [] w7 ∧
  ∀ b, PMine ⟨w7.heap.size, w5.heap.size + 1 + 1 + 1, w5.heap.size, w5.heap.size + 1, w5.heap.size + 1 + 1, nm, na, 0, 0, cntMC D⟩ w7 b → w5.heap.size ≤ b := by
 have hz := h4.size; have hz7 := hk.size; have hc : w7.heap[w5.heap.size]? = _ := (hk.block _ (by omega) (by omega)).trans h4.crow; have hp : w7.heap[w5.heap.size + 1 + 1 + 1]? = _ := (hk.block _ (by omega) (by omega)).trans h4.prow; have l0 : w5.heap.size < w7.heap.size := by omega
 have l1 : w5.heap.size + 1 < w7.heap.size := by omega
 have l2 : w5.heap.size + 1 + 1 < w7.heap.size := by omega
 have l3 : w5.heap.size + 1 + 1 + 1 < w7.heap.size := by omega
 refine ⟨⟨.slice none 0 0, hp, hc, hi, h4.sb.below (hk.block _ (by omega) (by omega)), Own.nil _ _ _, by simp, l3, l0, l1, l2, Nat.le_refl _⟩, fun b hb => ?_⟩; rcases hb with rfl | rfl | ⟨lv, hl, hb⟩
 ·exact Nat.le_refl _
 ·show w5.heap.size ≤ w5.heap.size + 1 + 1; omega
 ·rw [cell_of_row w7 w5.heap.size 4 _ _ _ hc] at hl
  obtain rfl := Option.some.inj hl; cases hb
theorem cpl_zero {w : World} {h b : Tm} {a1 : Option Addr} {c1 : Nat} {a2 : Option Addr} {c2 : Nat} {cs : Array Value} {wr : World} (x : Int) (hc : CpCtx w h b a1 c1 a2 c2 cs wr) :
 CplPostP (zeroCod, x) w (.returned (.tuple #[.agg zero5, .int .i64 x])) (wr.setRow (w.heap.size + 2) zero5) :=
 ⟨_, rfl, InsSl.nil _ _ _, below_setRow hc.bel (by omega) _, fun b e => nomatch e⟩
theorem go_CompileP (h b : Tm) (v1 v2 : Value) (P1 P2 : Nat → Prop) (w : World) (hM1 : h.size ≤ 1000000000) (hM2 : b.size ≤ 1000000000) (h1 : IsTm w P1 v1 h) (h2 : IsTm w P2 v2 b) :
 Calls Try.prog 16 #[v1, v2] w (CplPostP (compE h b) w) := by
 replace h1 := h1.lt; replace h2 := h2.lt; obtain ⟨a1, d1, rfl⟩ := h1.form; obtain ⟨a2, d2, rfl⟩ := h2.form; have hst := CpCtx.start w h b a1 d1 a2 d2; obtain ⟨x0, x1, x2, x3⟩ := row4 hst.hb; have H1 := Lib.hid h1; have H2 := Lib.hid h2; have HC := Lib.hid hst; clear h1 h2 hst; have hsn := fun (w : World) (a : Addr) (m : Mode) => run_store Try.prog w a .nilFunc m rfl
 have hsf := fun (w : World) (a : Addr) (m : Mode) f (x y : Array Value) => run_store Try.prog w a (.func f x y) m rfl
 go_enter Try.func16, Try.ntmps16
 go_wp2_with fail
 refine (tm_Check h _ _ _ hM1 (H1.out.below HC.out.bel)).mono ?_; rintro e2 w2 ⟨rfl, hb2⟩; replace HC := Lib.hid (HC.out.on hb2); clear hb2 x0 x1 x2 x3
 by_cases k1 : checkT h = 0
 case neg =>
  have b1 : (checkT h != 0) = true := by simpa using k1
  have hr : compE h b = (zeroCod, checkT h) := if_pos k1; have HR := Lib.hid hr; clear hr k1
  go_wp2_with (with_reducible show wpList _ _ _ (⟨none, .store _ (.tmp 4) _, _, _, _, _⟩ :: _) _ _
               refine wpList_store_row rfl 30 (.tmp 4) (.tmp 16) rfl (w.heap.size + 2) zero5 rfl rfl _ _ HC.out.rs size_code rfl (one5 _ _ _ _ _ _ _) ?_)
  have hz := setRow_heap w2 (w.heap.size + 2) _ zero5 _ _ HC.out.rs; exact bodyPost_ret (v := .tuple #[.agg zero5, .int .i64 (checkT h)]) (Push.results_cell_tmp Try.results16 _ _ (w.heap.size + 2) _ _ _ _ _ rfl (by simp) hz Try.underlying30 rfl (by kernel_rfl)) rfl (by rw [HR.out]; exact cpl_zero _ HC.out)
 rw [k1]; obtain ⟨x0, x1, x2, x3⟩ := row4 HC.out.bb
 go_wp2_with fail
 refine (tm_Check b _ _ _ hM2 (H2.out.below HC.out.bel)).mono ?_; rintro e3 w3 ⟨rfl, hb3⟩; replace HC := Lib.hid (HC.out.on hb3); clear hb3 x0 x1 x2 x3
 by_cases k2 : checkT b = 0
 case neg =>
  have b2 : (checkT b != 0) = true := by simpa using k2
  have hr : compE h b = (zeroCod, checkT b) := by unfold compE; rw [if_neg (by simpa using k1), if_pos k2]
  have HR := Lib.hid hr; clear hr k2 k1
  go_wp2_with (with_reducible show wpList _ _ _ (⟨none, .store _ (.tmp 4) _, _, _, _, _⟩ :: _) _ _
               refine wpList_store_row rfl 30 (.tmp 4) (.tmp 22) rfl (w.heap.size + 2) zero5 rfl rfl _ _ HC.out.rs size_code rfl (one5 _ _ _ _ _ _ _) ?_)
  have hz := setRow_heap w3 (w.heap.size + 2) _ zero5 _ _ HC.out.rs; exact bodyPost_ret (v := .tuple #[.agg zero5, .int .i64 (checkT b)]) (Push.results_cell_tmp Try.results16 _ _ (w.heap.size + 2) _ _ _ _ _ rfl (by simp) hz Try.underlying30 rfl (by kernel_rfl)) rfl (by rw [HR.out]; exact cpl_zero _ HC.out)
 rw [k2]; obtain ⟨x0, x1, x2, x3⟩ := row4 HC.out.hb; have hre : compE h b = if h.k ≠ 3 ∧ h.k ≠ 4 then (zeroCod, 2) else if 20000 < h.size + b.size then (zeroCod, 3) else (compC h b, 0) := by unfold compE; rw [if_neg (by simpa using k1), if_neg (by simpa using k2)]
 have HY1 := Lib.hid (check_may k1); have HY2 := Lib.hid (check_may k2); have HRE := Lib.hid hre; clear hre k1 k2
 by_cases k34 : h.k = 3 ∨ h.k = 4
 case neg =>
  have k3 : h.k ≠ 3 := fun e => k34 (.inl e)
  have k4 : h.k ≠ 4 := fun e => k34 (.inr e)
  have b3 : (h.k != 3) = true := by simpa using k3
  have b4 : (h.k != 4) = true := by simpa using k4
  have HR := Lib.hid (HRE.out.trans (if_pos ⟨k3, k4⟩)); clear k3 k4 k34
  go_wp2_with (with_reducible show wpList _ _ _ (⟨none, .store _ (.tmp 4) _, _, _, _, _⟩ :: _) _ _
               refine wpList_store_row rfl 30 (.tmp 4) (.tmp 32) rfl (w.heap.size + 2) zero5 rfl rfl _ _ HC.out.rs size_code rfl (one5 _ _ _ _ _ _ _) ?_)
  have hz := setRow_heap w3 (w.heap.size + 2) _ zero5 _ _ HC.out.rs; exact bodyPost_ret (v := .tuple #[.agg zero5, .int .i64 2]) (Push.results_cell_tmp Try.results16 _ _ (w.heap.size + 2) _ _ _ _ _ rfl (by simp) hz Try.underlying30 rfl (by kernel_rfl)) rfl (by rw [HR.out]; exact cpl_zero _ HC.out)
 have HRE2 := Lib.hid (HRE.out.trans (if_neg fun e => k34.elim e.1 e.2))
 have b34 : (h.k != 3) = false ∨ (h.k != 3) = true ∧ (h.k != 4) = false := by
  by_cases e : h.k = 3
  ·exact .inl (by simp [e])
  ·exact .inr ⟨by simpa using e, by simp [k34.resolve_left e]⟩
 clear HRE; rcases b34 with b3 | ⟨b3, b4⟩
 all_goals
  clear k34; go_wp2; refine wp_region_rest (by kernel_rfl) ?_; replace HC := Lib.hid (HC.out.on (Below.refl _ _).drew); clear x0 x1 x2 x3; generalize w3.drew = W0 at *; obtain ⟨x0, x1, x2, x3⟩ := row4 HC.out.hb; obtain ⟨y0, y1, y2, y3⟩ := row4 HC.out.bb; refine rest_chain 0 6 [(false, [0, 2]), (true, [1]), (true, [3]), (false, [4, 5])] [(false, [_, _]), (true, [_]), (true, [_]), (false, [_, _])] rfl (by kernel_rfl) (by kernel_rfl) rfl (by kernel_rfl) (by kernel_rfl) (.inl rfl) ?_; refine chain_soft ?_; intro E hE; go_wp2; clear x0 x1 x2 x3 y0 y1 y2 y3; refine chain_one ?_; intro E hE
  go_wp2_with (refine (tm_Size h _ _ _ hM1 (H1.out.below HC.out.bel)).mono ?_; rintro e4 w4 ⟨rfl, hb4⟩; replace HC := Lib.hid (HC.out.on hb4); have HB4 := Lib.hid hb4; clear hb4)
  refine ⟨HB4.out, ?_⟩; refine chain_one ?_; intro E hE
  go_wp2_with (refine (tm_Size b _ _ _ hM2 (H2.out.below HC.out.bel)).mono ?_; rintro e5 w5 ⟨rfl, hb5⟩; replace HC := Lib.hid (HC.out.on hb5); have HB5 := Lib.hid hb5; clear hb5)
  refine ⟨HB5.out, ?_⟩; refine chain_soft ?_; intro E hE; go_wp2; refine chain_nil (rest_end (by decide) ?_)
  by_cases k5 : 20000 < h.size + b.size
  case pos =>
   have b5 : (20000 : Int) < (h.size : Int) + (b.size : Int) := by omega
   have HR := Lib.hid (HRE2.out.trans (if_pos k5)); clear k5
   go_wp2_with (with_reducible show wpList _ _ _ (⟨none, .store _ (.tmp 4) _, _, _, _, _⟩ :: _) _ _
                refine wpList_store_row rfl 30 (.tmp 4) (.tmp 39) rfl (w.heap.size + 2) zero5 rfl rfl _ _ HC.out.rs size_code rfl (one5 _ _ _ _ _ _ _) ?_)
   have hz := setRow_heap w5 (w.heap.size + 2) _ zero5 _ _ HC.out.rs; exact bodyPost_ret (v := .tuple #[.agg zero5, .int .i64 3]) (Push.results_cell_tmp Try.results16 _ _ (w.heap.size + 2) _ _ _ _ _ rfl (by simp) hz Try.underlying30 rfl (by kernel_rfl)) rfl (by rw [HR.out]; exact cpl_zero _ HC.out)
  have b5 : (h.size : Int) + (b.size : Int) ≤ 20000 := by omega
  have HR := Lib.hid (HRE2.out.trans (if_neg k5)); have HK5 : Hid (h.size + b.size ≤ 20000) := Lib.hid (by omega); clear k5 HRE2 HB4 HB5; obtain ⟨x0, x1, x2, x3⟩ := row4 HC.out.hb; have h4 := cp_four w5 h.s h.args.length; have hc4 := HC.out.on h4.bel; obtain ⟨y0, y1, y2, y3⟩ := row4 hc4.hb; have H4 := Lib.hid h4; have HC4 := Lib.hid hc4; clear h4 hc4
  go_wp2_with (first
   | (with_reducible show wpList _ _ _ (⟨some 46, _, _, _, _, _⟩ :: _) _ _
      refine wpList_imap_made rfl 53 rfl ?_)
   | (with_reducible show wpList _ _ _ (⟨some 47, _, _, _, _, _⟩ :: _) _ _
      refine wpList_imap_made rfl 53 rfl ?_))
  clear x0 x1 x2 x3 y0 y1 y2 y3 hsn hsf; simp only [crowO, prowO] at H4 HC4; generalize ((((w5.alloc (Obj.cells #[.string h.s, .int .i64 h.args.length, .int .i64 0, .int .i64 0, .slice none 0 0] 30)).alloc (.map #[] 0)).alloc (.map #[] 0)).alloc (Obj.cells #[.map (some (w5.heap.size + 1)), .map (some (w5.heap.size + 1 + 1)), .func (.func 39) #[] #[.pointer (some ⟨w5.heap.size, 0, none⟩)]] 99)) = W4 at *; have h5s : w.heap.size + 3 ≤ w5.heap.size := HC.out.big; refine (comp_count (w5.heap.size + 1 + 1 + 1) (w5.heap.size + 1) _ _ h.size h _ _ [] _ (Nat.le_refl _) (by have := HK5.out; simp; omega) HY1.out H4.out.prow H4.out.tb (H1.out.below HC4.out.bel) (fun b hb => by have := hb.2; omega)).mono ?_; rintro e6 w6 ⟨rfl, hi6, hk6⟩; have HC6 := Lib.hid (HC4.out.keeps hk6 fun b e => by omega); have HK6 := Lib.hid hk6; have HI6 := Lib.hid hi6; clear hi6 hk6; obtain ⟨y0, y1, y2, y3⟩ := row4 HC6.out.bb
  go_wp2_with fail
  have hol := occT_len h; refine (comp_count (w5.heap.size + 1 + 1 + 1) (w5.heap.size + 1) _ _ b.size b _ _ ([] ++ occT h) _ (Nat.le_refl _) (by have := HK5.out; simp; omega) HY2.out ((HK6.out.block _ (by have := H4.out.size; omega) (by omega)).trans H4.out.prow) HI6.out (H2.out.below HC6.out.bel) (fun b hb => by have := hb.2; omega)).mono ?_; rintro e7 w7 ⟨rfl, hi7, hk7⟩; rw [List.nil_append] at hi7; have hk47 : Keeps W4 w7 (fun b => b = w5.heap.size + 1) := HK6.out.trans hk7 fun b e => .inl e
  obtain ⟨hput, hmine⟩ := cp_put H4.out hk47 hi7; have HC7 := Lib.hid (HC4.out.keeps hk47 fun b e => by omega); clear hi7 hk7 hk47 HC6 HK6 HI6 H4 HC4 HC y0 y1 y2 y3 hol; have hone : oneOf (cntMC (occT h ++ occT b)) = oneB (occT h ++ occT b) := oneOf_cnt _; generalize hCeq : (⟨w7.heap.size, w5.heap.size + 1 + 1 + 1, w5.heap.size, w5.heap.size + 1, w5.heap.size + 1 + 1, h.s, h.args.length, 0, 0, cntMC (occT h ++ occT b)⟩ : PutC) = C at *; have HCB : Hid (w5.heap.size = C.cb) := Lib.hid (by rw [← hCeq]); have HPB : Hid (w5.heap.size + 1 + 1 + 1 = C.pb) := Lib.hid (by rw [← hCeq]); have HSB : Hid (w5.heap.size + 1 + 1 = C.sb) := Lib.hid (by rw [← hCeq]); have HT : Hid (oneOf C.T = oneB (occT h ++ occT b)) := Lib.hid (by rw [← hCeq]; exact hone); have HNM : Hid (C.nm = h.s ∧ C.na = h.args.length ∧ C.nb = 0 ∧ C.ns = 0) := Lib.hid (by rw [← hCeq]; exact ⟨rfl, rfl, rfl, rfl⟩); clear hone hCeq; have hmine3 : ∀ b, PMine C w7 b → w.heap.size + 3 ≤ b := fun b hb => by have := hmine b hb; omega
  have HMI := Lib.hid hmine3; have HPUT := Lib.hid hput; clear hmine hmine3 hput; obtain ⟨y0, y1, y2, y3⟩ := row4 HC7.out.hb
  have HPT : Hid (∀ (t : Tm) (v : Value) (P : Nat → Prop) (S : List Int) (L : List Ins) (w : World), L.length + t.size ≤ 1000000000 → mayT t = true → PutAt C S L w → IsTm w P v t → (∀ b, P b → ¬ PMine C w b) →
   Calls Try.prog 41 #[.pointer (some ⟨w5.heap.size + 1 + 1 + 1, 0, none⟩), v] w (PutPost C (patT (oneOf C.T) S t).2 (L ++ (patT (oneOf C.T) S t).1) w)) :=
   Lib.hid fun t v P S L w h1 h2 h3 h4 h5 => by rw [HPB.out]; exact comp_pattern C t.size t v P S L w (Nat.le_refl _) h1 h2 h3 h4 h5
  have hst7 : CplRel C h.args w7 (.int .i64 ((0 : Nat) : Int)) w7 := ⟨0, by omega, rfl, by simpa [patL] using Did.below HPUT.out (Below.refl _ _)⟩; have HST := Lib.hid hst7; have hsz : h.size = sizeL h.args + 1 := by obtain ⟨k, n, s, ar⟩ := h; simp [Tm.size, Tm.args]
  have HSZ := Lib.hid hsz; have hlen : h.args.length ≤ 1000000000 := by have := len_le h.args; omega
  clear hst7 hsz; go_wp2
  go_loopw [58] (fun vi wr => CplRel C h.args w7 vi wr) (fun vi _ => h.args.length - (intOf vi).toNat)
  case atStart => exact HST.out
  case round =>
   obtain ⟨q, hq, rfl, hd⟩ := hrel; have HDQ := Lib.hid hd; have HCR := Lib.hid (HC7.out.keeps hd.2.1 HMI.out); clear hd HST y0 y1 y2 y3
   by_cases hql : q < h.args.length
   ·obtain ⟨g1, o1, rfl, p1, m1⟩ := (H1.out.below HCR.out.bel).args.at q hql
    obtain ⟨c1, d9, x10, x11, x12, x13, i1, l1⟩ := m1.read; have h1s := size_mem hql; have HMX := Lib.hid (may_arg HY1.out (List.getElem_mem hql)); have hnx := patL_take (oneOf C.T) [] h.args q hql
    have HLX : Hid ((patL (oneOf C.T) [] (h.args.take q)).1.length + h.args[q].size ≤ 1000000000) := Lib.hid (by
     have h3 := patL_len (oneOf C.T) (h.args.take q) []; have h2 := sizeL_take h.args q; have := HSZ.out; have := HK5.out; omega)
    have HNX := Lib.hid hnx; have hbx := below_new wr (rowT h.args[q] c1 d9); have hdx := Did.below HDQ.out.1 hbx
    have hmx : ∀ b, (P1 b ∧ b < w.heap.size) → ¬ PMine C (wr.alloc (rowT h.args[q] c1 d9)) b := fun b hb e => by
     have := HC7.out.big; rcases (HDQ.out.trans hdx).2.2 b e with h | h
     ·have := HMI.out b h; omega
     ·omega
    have I1 := Lib.hid (i1.below hbx); have HDX := Lib.hid hdx; have HMX2 := Lib.hid hmx; clear m1 i1 hnx h1s hbx hdx hmx; generalize h.args[q] = x at *; have hin : (q : Int) < (h.args.length : Int) := by omega
    have hin0 : (0 : Int) ≤ (q : Int) := by omega
    go_wp2_with (go_at_call 41
                 refine (HPT.out x _ _ _ _ _ HLX.out HMX.out HDX.out.1 I1.out HMX2.out).mono ?_; rintro e w9 ⟨rfl, hd9⟩; have HD9 := Lib.hid ((HDQ.out.trans HDX.out).trans hd9); clear hd9 x10 x11 x12 x13 l1)
    go_roundw
    case rel => exact ⟨q + 1, by omega, by go_num, by rw [HNX.out]; exact HD9.out⟩
    case measure => simp [intOf]; omega
   ·obtain rfl : q = h.args.length := by omega
    have hin : decide ((h.args.length : Int) < (h.args.length : Int)) = false := by simp
    have hd := HDQ.out; rw [List.take_length] at hd; have hl1 := patL_len (oneOf C.T) h.args []; have HL1 := Lib.hid hl1; generalize hpl : patL (oneOf C.T) [] h.args = R1 at *; obtain ⟨L1, S1⟩ := R1; simp only at hd hl1; obtain ⟨lv8, row8⟩ := hd.1; obtain ⟨qa, qc, rfl⟩ := row8.form; obtain ⟨z0, z1, z2, z3, z4⟩ := row5 (show wr.heap[w5.heap.size]? = _ by rw [HCB.out]; exact row8.crow); have f3 : wr.frozen? ⟨w5.heap.size, 3, none⟩ = false := frozen_of_row wr _ 3 _ _ (show wr.heap[w5.heap.size]? = _ by rw [HCB.out]; exact row8.crow); have hn9 := row8.setNb L1.length; rw [← HCB.out] at hn9; have HN9 := Lib.hid hn9
    have hc9 := HCR.out.keeps hn9.2 fun b hb => by
     rcases hd.2.2 b hb with h | h
     ·exact HMI.out b h
     ·have := HC7.out.big; omega
    obtain ⟨y0, y1, y2, y3⟩ := row4 hc9.bb; have hz9 : (wr.setCell ⟨w5.heap.size, 3, none⟩ (.int .i64 L1.length)).heap.size = wr.heap.size := by simp [World.setCell]
    have hmi9 : ∀ b, PMine ⟨C.base, C.pb, w5.heap.size, C.tb, C.sb, C.nm, C.na, C.ns, L1.length, C.T⟩ (wr.setCell ⟨w5.heap.size, 3, none⟩ (.int .i64 L1.length)) b → w.heap.size + 3 ≤ b := fun b hb => by
     rcases hb with hb | hb | ⟨lv', hc, hb⟩
     ·have hb : b = w5.heap.size := hb; omega
     ·have hb : b = C.sb := hb; have := HSB.out; omega
     ·have h9 := hn9.1.cell
      rw [h9] at hc; obtain rfl := Option.some.inj hc; rcases hd.2.2 b (.inr (.inr ⟨_, row8.cell, hb⟩)) with h | h
      ·exact HMI.out b h
      ·have := HC7.out.big; omega
    have HMI9 := Lib.hid hmi9; have HPA9 : Hid (PutAt ⟨C.base, C.pb, w5.heap.size, C.tb, C.sb, C.nm, C.na, C.ns, L1.length, C.T⟩ S1 L1 (wr.setCell ⟨w5.heap.size, 3, none⟩ (.int .i64 L1.length))) := Lib.hid ⟨_, hn9.1⟩; have HC9 := Lib.hid hc9; have HPL := Lib.hid hpl; clear hn9 HN9 hc9 hmi9 row8 hd HDQ HCR hql hq hpl hl1 hz9
    go_wp2_with fail
    generalize wr.setCell ⟨w5.heap.size, 3, none⟩ (.int .i64 L1.length) = W9 at *
    have HNM9 : Hid ((⟨C.base, C.pb, w5.heap.size, C.tb, C.sb, C.nm, C.na, C.ns, L1.length, C.T⟩ : PutC).cb = w5.heap.size ∧ (⟨C.base, C.pb, w5.heap.size, C.tb, C.sb, C.nm, C.na, C.ns, L1.length, C.T⟩ : PutC).sb = w5.heap.size + 1 + 1 ∧ (⟨C.base, C.pb, w5.heap.size, C.tb, C.sb, C.nm, C.na, C.ns, L1.length, C.T⟩ : PutC).pb = w5.heap.size + 1 + 1 + 1 ∧ (⟨C.base, C.pb, w5.heap.size, C.tb, C.sb, C.nm, C.na, C.ns, L1.length, C.T⟩ : PutC).T = C.T ∧
     (⟨C.base, C.pb, w5.heap.size, C.tb, C.sb, C.nm, C.na, C.ns, L1.length, C.T⟩ : PutC).nm = h.s ∧ (⟨C.base, C.pb, w5.heap.size, C.tb, C.sb, C.nm, C.na, C.ns, L1.length, C.T⟩ : PutC).na = h.args.length ∧ (⟨C.base, C.pb, w5.heap.size, C.tb, C.sb, C.nm, C.na, C.ns, L1.length, C.T⟩ : PutC).nb = L1.length) :=
     Lib.hid ⟨rfl, HSB.out.symm, HPB.out.symm, rfl, HNM.out.1, HNM.out.2.1, rfl⟩
    generalize (⟨C.base, C.pb, w5.heap.size, C.tb, C.sb, C.nm, C.na, C.ns, L1.length, C.T⟩ : PutC) = C9 at *; have hpt := comp_pattern C9 b.size b _ _ S1 L1 _ (Nat.le_refl _) (by have := HK5.out; have := HL1.out; have := HSZ.out; omega) HY2.out HPA9.out (H2.out.below HC9.out.bel) (fun b hb e => by have := HMI9.out b e; have := hb.2; omega); rw [HNM9.out.2.2.1, HNM9.out.2.2.2.1, HT.out] at hpt; refine hpt.mono ?_; rintro e10 w10 ⟨rfl, hd10⟩; have HC10 := Lib.hid (HC9.out.keeps hd10.2.1 HMI9.out)
    have hmi10 : ∀ b, PMine C9 w10 b → w.heap.size + 3 ≤ b := fun b hb => by
     rcases hd10.2.2 b hb with h | h
     ·exact HMI9.out b h
     ·have := HC9.out.big; omega
    have HRR : Hid (patT (oneB (occT h ++ occT b)) S1 b = patT (oneB (occT h ++ occT b)) S1 b) := Lib.hid rfl; generalize hr2 : patT (oneB (occT h ++ occT b)) S1 b = R2 at *; obtain ⟨L2, S2⟩ := R2; simp only at hd10; generalize hll : L1 ++ L2 = LL at *; have HLL := Lib.hid hll; have HR2 := Lib.hid hr2; clear hll hr2; obtain ⟨lv10, row10⟩ := hd10.1; obtain ⟨qa2, qc2, rfl⟩ := row10.form; have hcr : w10.heap[w5.heap.size]? = some (.cells #[.string C9.nm, .int .i64 C9.na, .int .i64 C9.ns, .int .i64 C9.nb, .slice qa2 LL.length qc2] 30 (0, 0)) := by have := row10.crow; rw [HNM9.out.1] at this; exact this
    have c1 : w10.cell? ⟨w5.heap.size + 1 + 1 + 1, 1, none⟩ = some (.map (some C9.sb)) := by rw [← HNM9.out.2.2.1]; exact cell_of_row w10 C9.pb 1 _ _ _ row10.prow
    have f2 : w10.frozen? ⟨w5.heap.size, 2, none⟩ = false := frozen_of_row w10 _ 2 _ _ hcr; have c2 : w10.cell? ⟨w5.heap.size, 2, none⟩ = some (.int .i64 C9.ns) := cell_of_row w10 _ 2 _ _ _ hcr; have hn11 := row10.setNs S2.length; rw [HNM9.out.1] at hn11; have hc11 := HC10.out.keeps hn11.2 hmi10; have hcr11 := hn11.1.crow; obtain ⟨z0, z1, z2, z3, z4⟩ := row5 (show (w10.setCell ⟨w5.heap.size, 2, none⟩ (.int .i64 S2.length)).heap[w5.heap.size]? = some (.cells #[.string C9.nm, .int .i64 C9.na, .int .i64 S2.length, .int .i64 C9.nb, .slice qa2 LL.length qc2] 30 (0, 0)) from hcr11); rw [HNM9.out.2.2.2.2.1] at z0; rw [HNM9.out.2.2.2.2.2.1] at z1; rw [HNM9.out.2.2.2.2.2.2] at z3; have HC11 := Lib.hid hc11; have HIM := Lib.hid row10.slots; have hsl := slots_len S2 0
    have hins : InsSl ((w10.setCell ⟨w5.heap.size, 2, none⟩ (.int .i64 S2.length)).setRow (w.heap.size + 2) #[.string h.s, .int .i64 h.args.length, .int .i64 S2.length, .int .i64 L1.length, .slice qa2 LL.length qc2]) (.slice qa2 LL.length qc2) LL :=
     own_ins (hn11.1.own.keep (by simp) fun b hlt hq => by
      rcases hq with hq | hq
      ·exact hq.elim
      ·exact setRow_other _ _ _ _ fun e => by have := hmi10 b (.inr (.inr ⟨_, row10.cell, hq⟩)); omega)
    have hlow : ∀ b, slBlk (.slice qa2 LL.length qc2) = some b → w.heap.size ≤ b := fun b e => by
     have hq : (Value.slice qa2 LL.length qc2).ownBlock = some b := by
      rcases hn11.1.own.form with ⟨e2, -⟩ | ⟨g, c, e2⟩
      ·rw [e2] at e; cases e
      ·rw [e2] at e ⊢; exact e
     have := hmi10 b (.inr (.inr ⟨_, row10.cell, hq⟩)); omega
    have HINS := Lib.hid hins; have HLOW := Lib.hid hlow; clear hd10 hmi10 row10 hcr hn11 hc11 hcr11 hins hpt hlow
    go_wp2_with (first
     | (with_reducible show wpList _ _ _ (⟨some 73, _, _, _, _, _⟩ :: _) _ _
        refine wpList_imap_len rfl (.tmp 72) 53 rfl _ _ Try.underlying53 C9.sb _ rfl HIM.out ?_; rw [hsl])
     | (with_reducible show wpList _ _ _ (⟨none, .store _ (.tmp 4) _, _, _, _, _⟩ :: _) _ _
        refine wpList_store_row rfl 30 (.tmp 4) (.tmp 75) rfl (w.heap.size + 2) #[.string h.s, .int .i64 h.args.length, .int .i64 S2.length, .int .i64 L1.length, .slice qa2 LL.length qc2] rfl rfl _ _ HC11.out.rs size_code rfl (one5 _ _ _ _ _ _ _) ?_))
    have hz := setRow_heap _ (w.heap.size + 2) _ (#[.string h.s, .int .i64 h.args.length, .int .i64 S2.length, .int .i64 L1.length, .slice qa2 LL.length qc2] : Array Value) _ _ HC11.out.rs
    have hcod : compC h b = ⟨h.s, h.args.length, S2.length, L1.length, LL⟩ := by
     unfold compC; rw [← HT.out, HPL.out, HT.out]; simp only [HR2.out]; rw [HLL.out]
    have hpost : CplPostP (compE h b) w (.returned (.tuple #[.agg #[.string h.s, .int .i64 h.args.length, .int .i64 S2.length, .int .i64 L1.length, .slice qa2 LL.length qc2], .int .i64 0])) ((w10.setCell ⟨w5.heap.size, 2, none⟩ (.int .i64 S2.length)).setRow (w.heap.size + 2) #[.string h.s, .int .i64 h.args.length, .int .i64 S2.length, .int .i64 L1.length, .slice qa2 LL.length qc2]) := by
     rw [HR.out, hcod]; exact ⟨_, rfl, HINS.out, below_setRow HC11.out.bel (by omega) _, HLOW.out⟩
    exact bodyPost_ret (v := .tuple #[.agg #[.string h.s, .int .i64 h.args.length, .int .i64 S2.length, .int .i64 L1.length, .slice qa2 LL.length qc2], .int .i64 0]) (Push.results_cell_tmp Try.results16 _ _ (w.heap.size + 2) _ _ _ _ _ rfl (by simp) hz Try.underlying30 rfl (by kernel_rfl)) rfl hpost
theorem go_Compile (h b : Tm) (v1 v2 : Value) (P1 P2 : Nat → Prop) (w : World) (hM1 : h.size ≤ 1000000000) (hM2 : b.size ≤ 1000000000) (h1 : IsTm w P1 v1 h) (h2 : IsTm w P2 v2 b) :
 Calls Try.prog 16 #[v1, v2] w (CplPost (compE h b) w) :=
 (go_CompileP h b v1 v2 P1 P2 w hM1 hM2 h1 h2).mono fun _ _ ⟨vs, he, hi, hb, _⟩ => ⟨vs, he, hi, hb⟩
end Go.Proofs.Ytcbijikalfodnaa.Tms
namespace Go.Proofs.Ytcbijikalfodnaa.Cod
open Go Go.RowKit
theorem ret_int {k : IntKind} {a b : Int} (h : a = b) : Ending.returned (.int k a) = .returned (.int k b) := by rw [h]
def SkipOk (L : List Ins) (z : Int) (w : World) (e : Ending) (w' : World) : Prop := e = .returned (.int .i64 (skip L z)) ∧ Below w.heap.size w w'
theorem ins_good {i : Ins} (h1 : 1 ≤ i.op) (h2 : i.op ≤ 6) (h3 : i.op ≠ 6) : i.bad = false ∧ i.ar = 0 := by
 simp [Ins.bad, Ins.ar]; omega
theorem ins_comp {i : Ins} (h1 : i.op = 6) (h2 : 1 ≤ i.a) (h3 : i.a ≤ 255) : i.bad = false ∧ (i.ar : Int) = i.a ∧ i.ar ≤ 255 := by
 simp [Ins.bad, Ins.ar, h1]; omega
theorem ins_bad {i : Ins} (h : i.op < 1 ∨ 6 < i.op ∨ i.op = 6 ∧ (i.a < 1 ∨ 255 < i.a)) : i.bad = true := by
 simp [Ins.bad]; omega
def SkRel (L : List Ins) (z : Int) (w : World) (a n : Value) (wr : World) : Prop :=
 ∃ k m : Nat, k ≤ L.length ∧ a = .int .i64 k ∧ n = .int .i64 m ∧ m ≤ k * 255 + 1 ∧ skA L m k = skip L z ∧ Below w.heap.size w wr
theorem skr_bad {L : List Ins} {k m : Nat} {z : Int} {w wr : World} (hk : k < L.length) (h0 : 0 < m) (HS : Hid (skA L m k = skip L z)) (hb : L[k].bad = true) (hB : Below w.heap.size w wr) : SkipOk L z w (.returned (.int .i64 (-1))) wr := by
 refine ⟨ret_int ?_, hB⟩; rw [← HS.out]; obtain ⟨q, rfl⟩ : ∃ q, m = q + 1 := ⟨m - 1, by omega⟩; exact (skA_bad L q k hk hb).symm
theorem skr_end {L : List Ins} {k m : Nat} {z : Int} {w wr : World} (hk : L.length ≤ k) (h0 : 0 < m) (HS : Hid (skA L m k = skip L z)) (hB : Below w.heap.size w wr) : SkipOk L z w (.returned (.int .i64 (-1))) wr := by
 refine ⟨ret_int ?_, hB⟩; rw [← HS.out]; obtain ⟨q, rfl⟩ : ∃ q, m = q + 1 := ⟨m - 1, by omega⟩; exact (skA_end L q k hk).symm
theorem skr_zero {L : List Ins} {k m : Nat} {z : Int} {w wr : World} (h0 : ¬ 0 < m) (HS : Hid (skA L m k = skip L z)) (hB : Below w.heap.size w wr) : SkipOk L z w (.returned (.int .i64 k)) wr := by
 refine ⟨ret_int ?_, hB⟩; rw [← HS.out]; obtain rfl : m = 0 := by omega
 exact (skA_zero L k).symm
theorem skr_step {L : List Ins} {k m : Nat} {z : Int} {w wr : World} {x y : Int} (hk : k < L.length) (h0 : 0 < m) (HS : Hid (skA L m k = skip L z)) (hm : m ≤ k * 255 + 1) (hB : Below w.heap.size w wr)
 (hb : L[k].bad = false) (ha : (L[k].ar : Int) = y - m + 1) (har : L[k].ar ≤ 255) (hx : x = k + 1) : SkRel L z w (.int .i64 x) (.int .i64 y) wr := by
 obtain ⟨q, rfl⟩ : ∃ q, m = q + 1 := ⟨m - 1, by omega⟩; refine ⟨k + 1, q + L[k].ar, by omega, by rw [hx]; rfl, by congr 1; omega, by omega, ?_, hB⟩; rw [← skA_step L q k hk hb]; exact HS.out
theorem go_skip (L : List Ins) (z : Int) (v : Value) (w : World) (hv : InsSl w v L) (hl : L.length ≤ 1000000) :
 Calls Try.prog 30 #[v, .int .i64 z] w (SkipOk L z w) := by
 obtain ⟨a, cap, rfl, hc⟩ := hv
 by_cases hz : z < 0
 ·go_enter Try.func30, Try.ntmps30
  go_wp2; go_ret; exact ⟨ret_int (skip_neg L z hz).symm, Below.refl _ _⟩
 by_cases hz2 : (L.length : Int) < z
 ·have hp := skip_past L z (by omega)
  have H := Lib.hid hp; clear hp
  go_enter Try.func30, Try.ntmps30
  go_wp2; refine wp_loop_rounds 1 ?_; rw [rounds_succ]; go_wp2; go_ret; exact ⟨ret_int H.out.symm, Below.refl _ _⟩
 obtain ⟨k0, rfl⟩ : ∃ k : Nat, z = k := ⟨z.toNat, by omega⟩; have hst : SkRel L k0 w (.int .i64 k0) (.int .i64 ((1 : Nat) : Int)) w := ⟨k0, 1, by omega, rfl, rfl, by omega, (skip_nat L k0).symm, Below.refl _ _⟩; have H := Lib.hid hst; clear hst
 go_enter Try.func30, Try.ntmps30
 go_wp2
 go_loopw [1, 5] (fun a n wr => SkRel L k0 w a n wr) (fun a _ _ => 1000002 - (intOf a).toNat)
 case atStart => exact H.out
 case round =>
  obtain ⟨k, m, hk, rfl, rfl, hm, hsk, hbl⟩ := hrel; have HS := Lib.hid hsk; clear hsk H
  by_cases hlt : k < L.length
  ·obtain ⟨b, off, rfl, hi⟩ := hc k hlt
   have hi' := hi.below hbl hi.lt; obtain ⟨g0, g1, g2, g3⟩ := hi'; have hbr : b < wr.heap.size := by have := hi.lt; have := hbl.size; omega
   clear hc hi; go_wp2
   all_goals first
    | (go_ret; exact skr_zero (by assumption) HS hbl)
    | (go_ret; exact skr_bad hlt (by assumption) HS (ins_bad (by omega)) (hbl.alloc hbl.size _))
    | (have h6 : L[k].op = 6 := by simpa using (by assumption : (L[k].op == 6) = true)
       go_ret; exact skr_bad hlt (by assumption) HS (ins_bad (by omega)) (hbl.alloc hbl.size _))
    | (have h6 : L[k].op = 6 := by simpa using (by assumption : (L[k].op == 6) = true)
       obtain ⟨e1, e2, e3⟩ := ins_comp h6 (by omega) (by omega); go_roundw
       case rel => exact skr_step hlt (by assumption) HS hm (hbl.alloc hbl.size _) e1 (by omega) e3 rfl
       case measure => simp [intOf]; omega)
    | (have h6 : L[k].op ≠ 6 := by simpa using (by assumption : (L[k].op == 6) = false)
       obtain ⟨e1, e2⟩ := ins_good (i := L[k]) (by omega) (by omega) h6; go_roundw
       case rel => exact skr_step hlt (by assumption) HS hm (hbl.alloc hbl.size _) e1 (by omega) (by omega) rfl
       case measure => simp [intOf]; omega)
  ·go_wp2
   all_goals first
    | (go_ret; exact skr_zero (by assumption) HS hbl)
    | (go_ret; exact skr_end (by omega) (by assumption) HS hbl)
end Go.Proofs.Ytcbijikalfodnaa.Cod
namespace Go.Proofs.Ytcbijikalfodnaa.Cod
open Go Go.RowKit Go.Proofs.Ytcbijikalfodnaa.Reg
def Ins.isAny (i : Ins) : Bool := i.a == 0 && (i.n == 0 && i.s.toList.isEmpty)
def Ins.isSlot (i : Ins) : Bool := i.n == 0 && i.s.toList.isEmpty
def Ins.isNum (i : Ins) : Bool := i.a == 0 && i.s.toList.isEmpty
def Ins.isName (i : Ins) : Bool := i.a == 0 && (i.n == 0 && decide ((i.s.size : Int) ≤ 1000))
def Ins.isComp (i : Ins) : Bool := i.n == 0 && decide ((i.s.size : Int) ≤ 1000)
def Ins.ok (i : Ins) : Bool :=
 if i.op = 1 then i.isAny else if i.op = 2 ∨ i.op = 3 then i.isSlot else if i.op = 4 then i.isNum else if i.op = 5 then i.isName else i.isComp
abbrev Ins.val (i : Ins) : Value := .agg #[.int .i64 i.op, .int .i64 i.a, .int .i64 i.n, .string i.s]
def Says (b : Bool) (w : World) (e : Ending) (w' : World) : Prop := e = .returned (.bool b) ∧ Below w.heap.size w w'
theorem says {a b : Bool} {w w' : World} (h : a = b) (hb : Below w.heap.size w w') : Says b w (.returned (.bool a)) w' := ⟨by rw [h], hb⟩
theorem is_any (i : Ins) (w : World) : Calls Try.prog 64 #[i.val] w (Says i.isAny w) := by
 go_enter Try.func64, Try.ntmps64
 go_wp2
 all_goals go_ret
 all_goals exact says (by simp [Ins.isAny, *]) ((Below.refl _ _).alloc (Nat.le_refl _) _)
theorem is_slot (i : Ins) (w : World) : Calls Try.prog 65 #[i.val] w (Says i.isSlot w) := by
 go_enter Try.func65, Try.ntmps65
 go_wp2
 all_goals go_ret
 all_goals exact says (by simp [Ins.isSlot, *]) ((Below.refl _ _).alloc (Nat.le_refl _) _)
theorem is_num (i : Ins) (w : World) : Calls Try.prog 66 #[i.val] w (Says i.isNum w) := by
 go_enter Try.func66, Try.ntmps66
 go_wp2
 all_goals go_ret
 all_goals exact says (by simp [Ins.isNum, *]) ((Below.refl _ _).alloc (Nat.le_refl _) _)
theorem is_name (i : Ins) (w : World) : Calls Try.prog 67 #[i.val] w (Says i.isName w) := by
 go_enter Try.func67, Try.ntmps67
 go_wp2
 all_goals go_ret
 all_goals exact says (by simp [Ins.isName, *]) ((Below.refl _ _).alloc (Nat.le_refl _) _)
theorem is_comp (i : Ins) (w : World) : Calls Try.prog 68 #[i.val] w (Says i.isComp w) := by
 go_enter Try.func68, Try.ntmps68
 go_wp2
 all_goals go_ret
 all_goals exact says (by simp [Ins.isComp, *]) ((Below.refl _ _).alloc (Nat.le_refl _) _)
theorem checks_any (w : World) : Calls Try.prog 59 #[] w fun e w' => e = .returned (.agg #[.nilFunc, .func (.func 64) #[] #[], .func (.func 65) #[] #[], .func (.func 65) #[] #[], .func (.func 66) #[] #[], .func (.func 67) #[] #[], .func (.func 68) #[] #[]]) ∧ Below w.heap.size w w' := by
 have hb : ∀ w : World, (Instr.build 128 #[(1, .func (.func 64) #[] #[]), (2, .func (.func 65) #[] #[]), (3, .func (.func 65) #[] #[]), (4, .func (.func 66) #[] #[]), (5, .func (.func 67) #[] #[]), (6, .func (.func 68) #[] #[])]).run Try.prog w =
  .ok (.agg #[.nilFunc, .func (.func 64) #[] #[], .func (.func 65) #[] #[], .func (.func 65) #[] #[], .func (.func 66) #[] #[], .func (.func 67) #[] #[], .func (.func 68) #[] #[]]) w := fun _ => by kernel_rfl
 go_enter Try.func59, Try.ntmps59
 go_wp2; exact bodyPost_ret (v := .agg #[.nilFunc, .func (.func 64) #[] #[], .func (.func 65) #[] #[], .func (.func 65) #[] #[], .func (.func 66) #[] #[], .func (.func 67) #[] #[], .func (.func 68) #[] #[]]) (by simp [results, Try.results59, go_sem]) rfl ⟨rfl, (Below.refl _ _).alloc (Nat.le_refl _) _⟩
def okFn (op : Int) : Nat :=
 if op = 1 then 64 else if op = 2 ∨ op = 3 then 65 else if op = 4 then 66 else if op = 5 then 67 else 68
theorem ok_call (i : Ins) (w : World) (_h1 : 1 ≤ i.op) (_h6 : i.op ≤ 6) : Calls Try.prog (okFn i.op) #[i.val] w (Says i.ok w) := by
 unfold okFn Ins.ok
 split
 ·exact is_any i w
 split
 ·exact is_slot i w
 split
 ·exact is_num i w
 split
 ·exact is_name i w
 ·exact is_comp i w
theorem ok_enter (op : Int) (args : Array Value) (w : World) : (callFunc (okFn op) args).run Try.prog w = .ok (.enter (okFn op) args) w := by
 unfold okFn
 split
 ·kernel_rfl
 split
 ·kernel_rfl
 split
 ·kernel_rfl
 split
 ·kernel_rfl
 ·kernel_rfl
def Tab (w : World) (b : Nat) : Prop := ∀ op : Nat, 1 ≤ op → op ≤ 6 → w.cell? ⟨b, op, none⟩ = some (.func (.func (okFn op)) #[] #[])
theorem Tab.below {w w' : World} {b B : Nat} (h : Tab w b) (hb : Below B w w') (hlt : b < B) : Tab w' b := fun op h1 h6 => (hb.cell (p := ⟨b, op, none⟩) hlt).trans (h op h1 h6)
theorem tab_new (w : World) (t : TypeId) : Tab (w.alloc (.cells #[.nilFunc, .func (.func 64) #[] #[], .func (.func 65) #[] #[], .func (.func 65) #[] #[], .func (.func 66) #[] #[], .func (.func 67) #[] #[], .func (.func 68) #[] #[]] t)) w.heap.size := by
 intro op h1 h6; rw [World.cell?_alloc_at _ _ _ _ rfl]; have : op = 1 ∨ op = 2 ∨ op = 3 ∨ op = 4 ∨ op = 5 ∨ op = 6 := by omega
 rcases this with rfl | rfl | rfl | rfl | rfl | rfl <;> rfl
def PlRel (L : List Ins) (w : World) (b : Nat) (c : Value) (wr : World) : Prop :=
 ∃ k : Nat, k ≤ L.length ∧ c = .int .i64 k ∧ (L.take k).all Ins.ok = true ∧ Below w.heap.size w wr ∧ Tab wr b ∧ b < wr.heap.size ∧ w.heap.size ≤ b
theorem take_ok {L : List Ins} {k : Nat} (hk : k < L.length) (h : (L.take k).all Ins.ok = true) (ho : L[k].ok = true) : (L.take (k + 1)).all Ins.ok = true := by
 rw [List.take_succ_eq_append_getElem hk, List.all_append, h]; simp [ho]
theorem not_ok {L : List Ins} {k : Nat} (hk : k < L.length) (ho : L[k].ok = false) : L.all Ins.ok = false := by
 rw [List.all_eq_false]; exact ⟨L[k], List.getElem_mem hk, by simp [ho]⟩
theorem go_plain (L : List Ins) (v : Value) (w : World) (hv : InsSl w v L) (hl : L.length ≤ 1000000) (hop : ∀ i ∈ L, 1 ≤ i.op ∧ i.op ≤ 6) :
 Calls Try.prog 31 #[v] w (Says (L.all Ins.ok) w) := by
 obtain ⟨a, cap, rfl, hc⟩ := hv
 go_enter Try.func31, Try.ntmps31
 go_wp2_with (go_at_call 59; refine (checks_any _).mono ?_; rintro e w1 ⟨rfl, hb1⟩)
 have hT := tab_new w1 128; generalize hW : (w1.alloc (.cells #[.nilFunc, .func (.func 64) #[] #[], .func (.func 65) #[] #[], .func (.func 65) #[] #[], .func (.func 66) #[] #[], .func (.func 67) #[] #[], .func (.func 68) #[] #[]] 128)) = W at *; have hst : PlRel L w w1.heap.size (.int .i64 ((0 : Nat) : Int)) W := ⟨0, by omega, rfl, rfl, hW ▸ hb1.alloc hb1.size _, hT, by rw [← hW]; simp, hb1.size⟩; have H := Lib.hid hst; clear hst hT hb1 hW; generalize w1.heap.size = b at *
 go_loopw [9] (fun c wr => PlRel L w b c wr) (fun c _ => L.length - (intOf c).toNat)
 case atStart => exact H.out
 case round =>
  obtain ⟨k, hk, rfl, hall, hbl, hT, hbr, hwb⟩ := hrel; have HA := Lib.hid hall; clear hall H
  by_cases hlt : k < L.length
  ·obtain ⟨b2, off, rfl, hi⟩ := hc k hlt
   have hi' := hi.below hbl hi.lt; obtain ⟨g0, g1, g2, g3⟩ := hi'; have hbr2 : b2 < wr.heap.size := by have := hi.lt; have := hbl.size; omega
   have ⟨o1, o6⟩ := hop L[k] (List.getElem_mem hlt); have hyes := take_ok hlt HA.out; have hno := not_ok (L := L) hlt; have hlt2 : b2 < w.heap.size := hi.lt; have H1 := Lib.hid hyes; have H2 := Lib.hid hno; have HL := Lib.hid hlt2; have HT := Lib.hid hT; clear hyes hno hlt2 hc hi hT hop; generalize L[k] = i at *; go_wp2; have hf0 : ∀ j, (wr.alloc (.cells i.val.cells 71)).cell? ⟨wr.heap.size, j, none⟩ = i.val.cells[j]? := fun j => World.cell?_alloc_at _ _ _ _ rfl
   have hTa : Tab (wr.alloc (.cells i.val.cells 71)) b := fun op h1 h6 => (World.cell?_alloc_past _ _ _ hbr).trans (HT.out op h1 h6)
   have hbl' : Below w.heap.size w (wr.alloc (.cells i.val.cells 71)) := hbl.alloc hbl.size _; have hbr' : b < (wr.alloc (.cells i.val.cells 71)).heap.size := by simp; omega
   have hbi : wr.heap.size < (wr.alloc (.cells i.val.cells 71)).heap.size := by simp
   simp only [Value.cells] at hf0 hTa hbl' hbr' hbi; generalize wr.heap.size = bi at *; generalize (wr.alloc (.cells #[.int .i64 i.op, .int .i64 i.a, .int .i64 i.n, .string i.s] 71)) = W at *; have f0 := hf0 0; have f1 := hf0 1; have f2 := hf0 2; have f3 := hf0 3; clear hf0; obtain ⟨p, hp⟩ : ∃ p : Nat, i.op = p := ⟨i.op.toNat, by omega⟩; have fT := hTa p (by omega) (by omega); obtain ⟨iop, ia, in_, is⟩ := i; dsimp only at *; subst hp
   have fs : ∀ u, Below W.heap.size W u → u.cell? ⟨bi, 0, none⟩ = some (.int .i64 p) ∧ u.cell? ⟨bi, 1, none⟩ = some (.int .i64 ia) ∧ u.cell? ⟨bi, 2, none⟩ = some (.int .i64 in_) ∧ u.cell? ⟨bi, 3, none⟩ = some (.string is) ∧ u.cell? ⟨b, p, none⟩ = some (.func (.func (okFn p)) #[] #[]) := fun u hu =>
    ⟨(hu.cell (p := ⟨bi, 0, none⟩) hbi).trans f0, (hu.cell (p := ⟨bi, 1, none⟩) hbi).trans f1, (hu.cell (p := ⟨bi, 2, none⟩) hbi).trans f2, (hu.cell (p := ⟨bi, 3, none⟩) hbi).trans f3, (hu.cell (p := ⟨b, p, none⟩) hbr').trans fT⟩
   clear f0 f1 f2 f3 fT; refine wp_region_rest (by kernel_rfl) ?_; have hd : Below W.heap.size W W.drew := (Below.refl _ _).drew; refine rest_ops 0 5 21 (fun j v _ => match j with | 0 => v = .pointer (some ⟨bi, 0, none⟩) | 1 => v = .int .i64 p | 2 => v = .pointer (some ⟨b, p, none⟩) | 3 => v = .func (.func (okFn p)) #[] #[] | 4 => v = .agg #[.int .i64 p, .int .i64 ia, .int .i64 in_, .string is] | _ => True) (fun _ _ => none) (by kernel_rfl) (by kernel_rfl) rfl (.inr (by kernel_rfl)) ?hS ?hop ?_
   case hS => intro j v u u' _ _ h _; exact h
   case hop =>
    refine ⟨fun v u hu hs Q' hQ => ?_, fun v u hu hs Q' hQ => ?_, fun v u hu hs Q' hQ => ?_, fun v u hu hs Q' hQ => ?_, fun v u hu hs Q' hQ => ?_, trivial⟩
    ·simp only [putAll, dstOf]
     obtain ⟨c0, c1, c2, c3, cT⟩ := fs u (hd.trans hu); go_wp2; exact ⟨rfl, Below.refl _ _, rfl, fun _ h => nomatch h⟩
    ·simp only [putAll, dstOf]
     have s_0 : v 0 = .pointer (some ⟨bi, 0, none⟩) := hs 0 (by kernel_rfl) (by decide) (by decide); obtain ⟨c0, c1, c2, c3, cT⟩ := fs u (hd.trans hu); go_wp2; exact ⟨rfl, Below.refl _ _, rfl, fun _ h => nomatch h⟩
    ·simp only [putAll, dstOf]
     have s_1 : v 1 = .int .i64 p := hs 1 (by kernel_rfl) (by decide) (by decide); obtain ⟨c0, c1, c2, c3, cT⟩ := fs u (hd.trans hu); go_wp2; exact ⟨rfl, Below.refl _ _, rfl, fun _ h => nomatch h⟩
    ·simp only [putAll, dstOf]
     have s_2 : v 2 = .pointer (some ⟨b, p, none⟩) := hs 2 (by kernel_rfl) (by decide) (by decide); obtain ⟨c0, c1, c2, c3, cT⟩ := fs u (hd.trans hu); go_wp2; exact ⟨rfl, Below.refl _ _, rfl, fun _ h => nomatch h⟩
    ·simp only [putAll, dstOf]
     obtain ⟨c0, c1, c2, c3, cT⟩ := fs u (hd.trans hu); go_wp2; exact ⟨rfl, Below.refl _ _, rfl, fun _ h => nomatch h⟩
   intro v u hu hs hap; have s_0 : v 0 = .pointer (some ⟨bi, 0, none⟩) := hs 0 (by decide) (by decide); have s_1 : v 1 = .int .i64 p := hs 1 (by decide) (by decide); have s_2 : v 2 = .pointer (some ⟨b, p, none⟩) := hs 2 (by decide) (by decide); have s_3 : v 3 = .func (.func (okFn p)) #[] #[] := hs 3 (by decide) (by decide); have s_4 : v 4 = .agg #[.int .i64 p, .int .i64 ia, .int .i64 in_, .string is] := hs 4 (by decide) (by decide); simp only [putAll, dstOf]; replace hu := hd.trans hu; have hok := ok_call ⟨p, ia, in_, is⟩ u o1 o6; have hTu := hTa.below hu hbr'; have hblu := hbl'.trans (hu.mono hbl'.size); have hbu : b < u.heap.size := by have := hu.size; omega
   have HK := Lib.hid hok; clear hok; have hent := fun args w => ok_enter p args w
   generalize okFn p = fp at *; refine rest_lineL 5 7 [_, _] rfl (by kernel_rfl) (by decide) (by decide) (by kernel_rfl) ?_; cases hb : (Ins.ok ⟨p, ia, in_, is⟩)
   ·have h2 := H2.out hb
    have HN := Lib.hid h2; clear h2 hTa hTu; rw [hb] at HK; clear hb
    go_wp2_with (refine (HK.out).mono ?_; rintro e w2 ⟨rfl, hb2⟩)
    refine then_rest (rest_end (by decide) ?_); go_wp2; go_ret; exact says HN.out.symm (hblu.trans (hb2.mono hblu.size))
   ·have h1 := H1.out hb
    have HN := Lib.hid h1; have HTu := Lib.hid hTu; clear h1 hTa hTu; rw [hb] at HK; clear hb
    go_wp2_with (refine (HK.out).mono ?_; rintro e w2 ⟨rfl, hb2⟩)
    refine then_rest (rest_end (by decide) ?_); go_wp2; go_roundw
    case rel => exact ⟨k + 1, by omega, by go_num, HN.out, hblu.trans (hb2.mono hblu.size), HTu.out.below hb2 hbu, by have := hb2.size; omega, hwb⟩
    case measure => simp [intOf]; omega
  ·go_wp2
   go_ret; exact says (by have := HA.out; rw [List.take_of_length_le (by omega)] at this; rw [this]) hbl
def slotsN : List Ins → Nat → Option Nat
 | [], n => some n
 | i :: l, n => if i.op = 2 then (if i.a = n then slotsN l (n + 1) else none) else if i.op = 3 ∧ (i.a < 0 ∨ (n : Int) ≤ i.a) then none else slotsN l n
def slotsA (L : List Ins) (k n : Nat) : Option Nat := slotsN (L.drop k) n
def slotsOk (L : List Ins) (s : Int) : Bool := match slotsN L 0 with
 | some n => (n : Int) == s
 | none => false
theorem slotsA_end (L : List Ins) (k n : Nat) (h : L.length ≤ k) : slotsA L k n = some n := by simp [slotsA, List.drop_eq_nil_of_le h, slotsN]
theorem slotsA_cons (L : List Ins) (k n : Nat) (h : k < L.length) : slotsA L k n = if L[k].op = 2 then (if L[k].a = n then slotsA L (k + 1) (n + 1) else none) else if L[k].op = 3 ∧ (L[k].a < 0 ∨ (n : Int) ≤ L[k].a) then none else slotsA L (k + 1) n := by
 unfold slotsA; rw [List.drop_eq_getElem_cons h]; rfl
abbrev codVal (c : Cod) (lv : Value) : Value := .agg #[.string c.name, .int .i64 c.args, .int .i64 c.slots, .int .i64 c.body, lv]
def SlRel (L : List Ins) (W : World) (n c : Value) (wr : World) : Prop :=
 ∃ k m : Nat, k ≤ L.length ∧ m ≤ k ∧ c = .int .i64 k ∧ n = .int .i64 m ∧ slotsA L k m = slotsN L 0 ∧ Below W.heap.size W wr
theorem sl_none {L : List Ins} {s : Int} {x : Option Nat} (h : x = slotsN L 0) (hx : x = none) : slotsOk L s = false := by
 unfold slotsOk; rw [← h, hx]
theorem sl_some {L : List Ins} {s : Int} {x : Option Nat} {m : Nat} (h : x = slotsN L 0) (hx : x = some m) : slotsOk L s = ((m : Int) == s) := by
 unfold slotsOk; rw [← h, hx]
theorem go_slots (c : Cod) (v : Value) (w : World) (hv : InsSl w v c.l) (hl : c.l.length ≤ 1000000) :
 Calls Try.prog 32 #[codVal c v] w (Says (slotsOk c.l c.slots) w) := by
 obtain ⟨a, cap, rfl, hc⟩ := hv; obtain ⟨nm, ar, sl, bo, L⟩ := c; dsimp only at *; have hW0 : Below w.heap.size w (w.alloc (.cells #[.string nm, .int .i64 ar, .int .i64 sl, .int .i64 bo, .slice a L.length cap] 30)) := (Below.refl _ _).alloc (Nat.le_refl _) _; have hf : (w.alloc (.cells #[.string nm, .int .i64 ar, .int .i64 sl, .int .i64 bo, .slice a L.length cap] 30)).cell? ⟨w.heap.size, 2, none⟩ = some (.int .i64 sl) := World.cell?_alloc_at _ _ _ _ rfl; have hlt : w.heap.size < (w.alloc (.cells #[.string nm, .int .i64 ar, .int .i64 sl, .int .i64 bo, .slice a L.length cap] 30)).heap.size := by simp
 go_enter Try.func32, Try.ntmps32
 go_wp2; generalize (w.alloc (.cells #[.string nm, .int .i64 ar, .int .i64 sl, .int .i64 bo, .slice a L.length cap] 30)) = W at *; have hst : SlRel L W (.int .i64 ((0 : Nat) : Int)) (.int .i64 ((0 : Nat) : Int)) W := ⟨0, 0, by omega, by omega, rfl, rfl, rfl, Below.refl _ _⟩; have H := Lib.hid hst; clear hst
 go_loopw [3, 9] (fun n c wr => SlRel L W n c wr) (fun _ c _ => L.length - (intOf c).toNat)
 case atStart => exact H.out
 case round =>
  obtain ⟨k, m, hk, hm, rfl, rfl, hs, hbl⟩ := hrel; have HS := Lib.hid hs; have hbl0 : Below w.heap.size w wr := hW0.trans (hbl.mono (by omega)); have hf' := (hbl.cell (p := ⟨w.heap.size, 2, none⟩) hlt).trans hf; clear hs H hf
  by_cases hkl : k < L.length
  ·obtain ⟨b2, off, rfl, hi⟩ := hc k hkl
   have hi' := hi.below hbl0 hi.lt; obtain ⟨g0, g1, g2, g3⟩ := hi'; have hbr2 : b2 < wr.heap.size := by have := hi.lt; have := hbl0.size; omega
   have hcons := slotsA_cons L k m hkl; have HC := Lib.hid hcons; clear hc hi hcons; generalize L[k] = i at *; obtain ⟨iop, ia, in_, is⟩ := i; dsimp only at *
   by_cases h2 : iop = 2
   ·by_cases ha : ia = m
    ·subst h2 ha
     go_wp2; go_roundw
     case rel => exact ⟨k + 1, m + 1, by omega, by omega, by go_num, by go_num, by rw [← HS.out, HC.out]; simp, hbl.alloc hbl.size _⟩
     case measure => simp [intOf]; omega
    ·have h3 : (ia != (m : Int)) = true := by simpa using ha
     subst h2; go_wp2; go_ret; exact says (sl_none HS.out (by rw [HC.out]; simp [ha])).symm (hbl0.alloc hbl0.size _)
   ·have h3 : (iop == 2) = false := by simpa using h2
    by_cases hb : iop = 3 ∧ (ia < 0 ∨ (m : Int) ≤ ia)
    ·obtain ⟨rfl, hb⟩ := hb
     go_wp2
     all_goals go_ret
     all_goals exact says (sl_none HS.out (by rw [HC.out]; simp [hb])).symm (hbl0.alloc hbl0.size _)
    ·by_cases h4 : iop = 3
     ·have h5 : ¬ ia < 0 := by omega
      have h6 : ¬ (m : Int) ≤ ia := by omega
      subst h4; go_wp2; go_roundw
      case rel => exact ⟨k + 1, m, by omega, by omega, by go_num, by go_num, by rw [← HS.out, HC.out]; simp [h5, h6], hbl.alloc hbl.size _⟩
      case measure => simp [intOf]; omega
     ·have h7 : (iop == 3) = false := by simpa using h4
      go_wp2; go_roundw
      case rel => exact ⟨k + 1, m, by omega, by omega, by go_num, by go_num, by rw [← HS.out, HC.out]; simp [h2, h4], hbl.alloc hbl.size _⟩
      case measure => simp [intOf]; omega
  ·have he := slotsA_end L k m (by omega)
   have HE := Lib.hid he; clear he; go_wp2; go_ret; exact says (sl_some HS.out HE.out).symm hbl0
end Go.Proofs.Ytcbijikalfodnaa.Cod
namespace Go.Proofs.Ytcbijikalfodnaa.Cod
open Go Go.RowKit
def pfw (L : List Ins) : Nat → Option Nat
 | 0 => some 0
 | i + 1 => match pfw L i with
   | none => none
   | some a => if skip L a < 0 then none else some (skip L a).toNat
theorem pfw_none {L : List Ins} {i n : Nat} (h : pfw L i = none) (hn : i ≤ n) : pfw L n = none := by
 obtain ⟨d, rfl⟩ : ∃ d, n = i + d := ⟨n - i, by omega⟩; clear hn
 induction d with
 | zero => exact h
 | succ d ih => show pfw L (i + d + 1) = none; unfold pfw; rw [ih]
theorem pfw_le {L : List Ins} : ∀ {i a : Nat}, pfw L i = some a → a ≤ L.length
 | 0, a, h => by simp [pfw] at h; omega
 | i + 1, a, h => by
   unfold pfw at h; cases h1 : pfw L i with
   | none => simp [h1] at h
   | some q =>
     simp only [h1] at h
     split at h
     ·cases h
     ·have := skip_hi L q
      simp at h
      omega
theorem pfw_succ {L : List Ins} {i a : Nat} (h : pfw L i = some a) : pfw L (i + 1) = if skip L a < 0 then none else some (skip L a).toNat := by
 show (match pfw L i with | none => none | some a => if skip L a < 0 then none else some (skip L a).toNat) = _; rw [h]
theorem sk_good : ∀ (l : List Ins) (n j : Nat), sk l n = some j → ∀ i ∈ l.take j, i.bad = false
 | l, 0, j, h => by rw [sk_zero] at h; cases h; simp
 | [], n + 1, j, h => by simp [sk] at h
 | i :: l, n + 1, j, h => by
   unfold sk at h; cases hb : i.bad with
   | true => simp [hb] at h
   | false =>
     simp only [hb, Bool.false_eq_true, if_false] at h; cases h1 : sk l (n + i.ar) with
     | none => simp [h1] at h
     | some q =>
       simp only [h1, Option.map_some, Option.some.injEq] at h; subst h; intro x hx; simp only [List.take_succ_cons, List.mem_cons] at hx; rcases hx with rfl | hx
       ·exact hb
       ·exact sk_good l _ q h1 x hx
theorem skip_good {L : List Ins} {a : Nat} (h : 0 ≤ skip L a) (ha : ∀ i ∈ L.take a, i.bad = false) : ∀ i ∈ L.take (skip L a).toNat, i.bad = false := by
 rw [skip_nat] at h ⊢; unfold skA at h ⊢; cases h1 : sk (L.drop a) 1 with
 | none => simp [h1] at h
 | some j =>
   simp only []; have hj := sk_good _ _ _ h1; intro i hi; rw [show ((a : Int) + (j : Int)).toNat = a + j from by omega, List.take_add] at hi; rcases List.mem_append.1 hi with h | h
   ·exact ha i h
   ·exact hj i h
theorem pfw_good {L : List Ins} : ∀ {i a : Nat}, pfw L i = some a → ∀ x ∈ L.take a, x.bad = false
 | 0, a, h => by simp [pfw] at h; subst h; simp
 | i + 1, a, h => by
   cases h1 : pfw L i with
   | none => rw [pfw_none h1 (Nat.le_succ i)] at h; cases h
   | some q =>
     rw [pfw_succ h1] at h
     split at h
     ·cases h
     ·simp at h; subst h
      exact skip_good (by omega) (pfw_good h1)
theorem bad_op {i : Ins} (h : i.bad = false) : 1 ≤ i.op ∧ i.op ≤ 6 := by
 simp [Ins.bad] at h; omega
theorem all_good {L : List Ins} {n a : Nat} (h : pfw L n = some a) (hs : skip L a = L.length) : ∀ i ∈ L, i.bad = false := by
 have := skip_good (L := L) (a := a) (by omega) (pfw_good h); rw [hs] at this
 simpa using this
theorem all_op {L : List Ins} {n a : Nat} (h : pfw L n = some a) (hs : skip L a = L.length) : ∀ i ∈ L, 1 ≤ i.op ∧ i.op ≤ 6 := fun i hi => bad_op (all_good h hs i hi)
def tailB (c : Cod) (a : Nat) : Bool := decide ((a : Int) = c.body) && (decide (skip c.l a = c.l.length) && (c.l.all Ins.ok && slotsOk c.l c.slots))
def check (c : Cod) : Int :=
 if 20000 < c.l.length then 3 else if c.args < 0 ∨ 255 < c.args ∨ 1000 < c.name.size ∨ c.slots < 0 then 2 else
 match pfw c.l c.args.toNat with
 | none => 2
 | some a => if tailB c a then 0 else 2
theorem check_long {c : Cod} (h : 20000 < c.l.length) : check c = 3 := by simp [check, h]
theorem check_head {c : Cod} (h : ¬ 20000 < c.l.length) (hh : c.args < 0 ∨ 255 < c.args ∨ 1000 < c.name.size ∨ c.slots < 0) : check c = 2 := by simp [check, h, hh]
theorem check_rest {c : Cod} (h : ¬ 20000 < c.l.length) (hh : ¬ (c.args < 0 ∨ 255 < c.args ∨ 1000 < c.name.size ∨ c.slots < 0)) :
 check c = match pfw c.l c.args.toNat with | none => 2 | some a => if tailB c a then 0 else 2 := by simp [check, h, hh]
theorem check_none {c : Cod} (h : ¬ 20000 < c.l.length) (hh : ¬ (c.args < 0 ∨ 255 < c.args ∨ 1000 < c.name.size ∨ c.slots < 0)) {i : Nat} (hp : pfw c.l i = none) (hi : i ≤ c.args.toNat) : check c = 2 := by
 rw [check_rest h hh, pfw_none hp hi]
theorem check_some {c : Cod} (h : ¬ 20000 < c.l.length) (hh : ¬ (c.args < 0 ∨ 255 < c.args ∨ 1000 < c.name.size ∨ c.slots < 0)) {a : Nat} (hp : pfw c.l c.args.toNat = some a) : check c = if tailB c a then 0 else 2 := by
 rw [check_rest h hh, hp]
end Go.Proofs.Ytcbijikalfodnaa.Cod
namespace Go.Proofs.Ytcbijikalfodnaa.Cod
open Go Go.RowKit Go.Proofs.Ytcbijikalfodnaa.Reg
def Num (n : Int) (w : World) (e : Ending) (w' : World) : Prop := e = .returned (.int .i64 n) ∧ Below w.heap.size w w'
theorem num {a b : Int} {w w' : World} (h : a = b) (hb : Below w.heap.size w w') : Num b w (.returned (.int .i64 a)) w' := ⟨by rw [h], hb⟩
def ChRel (L : List Ins) (q : Nat) (W : World) (n c : Value) (wr : World) : Prop :=
 ∃ i a : Nat, i ≤ q ∧ c = .int .i64 i ∧ n = .int .i64 a ∧ pfw L i = some a ∧ Below W.heap.size W wr
theorem pf_step {L : List Ins} {i a : Nat} (h : pfw L i = some a) (hs : ¬ skip L a < 0) : pfw L (i + 1) = some (skip L a).toNat := by rw [pfw_succ h, if_neg hs]
theorem pf_stop {L : List Ins} {i a : Nat} (h : pfw L i = some a) (hs : skip L a < 0) : pfw L (i + 1) = none := by rw [pfw_succ h, if_pos hs]
theorem go_check (c : Cod) (v : Value) (w : World) (hv : InsSl w v c.l) :
 Calls Try.prog 12 #[codVal c v] w (Num (check c) w) := by
 obtain ⟨aa, cap, rfl, hc⟩ := hv
 by_cases hlen : 20000 < c.l.length
 ·have hR := check_long hlen
  have HR := Lib.hid hR; clear hR hc
  go_enter Try.func12, Try.ntmps12
  go_wp2; go_ret; exact num HR.out.symm ((Below.refl _ _).alloc (Nat.le_refl _) _)
 by_cases hh : c.args < 0 ∨ 255 < c.args ∨ 1000 < c.name.size ∨ c.slots < 0
 ·have hR := check_head hlen hh
  have HR := Lib.hid hR; clear hR hc
  go_enter Try.func12, Try.ntmps12
  go_wp2
  all_goals first
   | (go_ret; exact num HR.out.symm ((Below.refl _ _).alloc (Nat.le_refl _) _))
   | (exfalso; omega)
 have hnone := fun i hp hi => check_none (i := i) hlen hh hp hi
 have hsome := fun a hp => check_some (a := a) hlen hh hp
 obtain ⟨nm, ar, sl, bo, L⟩ := c; dsimp only at *; have h1 : ¬ ar < 0 := by omega
 have h2 : ¬ 255 < ar := by omega
 have h3 : ¬ 1000 < nm.size := by omega
 have h4 : ¬ sl < 0 := by omega
 clear hh; obtain ⟨n, rfl⟩ : ∃ n : Nat, ar = n := ⟨ar.toNat, by omega⟩; simp only [Int.toNat_natCast] at hnone hsome; have HN := Lib.hid hnone; have HS := Lib.hid hsome; have hv : InsSl w (.slice aa L.length cap) L := ⟨aa, cap, rfl, hc⟩; have HV := Lib.hid hv; have hW0 : Below w.heap.size w (w.alloc (.cells #[.string nm, .int .i64 n, .int .i64 sl, .int .i64 bo, .slice aa L.length cap] 30)) := (Below.refl _ _).alloc (Nat.le_refl _) _; have hf : ∀ j, (w.alloc (.cells #[.string nm, .int .i64 n, .int .i64 sl, .int .i64 bo, .slice aa L.length cap] 30)).cell? ⟨w.heap.size, j, none⟩ = #[Value.string nm, .int .i64 n, .int .i64 sl, .int .i64 bo, .slice aa L.length cap][j]? := fun j => World.cell?_alloc_at _ _ _ _ rfl
 have hlt : w.heap.size < (w.alloc (.cells #[.string nm, .int .i64 n, .int .i64 sl, .int .i64 bo, .slice aa L.length cap] 30)).heap.size := by simp
 have HF := Lib.hid hf; clear hnone hsome hc hv hf
 go_enter Try.func12, Try.ntmps12
 go_wp2; generalize (w.alloc (.cells #[.string nm, .int .i64 n, .int .i64 sl, .int .i64 bo, .slice aa L.length cap] 30)) = W at *; have hst : ChRel L n W (.int .i64 ((0 : Nat) : Int)) (.int .i64 ((0 : Nat) : Int)) W := ⟨0, 0, by omega, rfl, rfl, rfl, Below.refl _ _⟩; have H := Lib.hid hst; clear hst
 go_loopw [3, 29] (fun a i wr => ChRel L n W a i wr) (fun _ c _ => n - (intOf c).toNat)
 case atStart => exact H.out
 case round =>
  obtain ⟨i, a, hin, rfl, rfl, hp, hbl⟩ := hrel; have HP := Lib.hid hp; have hbl0 : Below w.heap.size w wr := hW0.trans (hbl.mono (by omega)); have g : ∀ j, wr.cell? ⟨w.heap.size, j, none⟩ = #[Value.string nm, .int .i64 n, .int .i64 sl, .int .i64 bo, .slice aa L.length cap][j]? := fun j => (hbl.cell (p := ⟨w.heap.size, j, none⟩) hlt).trans (HF.out j)
  have g0 := g 0; have g1 := g 1; have g2 := g 2; have g3 := g 3; have g4 := g 4; have hVr := HV.out.below hbl0; have HVr := Lib.hid hVr; have hltr : w.heap.size < wr.heap.size := by have := hbl.size; omega
  clear hp H g hVr
  by_cases hi : i < n
  ·by_cases hs : skip L a < 0
   ·go_wp2_with (go_at_call 30; refine (go_skip L _ _ _ HVr.out (by omega)).mono ?_; rintro e w1 ⟨rfl, hb1⟩)
    go_ret; exact num (HN.out (i + 1) (pf_stop HP.out hs) (by omega)).symm (hbl0.trans (hb1.mono hbl0.size))
   ·go_wp2_with (go_at_call 30; refine (go_skip L _ _ _ HVr.out (by omega)).mono ?_; rintro e w1 ⟨rfl, hb1⟩)
    go_roundw
    case rel => exact ⟨i + 1, (skip L a).toNat, by omega, by go_num, by congr 1; omega, pf_step HP.out (by omega), hbl.trans (hb1.mono hbl.size)⟩
    case measure => simp [intOf]; omega
  ·obtain rfl : i = n := by omega
   have hres := HS.out a HP.out; have HR := Lib.hid hres; have hop := fun hs => all_op HP.out hs
   have HO := Lib.hid hop; have hble := pfw_le HP.out; clear hop hres; go_wp2; refine wp_region_rest (by kernel_rfl) ?_; have hd : Below wr.heap.size wr wr.drew := (Below.refl _ _).drew; have hW : Below w.heap.size w wr.drew := hbl0.drew; have hltW : w.heap.size < wr.drew.heap.size := hltr
   have fs : ∀ u, Below wr.drew.heap.size wr.drew u → u.cell? ⟨w.heap.size, 0, none⟩ = some (.string nm) ∧ u.cell? ⟨w.heap.size, 1, none⟩ = some (.int .i64 i) ∧ u.cell? ⟨w.heap.size, 2, none⟩ = some (.int .i64 sl) ∧ u.cell? ⟨w.heap.size, 3, none⟩ = some (.int .i64 bo) ∧ u.cell? ⟨w.heap.size, 4, none⟩ = some (.slice aa L.length cap) := fun u hu =>
    ⟨((hd.trans hu).cell (p := ⟨w.heap.size, 0, none⟩) hltr).trans g0, ((hd.trans hu).cell (p := ⟨w.heap.size, 1, none⟩) hltr).trans g1, ((hd.trans hu).cell (p := ⟨w.heap.size, 2, none⟩) hltr).trans g2, ((hd.trans hu).cell (p := ⟨w.heap.size, 3, none⟩) hltr).trans g3, ((hd.trans hu).cell (p := ⟨w.heap.size, 4, none⟩) hltr).trans g4⟩
   have FS := Lib.hid fs; clear fs g0 g1 g2 g3 g4; generalize wr.drew = W0 at *
   by_cases hbo : (a : Int) = bo
   ·have hbo' : ((a : Int) != bo) = false := by simpa using hbo
    have HBO := Lib.hid hbo; clear hbo; refine rest_ops 0 3 63 (fun j v _ => match j with | 0 => v = .int .i64 a | 1 => v = .pointer (some ⟨w.heap.size, 3, none⟩) | 2 => v = .int .i64 bo | _ => True) (fun _ _ => none) (by kernel_rfl) (by kernel_rfl) rfl (.inr (by kernel_rfl)) ?hS ?hop ?_
    case hS => intro j v u u' _ _ h _; exact h
    case hop =>
     refine ⟨fun v u hu hs Q' hQ => ?_, fun v u hu hs Q' hQ => ?_, fun v u hu hs Q' hQ => ?_, trivial⟩
     ·simp only [putAll, dstOf]
      have c3 := (FS.out u hu).2.2.2.1; go_wp2; exact ⟨rfl, Below.refl _ _, rfl, fun _ h => nomatch h⟩
     ·simp only [putAll, dstOf]
      have c3 := (FS.out u hu).2.2.2.1; go_wp2; exact ⟨rfl, Below.refl _ _, rfl, fun _ h => nomatch h⟩
     ·simp only [putAll, dstOf]
      have s_1 : v 1 = .pointer (some ⟨w.heap.size, 3, none⟩) := hs 1 (by kernel_rfl) (by decide) (by decide); have c3 := (FS.out u hu).2.2.2.1; go_wp2; exact ⟨rfl, Below.refl _ _, rfl, fun _ h => nomatch h⟩
    intro v u hu hs hap; have s_0 : v 0 = .int .i64 a := hs 0 (by decide) (by decide); have s_1 : v 1 = .pointer (some ⟨w.heap.size, 3, none⟩) := hs 1 (by decide) (by decide); have s_2 : v 2 = .int .i64 bo := hs 2 (by decide) (by decide); simp only [putAll, dstOf]; refine rest_lineL 3 4 [_] rfl (by kernel_rfl) (by decide) (by decide) (by kernel_rfl) ?_; go_wp2; have hu3 := hu; have hw3 : Below w.heap.size w u := hW.trans (hu.mono hW.size); clear hs hap s_0 s_1 s_2 v; refine then_rest ?_; refine rest_ops 4 12 63 (fun j v _ => match j with | 4 => v = .bool false | 5 => v = .pointer (some ⟨w.heap.size, 4, none⟩) | 6 => v = .slice aa L.length cap | 7 => v = .int .i64 a | 8 => v = .int .i64 (skip L a) | 9 => v = .pointer (some ⟨w.heap.size, 4, none⟩) | 10 => v = .slice aa L.length cap | 11 => v = .int .i64 L.length | _ => True) (fun _ _ => none) (by kernel_rfl) (by kernel_rfl) rfl (.inr (by kernel_rfl)) ?hS ?hop ?_
    case hS => intro j v u u' _ _ h _; exact h
    case hop =>
     refine ⟨fun v u hu hs Q' hQ => ?_, fun v u hu hs Q' hQ => ?_, fun v u hu hs Q' hQ => ?_, fun v u hu hs Q' hQ => ?_, fun v u hu hs Q' hQ => ?_, fun v u hu hs Q' hQ => ?_, fun v u hu hs Q' hQ => ?_, fun v u hu hs Q' hQ => ?_, trivial⟩
     ·simp only [putAll, dstOf]
      have q := FS.out _ (hu3.trans (hu.mono hu3.size)); have c4 := q.2.2.2.2; clear q; go_wp2; exact ⟨rfl, Below.refl _ _, rfl, fun _ h => nomatch h⟩
     ·simp only [putAll, dstOf]
      have s_4 : v 4 = .bool false := hs 4 (by kernel_rfl) (by decide) (by decide); have q := FS.out _ (hu3.trans (hu.mono hu3.size)); have c4 := q.2.2.2.2; clear q; go_wp2; exact ⟨rfl, Below.refl _ _, rfl, fun _ h => nomatch h⟩
     ·simp only [putAll, dstOf]
      have s_4 : v 4 = .bool false := hs 4 (by kernel_rfl) (by decide) (by decide); have s_5 : v 5 = .pointer (some ⟨w.heap.size, 4, none⟩) := hs 5 (by kernel_rfl) (by decide) (by decide); have q := FS.out _ (hu3.trans (hu.mono hu3.size)); have c4 := q.2.2.2.2; clear q; go_wp2; exact ⟨rfl, Below.refl _ _, rfl, fun _ h => nomatch h⟩
     ·simp only [putAll, dstOf]
      have s_4 : v 4 = .bool false := hs 4 (by kernel_rfl) (by decide) (by decide); have q := FS.out _ (hu3.trans (hu.mono hu3.size)); have c4 := q.2.2.2.2; clear q; go_wp2; exact ⟨rfl, Below.refl _ _, rfl, fun _ h => nomatch h⟩
     ·simp only [putAll, dstOf]
      have s_4 : v 4 = .bool false := hs 4 (by kernel_rfl) (by decide) (by decide); have s_6 : v 6 = .slice aa L.length cap := hs 6 (by kernel_rfl) (by decide) (by decide); have s_7 : v 7 = .int .i64 a := hs 7 (by kernel_rfl) (by decide) (by decide); have q := FS.out _ (hu3.trans (hu.mono hu3.size)); have c4 := q.2.2.2.2; clear q
      go_wp2_with (go_at_call 30; refine (go_skip L _ _ _ (HV.out.below (hw3.trans (hu.mono hw3.size))) (by omega)).mono ?_; rintro e w1 ⟨rfl, hb1⟩)
      exact ⟨rfl, hb1, rfl, fun _ h => nomatch h⟩
     ·simp only [putAll, dstOf]
      have s_4 : v 4 = .bool false := hs 4 (by kernel_rfl) (by decide) (by decide); have q := FS.out _ (hu3.trans (hu.mono hu3.size)); have c4 := q.2.2.2.2; clear q; go_wp2; exact ⟨rfl, Below.refl _ _, rfl, fun _ h => nomatch h⟩
     ·simp only [putAll, dstOf]
      have s_4 : v 4 = .bool false := hs 4 (by kernel_rfl) (by decide) (by decide); have s_9 : v 9 = .pointer (some ⟨w.heap.size, 4, none⟩) := hs 9 (by kernel_rfl) (by decide) (by decide); have q := FS.out _ (hu3.trans (hu.mono hu3.size)); have c4 := q.2.2.2.2; clear q; go_wp2; exact ⟨rfl, Below.refl _ _, rfl, fun _ h => nomatch h⟩
     ·simp only [putAll, dstOf]
      have s_4 : v 4 = .bool false := hs 4 (by kernel_rfl) (by decide) (by decide); have s_10 : v 10 = .slice aa L.length cap := hs 10 (by kernel_rfl) (by decide) (by decide); have q := FS.out _ (hu3.trans (hu.mono hu3.size)); have c4 := q.2.2.2.2; clear q; go_wp2; exact ⟨rfl, Below.refl _ _, rfl, fun _ h => nomatch h⟩
    intro v u hu hs hap; have s_4 : v 4 = .bool false := hs 4 (by decide) (by decide); have s_5 : v 5 = .pointer (some ⟨w.heap.size, 4, none⟩) := hs 5 (by decide) (by decide); have s_6 : v 6 = .slice aa L.length cap := hs 6 (by decide) (by decide); have s_7 : v 7 = .int .i64 a := hs 7 (by decide) (by decide); have s_8 : v 8 = .int .i64 (skip L a) := hs 8 (by decide) (by decide); have s_9 : v 9 = .pointer (some ⟨w.heap.size, 4, none⟩) := hs 9 (by decide) (by decide); have s_10 : v 10 = .slice aa L.length cap := hs 10 (by decide) (by decide); have s_11 : v 11 = .int .i64 L.length := hs 11 (by decide) (by decide); simp only [putAll, dstOf]; have hu4 := hu3.trans (hu.mono hu3.size); have hw4 : Below w.heap.size w u := hw3.trans (hu.mono hw3.size); have q := FS.out _ hu4; have c0 := q.1; have c1 := q.2.1; have c2 := q.2.2.1; have c3 := q.2.2.2.1; have c4 := q.2.2.2.2; clear hs hap q hu hu3 hw3
    by_cases hsk : skip L a = L.length
    ·have hsk' : (skip L a != (L.length : Int)) = false := by simpa using hsk
     have ho := HO.out hsk; have HO' := Lib.hid ho; have hgo := go_plain L (.slice aa L.length cap) u (HV.out.below hw4) (by omega) ho; have HG := Lib.hid hgo; have htb : tailB ⟨nm, i, sl, bo, L⟩ a = (L.all Ins.ok && slotsOk L sl) := by simp [tailB, HBO.out]; simp [← HBO.out, hsk]
     have HT := Lib.hid htb; clear htb hsk ho hgo; have hltu : w.heap.size < u.heap.size := by have := hu4.size; omega
     cases hall : L.all Ins.ok
     ·have hr2 := HR.out
      rw [HT.out, hall] at hr2; rw [hall] at HG; have HR2 := Lib.hid hr2; clear hr2 hall; refine rest_lineL 12 25 [_, _, _, _, _, _, _, _, _, _, _, _, _] rfl (by kernel_rfl) (by decide) (by decide) (by kernel_rfl) ?_
      go_wp2_with (go_at_call 31; refine (HG.out).mono ?_; rintro e w1 ⟨rfl, hb1⟩)
      refine then_rest (rest_end (by decide) ?_); go_wp2; go_ret; exact num HR2.out.symm (hw4.trans (hb1.mono hw4.size))
     ·rw [hall] at HG
      have hal : Hid (L.all Ins.ok = true) := Lib.hid hall; clear hall; cases hsl : slotsOk L sl
      all_goals
       have hr2 := HR.out; rw [HT.out, hal.out, hsl] at hr2; have HR2 := Lib.hid hr2; have HSL := Lib.hid hsl; clear hr2 hsl; refine rest_lineL 12 25 [_, _, _, _, _, _, _, _, _, _, _, _, _] rfl (by kernel_rfl) (by decide) (by decide) (by kernel_rfl) ?_
       go_wp2_with (first | (go_at_call 31; refine (HG.out).mono ?_; rintro e w1 ⟨rfl, hb1⟩; have d0 := (hb1.cell (p := ⟨w.heap.size, 0, none⟩) hltu).trans c0; have d1 := (hb1.cell (p := ⟨w.heap.size, 1, none⟩) hltu).trans c1; have d2 := (hb1.cell (p := ⟨w.heap.size, 2, none⟩) hltu).trans c2; have d3 := (hb1.cell (p := ⟨w.heap.size, 3, none⟩) hltu).trans c3; have d4 := (hb1.cell (p := ⟨w.heap.size, 4, none⟩) hltu).trans c4; have hw5 := hw4.trans (hb1.mono hw4.size)) | (go_at_call 32; refine (go_slots ⟨nm, i, sl, bo, L⟩ _ _ (HV.out.below hw5) (by dsimp only; omega)).mono ?_; rintro e w2 ⟨rfl, hb2⟩; simp only [HSL.out]))
       refine then_rest (rest_end (by decide) ?_); go_wp2; go_ret; exact num HR2.out.symm (hw5.trans (hb2.mono hw5.size))
    ·have hsk' : (skip L a != (L.length : Int)) = true := by simpa using hsk
     have htb : tailB ⟨nm, i, sl, bo, L⟩ a = false := by simp [tailB, hsk]
     have hr2 := HR.out; rw [htb] at hr2; have HR2 := Lib.hid hr2; clear htb hsk hr2; refine rest_lineL 12 25 [_, _, _, _, _, _, _, _, _, _, _, _, _] rfl (by kernel_rfl) (by decide) (by decide) (by kernel_rfl) ?_; go_wp2; refine then_rest (rest_end (by decide) ?_); go_wp2; go_ret; exact num HR2.out.symm hw4
   ·have hbo' : ((a : Int) != bo) = true := by simpa using hbo
    have htb : tailB ⟨nm, i, sl, bo, L⟩ a = false := by simp [tailB, hbo]
    have hr2 := HR.out; rw [htb] at hr2; have HR2 := Lib.hid hr2; clear htb hbo hr2; refine rest_ops 0 3 63 (fun j v _ => match j with | 0 => v = .int .i64 a | 1 => v = .pointer (some ⟨w.heap.size, 3, none⟩) | 2 => v = .int .i64 bo | _ => True) (fun _ _ => none) (by kernel_rfl) (by kernel_rfl) rfl (.inr (by kernel_rfl)) ?hS ?hop ?_
    case hS => intro j v u u' _ _ h _; exact h
    case hop =>
     refine ⟨fun v u hu hs Q' hQ => ?_, fun v u hu hs Q' hQ => ?_, fun v u hu hs Q' hQ => ?_, trivial⟩
     ·simp only [putAll, dstOf]
      have c3 := (FS.out u hu).2.2.2.1; go_wp2; exact ⟨rfl, Below.refl _ _, rfl, fun _ h => nomatch h⟩
     ·simp only [putAll, dstOf]
      have c3 := (FS.out u hu).2.2.2.1; go_wp2; exact ⟨rfl, Below.refl _ _, rfl, fun _ h => nomatch h⟩
     ·simp only [putAll, dstOf]
      have s_1 : v 1 = .pointer (some ⟨w.heap.size, 3, none⟩) := hs 1 (by kernel_rfl) (by decide) (by decide); have c3 := (FS.out u hu).2.2.2.1; go_wp2; exact ⟨rfl, Below.refl _ _, rfl, fun _ h => nomatch h⟩
    intro v u hu hs hap; have s_0 : v 0 = .int .i64 a := hs 0 (by decide) (by decide); have s_1 : v 1 = .pointer (some ⟨w.heap.size, 3, none⟩) := hs 1 (by decide) (by decide); have s_2 : v 2 = .int .i64 bo := hs 2 (by decide) (by decide); simp only [putAll, dstOf]; refine rest_lineL 3 4 [_] rfl (by kernel_rfl) (by decide) (by decide) (by kernel_rfl) ?_; go_wp2; have hw3 : Below w.heap.size w u := hW.trans (hu.mono hW.size); clear hs hap s_0 s_1 s_2 v; refine then_rest ?_; refine rest_ops 4 12 63 (fun j v _ => match j with | 4 => v = .bool true | _ => True) (fun _ _ => none) (by kernel_rfl) (by kernel_rfl) rfl (.inr (by kernel_rfl)) ?hS ?hop ?_
    case hS => intro j v u u' _ _ h _; exact h
    case hop =>
     refine ⟨fun v u hu hs Q' hQ => ?_, fun v u hu hs Q' hQ => ?_, fun v u hu hs Q' hQ => ?_, fun v u hu hs Q' hQ => ?_, fun v u hu hs Q' hQ => ?_, fun v u hu hs Q' hQ => ?_, fun v u hu hs Q' hQ => ?_, fun v u hu hs Q' hQ => ?_, trivial⟩
     ·simp only [putAll, dstOf]
      go_wp2; exact ⟨rfl, Below.refl _ _, rfl, fun _ h => nomatch h⟩
     ·simp only [putAll, dstOf]
      have s_4 : v 4 = .bool true := hs 4 (by kernel_rfl) (by decide) (by decide); go_wp2; exact ⟨rfl, Below.refl _ _, trivial, fun _ h => nomatch h⟩
     ·simp only [putAll, dstOf]
      have s_4 : v 4 = .bool true := hs 4 (by kernel_rfl) (by decide) (by decide); go_wp2; exact ⟨rfl, Below.refl _ _, trivial, fun _ h => nomatch h⟩
     ·simp only [putAll, dstOf]
      have s_4 : v 4 = .bool true := hs 4 (by kernel_rfl) (by decide) (by decide); go_wp2; exact ⟨rfl, Below.refl _ _, trivial, fun _ h => nomatch h⟩
     ·simp only [putAll, dstOf]
      have s_4 : v 4 = .bool true := hs 4 (by kernel_rfl) (by decide) (by decide); go_wp2; exact ⟨rfl, Below.refl _ _, trivial, fun _ h => nomatch h⟩
     ·simp only [putAll, dstOf]
      have s_4 : v 4 = .bool true := hs 4 (by kernel_rfl) (by decide) (by decide); go_wp2; exact ⟨rfl, Below.refl _ _, trivial, fun _ h => nomatch h⟩
     ·simp only [putAll, dstOf]
      have s_4 : v 4 = .bool true := hs 4 (by kernel_rfl) (by decide) (by decide); go_wp2; exact ⟨rfl, Below.refl _ _, trivial, fun _ h => nomatch h⟩
     ·simp only [putAll, dstOf]
      have s_4 : v 4 = .bool true := hs 4 (by kernel_rfl) (by decide) (by decide); go_wp2; exact ⟨rfl, Below.refl _ _, trivial, fun _ h => nomatch h⟩
    intro v u hu hs hap; have s_4 : v 4 = .bool true := hs 4 (by decide) (by decide); simp only [putAll, dstOf]; have hw4 : Below w.heap.size w u := hw3.trans (hu.mono hw3.size); clear hs hap; refine rest_lineL 12 25 [_, _, _, _, _, _, _, _, _, _, _, _, _] rfl (by kernel_rfl) (by decide) (by decide) (by kernel_rfl) ?_; go_wp2; refine then_rest (rest_end (by decide) ?_); go_wp2; go_ret; exact num HR2.out.symm hw4
def Ins.cells (i : Ins) : List Value := [.int .i64 i.op, .int .i64 i.a, .int .i64 i.n, .string i.s]
def flat (L : List Ins) : List Value := L.flatMap Ins.cells
theorem three (w : World) (a b c : Obj) : (((w.alloc a).alloc b).alloc c).heap[w.heap.size]? = some a ∧ (((w.alloc a).alloc b).alloc c).heap[w.heap.size + 1]? = some b ∧ (((w.alloc a).alloc b).alloc c).heap[w.heap.size + 2]? = some c ∧
 (((w.alloc a).alloc b).alloc c).heap.size = w.heap.size + 3 ∧ Below w.heap.size w (((w.alloc a).alloc b).alloc c) := by
 refine ⟨?_, ?_, ?_, by simp, (((Below.refl _ _).alloc (Nat.le_refl _) _).alloc (by simp) _).alloc (by simp; omega) _⟩
 ·rw [Below.heap_alloc _ _ _ (by simp; omega), heap_alloc2_old]
 ·rw [Below.heap_alloc _ _ _ (by simp), show w.heap.size + 1 = (w.alloc a).heap.size from by simp, heap_alloc_new]
 ·rw [show w.heap.size + 2 = ((w.alloc a).alloc b).heap.size from by simp, heap_alloc_new]
theorem two (w : World) (a b : Obj) : ((w.alloc a).alloc b).heap[w.heap.size]? = some a ∧ ((w.alloc a).alloc b).heap[w.heap.size + 1]? = some b ∧ ((w.alloc a).alloc b).heap.size = w.heap.size + 2 ∧ Below w.heap.size w ((w.alloc a).alloc b) :=
 ⟨heap_alloc2_old w a b, heap_alloc2_new w a b, by simp, ((Below.refl _ _).alloc (Nat.le_refl _) _).alloc (by simp) _⟩
end Go.Proofs.Ytcbijikalfodnaa.Cod
namespace Go.Proofs.Ytcbijikalfodnaa.Tms
open Go Go.RowKit Go.Proofs.Ytcbijikalfodnaa.Reg Go.Proofs.Ytcbijikalfodnaa.Rws Go.Proofs.Ytcbijikalfodnaa.Cod
theorem skip_sk {L : List Ins} {a : Nat} (h : ¬ skip L a < 0) : ∃ j, sk (L.drop a) 1 = some j ∧ skip L a = ((a + j : Nat) : Int) := by
 rw [skip_nat] at h ⊢; unfold skA at h ⊢; cases hs : sk (L.drop a) 1 with
 | none => rw [hs] at h; simp at h
 | some j => exact ⟨j, rfl, by simp⟩
theorem pfw_sk {L : List Ins} : ∀ {n a : Nat}, pfw L n = some a → sk L n = some a
 | 0, a, h => by simp only [pfw, Option.some.injEq] at h; subst h; exact sk_zero L
 | n + 1, a, h => by
   unfold pfw at h; cases hp : pfw L n with
   | none => rw [hp] at h; cases h
   | some b =>
     rw [hp] at h; simp only at h
     split at h
     ·cases h
     ·rename_i hs
      obtain ⟨j, h1, h2⟩ := skip_sk hs; rw [h2] at h; simp only [Option.some.injEq] at h; subst h; have := sk_join L n 1 b j (pfw_sk hp) h1; rw [this, Int.toNat_natCast]
theorem slotsN_le : ∀ (l : List Ins) (m n : Nat), slotsN l m = some n → n ≤ m + l.length
 | [], m, n, h => by simp only [slotsN, Option.some.injEq] at h; subst h; simp
 | i :: l, m, n, h => by
   simp only [slotsN] at h
   split at h
   ·split at h
    ·have := slotsN_le l _ n h; simp only [List.length_cons]; omega
    ·cases h
   ·split at h
    ·cases h
    ·have := slotsN_le l _ n h; simp only [List.length_cons]; omega
structure CodOk (c : Cod) (a j s : Nat) : Prop where
 len : c.l.length ≤ 20000
 args : 0 ≤ c.args ∧ c.args ≤ 255
 name : c.name.size ≤ 1000
 sk : sk c.l c.args.toNat = some a
 body : (a : Int) = c.body
 rest : Cod.sk (c.l.drop a) 1 = some j
 all : a + j = c.l.length
 ok : c.l.all Ins.ok = true
 slots : slotsN c.l 0 = some s ∧ (s : Int) = c.slots
theorem check_facts {c : Cod} (h : check c = 0) : ∃ a j s, CodOk c a j s := by
 unfold check at h
 split at h
 ·cases h
 rename_i h1
 split at h
 ·cases h
 rename_i h2
 cases hp : pfw c.l c.args.toNat with
 | none => rw [hp] at h; cases h
 | some a =>
   rw [hp] at h; simp only at h
   split at h
   ·rename_i ht
    simp only [tailB, Bool.and_eq_true, decide_eq_true_eq] at ht; obtain ⟨t1, t2, t3, t4⟩ := ht; obtain ⟨j, e1, e2⟩ := skip_sk (L := c.l) (a := a) (by rw [t2]; omega); rw [t2] at e2; unfold slotsOk at t4; cases hs : slotsN c.l 0 with
    | none => rw [hs] at t4; cases t4
    | some s =>
      rw [hs] at t4; exact ⟨a, j, s, by omega, by omega, by omega, pfw_sk hp, t1, e1, by omega, t3, hs, by simpa using t4⟩
   ·cases h
abbrev zero4 : Array Value := #[.int .i64 0, .int .i64 0, .string ⟨#[]⟩, .slice none 0 0]
structure BkCtx (w wr : World) : Prop where
 hr : wr.heap[w.heap.size + 1]? = some (.cells zero4 49 (0, 0))
 br : wr.heap[w.heap.size + 1 + 1]? = some (.cells zero4 49 (0, 0))
 bel : Below w.heap.size w wr
 big : w.heap.size + 3 ≤ wr.heap.size
theorem BkCtx.on {w wr w' : World} (h : BkCtx w wr) (hb : Below wr.heap.size wr w') : BkCtx w w' := by
 have := h.big; exact ⟨(hb.block _ (by omega)).trans h.hr, (hb.block _ (by omega)).trans h.br, h.bel.trans (hb.mono h.bel.size), Nat.le_trans h.big hb.size⟩
theorem BkCtx.keeps {w wr w' : World} {M : Nat → Prop} (h : BkCtx w wr) (hb : Keeps wr w' M) (hM : ∀ b, M b → w.heap.size + 3 ≤ b) : BkCtx w w' := by
 have := h.big; have keep : ∀ b, b < w.heap.size + 3 → w'.heap[b]? = wr.heap[b]? := fun b hlt => hb.block b (by omega) fun e => by have := hM b e; omega
 exact ⟨(keep _ (by omega)).trans h.hr, (keep _ (by omega)).trans h.br, h.bel.trans ⟨hb.os, hb.tape, hb.output, hb.size, fun b hlt => keep b (by omega)⟩, Nat.le_trans h.big hb.size⟩
end Go.Proofs.Ytcbijikalfodnaa.Tms
namespace Go.Proofs.Ytcbijikalfodnaa.Rws
open Go Go.RowKit
section
variable {α : Type} {K : Kind α}
theorem Each.get {w : World} {P : Nat → Prop} : ∀ {xss : List (List Value)} {l : List α}, Each K w P xss l → ∀ i (h : i < l.length), ∃ cs, xss[i]? = some cs ∧ K.R w P cs l[i]
 | [], [], _, i, h => by simp at h
 | x :: xss, a :: l, h, 0, _ => ⟨x, rfl, h.1⟩
 | x :: xss, a :: l, h, i + 1, hi => by
   obtain ⟨cs, e, hr⟩ := Each.get h.2 i (by simpa using hi); exact ⟨cs, by simpa using e, by simpa using hr⟩
 | [], _ :: _, h, _, _ => h.elim
 | _ :: _, [], h, _, _ => h.elim
theorem Each.flatAt {w : World} {P : Nat → Prop} : ∀ {xss : List (List Value)} {l : List α}, Each K w P xss l → ∀ i cs, xss[i]? = some cs → ∀ j, j < K.sz → xss.flatten[i * K.sz + j]? = cs[j]?
 | [], [], _, i, cs, e, _, _ => by simp at e
 | x :: xss, a :: l, h, 0, cs, e, j, hj => by
   obtain rfl : x = cs := by simpa using e
   have hl := K.len h.1; simp only [List.flatten_cons, Nat.zero_mul, Nat.zero_add]; rw [List.getElem?_append_left (by omega)]
 | x :: xss, a :: l, h, i + 1, cs, e, j, hj => by
   have hl := K.len h.1; have := Each.flatAt h.2 i cs (by simpa using e) j hj; simp only [List.flatten_cons]; rw [Nat.add_mul, Nat.one_mul, List.getElem?_append_right (by omega), ← this]
   congr 1
   omega
 | [], _ :: _, h, _, _, _, _, _ => h.elim
 | _ :: _, [], h, _, _, _, _, _ => h.elim
theorem Each.setAt {w : World} {P : Nat → Prop} {a' : α} {u : Value} : ∀ {xss : List (List Value)} {l : List α}, Each K w P xss l → ∀ i cs, xss[i]? = some cs → ∀ j, j < K.sz → K.R w P (cs.set j u) a' →
 ∃ yss, Each K w P yss (l.set i a') ∧ yss.flatten = xss.flatten.set (i * K.sz + j) u
 | [], [], _, i, cs, e, _, _, _ => by simp at e
 | x :: xss, a :: l, h, 0, cs, e, j, hj, hr => by
   obtain rfl : x = cs := by simpa using e
   have hl := K.len h.1; refine ⟨x.set j u :: xss, ⟨hr, h.2⟩, ?_⟩; simp only [List.flatten_cons, Nat.zero_mul, Nat.zero_add]; rw [List.set_append_left _ _ (by omega)]
 | x :: xss, a :: l, h, i + 1, cs, e, j, hj, hr => by
   have hl := K.len h.1; obtain ⟨yss, h1, h2⟩ := Each.setAt h.2 i cs (by simpa using e) j hj hr; refine ⟨x :: yss, ⟨h.1, h1⟩, ?_⟩; simp only [List.flatten_cons, h2]; rw [Nat.add_mul, Nat.one_mul, List.set_append_right _ _ (by omega)]
   congr 2
   omega
 | [], _ :: _, h, _, _, _, _, _, _ => h.elim
 | _ :: _, [], h, _, _, _, _, _, _ => h.elim
theorem Each.takeN {w : World} {P : Nat → Prop} : ∀ {xss : List (List Value)} {l : List α}, Each K w P xss l → ∀ n, Each K w P (xss.take n) (l.take n) ∧ (xss.take n).flatten = xss.flatten.take (n * K.sz)
 | [], [], _, n => by simp [Each]
 | x :: xss, a :: l, h, 0 => by simp [Each]
 | x :: xss, a :: l, h, n + 1 => by
   have hl := K.len h.1; obtain ⟨h1, h2⟩ := Each.takeN h.2 n; refine ⟨⟨h.1, h1⟩, ?_⟩; simp only [List.take_succ_cons, List.flatten_cons, h2]; rw [Nat.add_mul, Nat.one_mul, List.take_append, List.take_of_length_le (l := x) (by omega), show n * K.sz + K.sz - x.length = n * K.sz by omega]
 | [], _ :: _, h, _ => h.elim
 | _ :: _, [], h, _ => h.elim
theorem Own.elem {w : World} {base g n cap : Nat} {P : Nat → Prop} {l : List α} (h : Own K w base P (.slice (some ⟨g, 0, none⟩) n cap) l) (hn : l.length = n) (i : Nat) (hi : i < l.length) :
 ∃ cs, K.R w (fun b => P b ∧ g ≠ b ∧ b < w.heap.size) cs l[i] ∧ ∀ j, j < K.sz → w.cell? ⟨g, i * K.sz + j, none⟩ = cs[j]? := by
 obtain ⟨xss, h1, h2⟩ := h; obtain ⟨cs, e, hr⟩ := h2.get i hi; refine ⟨cs, K.mono (fun b hb => ⟨hb.1, fun e => hb.2.1 (by simp [Value.ownBlock, e]), hb.2.2⟩) (fun _ _ _ => rfl) hr, fun j hj => ?_⟩; rw [hn] at h1
 have hlt : i * K.sz + j < n * K.sz := by
  have : (i + 1) * K.sz ≤ n * K.sz := Nat.mul_le_mul_right _ (by omega); rw [Nat.add_mul, Nat.one_mul] at this; omega
 rw [h1.cellAt _ hlt]; exact h2.flatAt i cs e j hj
theorem Own.thaw {w : World} {base g n cap : Nat} {P : Nat → Prop} {l : List α} (h : Own K w base P (.slice (some ⟨g, 0, none⟩) n cap) l) (hn : l.length = n) (j : Nat) : w.frozen? ⟨g, j, none⟩ = false := by
 obtain ⟨xss, h1, h2⟩ := h; rw [hn] at h1; exact h1.frozenAt j
theorem Own.caps {w : World} {base g n cap : Nat} {P : Nat → Prop} {l : List α} (h : Own K w base P (.slice (some ⟨g, 0, none⟩) n cap) l) : n ≤ cap ∧ cap ≤ maxLen := by
 obtain ⟨xss, ⟨-, h1⟩, -⟩ := h; rcases h1 with ⟨e, -⟩ | ⟨g', cap', cur, e, -, -, h2, h3, -⟩
 ·cases e
 ·simp only [Value.slice.injEq] at e
  obtain ⟨-, rfl, rfl⟩ := e; exact ⟨h2, h3⟩
theorem Own.stored {w : World} {base g n cap : Nat} {P : Nat → Prop} {l : List α} (h : Own K w base P (.slice (some ⟨g, 0, none⟩) n cap) l) (hn : l.length = n) (i : Nat) (hi : i < l.length) (j : Nat) (hj : j < K.sz) (u : Value) (a' : α)
 (hr : ∀ cs, K.R w (fun b => P b ∧ (Value.slice (some ⟨g, 0, none⟩) n cap).ownBlock ≠ some b ∧ b < w.heap.size) cs l[i] → K.R w (fun b => P b ∧ (Value.slice (some ⟨g, 0, none⟩) n cap).ownBlock ≠ some b ∧ b < w.heap.size) (cs.set j u) a') : Own K (w.setCell ⟨g, i * K.sz + j, none⟩ u) base P (.slice (some ⟨g, 0, none⟩) n cap) (l.set i a') := by
 obtain ⟨xss, h1, h2⟩ := h; obtain ⟨cs, e, hr0⟩ := h2.get i hi; obtain ⟨yss, h3, h4⟩ := h2.setAt i cs e j hj (hr _ hr0); rw [hn] at h1; have hs := h1.stored (i * K.sz + j) u; refine ⟨yss, ?_, h3.mono (fun b hb => ⟨hb.1, hb.2.1, by simpa [World.setCell] using hb.2.2⟩) fun b hb hlt => Below.heap_setCell _ _ _ _ (fun e => hb.2.1 (by simp [Value.ownBlock, e]))⟩; rw [List.length_set, hn, h4]; exact hs.1
theorem Own.cut {w : World} {base g n cap m : Nat} {P : Nat → Prop} {l : List α} (h : Own K w base P (.slice (some ⟨g, 0, none⟩) n cap) l) (hn : l.length = n) (hm : m ≤ n) : Own K w base P (.slice (some ⟨g, 0, none⟩) m cap) (l.take m) := by
 obtain ⟨xss, ⟨h0, h1⟩, h2⟩ := h; obtain ⟨h3, h4⟩ := h2.takeN m; have hlen : (l.take m).length = m := by simp; omega
 refine ⟨xss.take m, ⟨by rw [h4, hlen, List.length_take, h0, hn]; exact Nat.min_eq_left (Nat.mul_le_mul_right _ hm), ?_⟩, h3.mono (fun b hb => ⟨hb.1, fun e => hb.2.1 (by simpa [Value.ownBlock] using e), hb.2.2⟩) fun _ _ _ => rfl⟩; rcases h1 with ⟨e, -⟩ | ⟨g', cap', cur, e, hb, hg, hc, hm', hs, ht⟩
 ·cases e
 ·right
  simp only [Value.slice.injEq, Option.some.injEq, Addr.mk.injEq, and_true] at e; obtain ⟨rfl, e2, rfl⟩ := e; refine ⟨g, cap, cur, by rw [hlen], hb, hg, by omega, hm', hs, ?_⟩; rw [hlen, h4, ← ht, List.take_take, Nat.min_eq_left]; rw [hn]; exact Nat.mul_le_mul_right _ hm
end
end Go.Proofs.Ytcbijikalfodnaa.Rws
namespace Go.Proofs.Ytcbijikalfodnaa.Tms
open Go Go.RowKit Go.Proofs.Ytcbijikalfodnaa.Reg
def placeI (L : List Int) (n : Int) : Int := match place L n with
 | some p => (p : Int)
 | none => -1
def NoPl (L : List Int) (n : Int) (k : Nat) : Prop := ∀ i (h : i < L.length), i < k → L[i] ≠ n
def PlRel (L : List Int) (n : Int) (w : World) (vi : Value) (wr : World) : Prop := ∃ k : Nat, k ≤ L.length ∧ vi = .int .i64 k ∧ NoPl L n k ∧ w = wr
mutual
def nfT : Tm → Bool
 | .mk k n s a => (if k ≤ 2 then a.length == 0 && s.data.toList == [] else n == 0) && nfL a
def nfL : List Tm → Bool
 | [] => true
 | t :: l => nfT t && nfL l
end
mutual
theorem mend_nf : ∀ t : Tm, nfT (mendT t) = true
 | .mk k n s a => by
   have hl := mendL_nf a; unfold mendT
   repeat' split
   all_goals simp [nfT, nfL, atomA, atomT, hl]
theorem mendL_nf : ∀ l : List Tm, nfL (mendL l) = true
 | [] => by simp [mendL, nfL]
 | t :: l => by simp [mendL, nfL, mend_nf t, mendL_nf l]
end
mutual
def rvT : Tm → List Int
 | .mk k n _ a => if k = 1 then [n] else rvL [] a
def rvL : List Int → List Tm → List Int
 | L, [] => L
 | L, t :: l => rvL ((rvT t).foldl numL L) l
end
theorem fold_len : ∀ (X L : List Int), (X.foldl numL L).length ≤ L.length + X.length
 | [], L => by simp
 | x :: X, L => by
   have h1 := fold_len X (numL L x); have h2 := numL_len L x; simp only [List.foldl_cons, List.length_cons]; omega
mutual
theorem rvT_len : ∀ t : Tm, (rvT t).length ≤ t.size
 | .mk k n s a => by
   have h := rvL_len [] a; rw [rvT]; simp only [Tm.size]
   split
   ·simp
   ·simp only [List.length_nil, Nat.zero_add] at h; omega
theorem rvL_len : ∀ (M : List Int) (l : List Tm), (rvL M l).length ≤ M.length + sizeL l
 | M, [] => by simp [rvL, sizeL]
 | M, t :: l => by
   have h1 := rvL_len ((rvT t).foldl numL M) l; have h2 := rvT_len t; have h3 := fold_len (rvT t) M; rw [rvL]; simp only [sizeL]; omega
end
theorem place_mem : ∀ {L : List Int} {n : Int}, (place L n).isSome = true ↔ n ∈ L
 | [], n => by simp [place]
 | x :: L, n => by
   unfold place
   split
   ·rename_i e; simp [e]
   ·rename_i e; rw [Option.isSome_map, place_mem]; simp [e]
theorem numL_in {L : List Int} {n : Int} (h : n ∈ L) : numL L n = L := by unfold numL; rw [if_pos (place_mem.2 h)]
theorem numL_out {L : List Int} {n : Int} (h : n ∉ L) : numL L n = L ++ [n] := by unfold numL; rw [if_neg fun e => h (place_mem.1 e)]
theorem mem_numL {L : List Int} {n y : Int} (h : y ∈ L) : y ∈ numL L n := by unfold numL; split; exact h; exact List.mem_append_left _ h
theorem self_numL (L : List Int) (n : Int) : n ∈ numL L n := by
 by_cases h : n ∈ L
 ·rw [numL_in h]; exact h
 ·rw [numL_out h]; simp
theorem mem_fold : ∀ {X L : List Int} {y : Int}, y ∈ L ∨ y ∈ X → y ∈ X.foldl numL L
 | [], L, y, h => by simpa using h
 | x :: X, L, y, h => by
   rw [List.foldl_cons]
   apply mem_fold
   rcases h with h | h
   ·exact .inl (mem_numL h)
   ·rcases List.mem_cons.1 h with rfl | h
    ·exact .inl (self_numL _ _)
    ·exact .inr h
theorem fold_num (L M : List Int) (x : Int) : (numL M x).foldl numL L = numL (M.foldl numL L) x := by
 by_cases h : x ∈ M
 ·rw [numL_in h, numL_in (mem_fold (.inr h))]
 ·rw [numL_out h, List.foldl_append]; rfl
theorem fold_fold : ∀ (X L M : List Int), (X.foldl numL M).foldl numL L = X.foldl numL (M.foldl numL L)
 | [], L, M => rfl
 | x :: X, L, M => by
   rw [List.foldl_cons, List.foldl_cons, fold_fold X, fold_num]
mutual
theorem parts_rv : ∀ (t : Tm) (d : Int) (L : List Int), nfT t = true → (parts d t).foldl takeL L = (rvT t).foldl numL L
 | .mk k n s a, d, L, h => by
   rw [parts, rvT, List.foldl_cons]
   by_cases hk : k = 1
   ·have ha : a = [] := by
     simp only [nfT, Bool.and_eq_true] at h; subst hk
     simp at h
     exact h.1.1
    subst ha; rw [if_pos hk]
    simp [takeL, Tm.k, Tm.n, hk, partsL]
   ·have h2 : nfL a = true := by
     simp only [nfT, Bool.and_eq_true] at h; exact h.2
    rw [if_neg hk]; have := partsL_rv a (d + 1) L [] h2; rw [List.foldl_nil] at this; have e : takeL L (Tm.mk k n s a, d) = L := by simp [takeL, Tm.k, hk]
    rw [e, this]
theorem partsL_rv : ∀ (l : List Tm) (d : Int) (L M : List Int), nfL l = true → (partsL d l).foldl takeL (M.foldl numL L) = (rvL M l).foldl numL L
 | [], d, L, M, h => by simp [partsL, rvL]
 | t :: l, d, L, M, h => by
   simp only [nfL, Bool.and_eq_true] at h; rw [partsL, rvL, List.foldl_append, parts_rv t d _ h.1, ← fold_fold, partsL_rv l d L _ h.2]
end
mutual
def rrT (L : List Int) : Tm → Tm
 | .mk k n s a => if k = 1 then .mk 1 (placeI L n) ⟨#[]⟩ [] else .mk k n s (rrL L a)
def rrL (L : List Int) : List Tm → List Tm
 | [] => []
 | t :: l => rrT L t :: rrL L l
end
theorem rvL_mem : ∀ (l : List Tm) (M : List Int) (y : Int), y ∈ M → y ∈ rvL M l
 | [], M, y, h => h
 | t :: l, M, y, h => by rw [rvL]; exact rvL_mem l _ y (mem_fold (.inl h))
theorem num_place {L : List Int} {n : Int} (h : n ∈ L) : (numP L n : Int) = placeI L n := by
 have := place_mem.2 h; unfold numP placeI; cases hp : place L n with
 | none => rw [hp] at this; cases this
 | some p => rfl
mutual
theorem ren_rr (L : List Int) : ∀ t : Tm, nfT t = true → (∀ y ∈ rvT t, y ∈ L) → renT (fun n => (numP L n : Int)) t = rrT L t
 | .mk k n s a, h, hv => by
   rw [renT, rrT]
   by_cases hk : k = 1
   ·have ha : a = [] ∧ s.data.toList = [] := by
     simp only [nfT, Bool.and_eq_true] at h; subst hk
     simp at h
     exact ⟨h.1.1, by rw [h.1.2]⟩
    obtain ⟨rfl, hs⟩ := ha; obtain ⟨⟨sl⟩⟩ := s; simp only at hs; subst hs; have hn : n ∈ L := hv n (by rw [rvT, if_pos hk]; simp); rw [if_pos hk, if_pos hk, num_place hn, hk, renL]
   ·have h2 : nfL a = true := by
     simp only [nfT, Bool.and_eq_true] at h; exact h.2
    rw [if_neg hk, if_neg hk, renL_rr L a [] h2 fun y hy => hv y (by rw [rvT, if_neg hk]; exact hy)]
theorem renL_rr (L : List Int) : ∀ (l : List Tm) (M : List Int), nfL l = true → (∀ y ∈ rvL M l, y ∈ L) → renL (fun n => (numP L n : Int)) l = rrL L l
 | [], M, h, hv => by rw [renL, rrL]
 | t :: l, M, h, hv => by
   simp only [nfL, Bool.and_eq_true] at h; rw [renL, rrL, ren_rr L t h.1 fun y hy => hv y (by rw [rvL]; exact rvL_mem l _ y (mem_fold (.inr hy))), renL_rr L l _ h.2 fun y hy => hv y (by rw [rvL]; exact hy)]
end
end Go.Proofs.Ytcbijikalfodnaa.Tms
namespace Go.Proofs.Ytcbijikalfodnaa.Tms
open Go Go.RowKit Go.Proofs.Ytcbijikalfodnaa.Reg Go.Proofs.Ytcbijikalfodnaa.Rws
theorem IntSl.imp {w w' : World} {P P' : Nat → Prop} {v : Value} {L : List Int} (h : IntSl w P v L) (hs : w.heap.size ≤ w'.heap.size) (hP : ∀ b, P b → b < w.heap.size → P' b) (hw : ∀ b, P b → b < w.heap.size → w'.heap[b]? = w.heap[b]?) : IntSl w' P' v L := by
 obtain ⟨a, cap, e, h1, h2, h3⟩ := h; refine ⟨a, cap, e, h1, h2, fun i hi => ?_⟩; obtain ⟨b, off, e, hp, hl, hc⟩ := h3 i hi; exact ⟨b, off, e, hP b hp hl, by omega, (World.cell?_of_block (a := ⟨b, off + i, none⟩) (hw b hp hl)).trans hc⟩
end Go.Proofs.Ytcbijikalfodnaa.Tms
namespace Go.Proofs.Ytcbijikalfodnaa.Rws
open Go Go.RowKit
section
variable {α : Type} {K : Kind α}
theorem Each.low {w : World} {P : Nat → Prop} : ∀ {xss : List (List Value)} {l : List α}, Each K w P xss l → Each K w (fun b => P b ∧ b < w.heap.size) xss l
 | [], [], _ => trivial
 | _ :: _, _ :: _, h => ⟨K.lt h.1, Each.low h.2⟩
 | [], _ :: _, h => h.elim
 | _ :: _, [], h => h.elim
end
end Go.Proofs.Ytcbijikalfodnaa.Rws
namespace Go.Proofs.Ytcbijikalfodnaa.Tms
open Go Go.RowKit Go.Proofs.Ytcbijikalfodnaa.Rws
def tmKind : Rws.Kind Tm where
 T := 49
 sz := 4
 R := fun w P cs a => ∃ q c, cs = [.int .i64 a.k, .int .i64 a.n, .string a.s, .slice q a.args.length c] ∧ ArgsFrom w P q 0 a.args
 pos := by decide
 len := by rintro w P cs a ⟨q, c, rfl, -⟩; rfl
 one := by
  rintro w P cs a ⟨q, c, rfl, -⟩ v hv; simp only [List.mem_cons, List.not_mem_nil, or_false] at hv; rcases hv with rfl | rfl | rfl | rfl <;> rfl
 mono := by rintro w w' P P' cs a hP hw ⟨q, c, rfl, h⟩; exact ⟨q, c, rfl, ArgsFrom.imp hP hw _ _ _ h⟩
 lt := by rintro w P cs a ⟨q, c, rfl, h⟩; exact ⟨q, c, rfl, ArgsFrom.lt _ _ _ h⟩
theorem IsTm.cells {w : World} {P : Nat → Prop} {k n : Int} {s : ByteArray} {a : Option Addr} {len cap : Nat} {t : Tm} (h : IsTm w P (.agg #[.int .i64 k, .int .i64 n, .string s, .slice a len cap]) t) : tmKind.R w P [.int .i64 k, .int .i64 n, .string s, .slice a len cap] t := by
 obtain ⟨a', cap', e, h⟩ := h
 simp at e
 obtain ⟨rfl, rfl, rfl, rfl, rfl, rfl⟩ := e; exact ⟨a, cap, rfl, h⟩
theorem Own.mono {α : Type} {K : Rws.Kind α} {w : World} {base : Nat} {P P' : Nat → Prop} {v : Value} {l : List α} (h : Own K w base P v l) (hP : ∀ b, P b → b < w.heap.size → P' b) : Own K w base P' v l := by
 obtain ⟨xss, h1, h2⟩ := h; exact ⟨xss, h1, h2.mono (fun b h => ⟨hP b h.1 h.2.2, h.2⟩) fun _ _ _ => rfl⟩
def zeroTm : Tm := .mk 0 0 ⟨#[]⟩ []
end Go.Proofs.Ytcbijikalfodnaa.Tms
