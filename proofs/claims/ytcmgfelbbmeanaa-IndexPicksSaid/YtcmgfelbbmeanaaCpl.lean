
/-
  Layer 19: comp.Compile, walked over the program.
-/
import Derived.Test.YtcmgfelbbmeanaaPut
namespace Go.Proofs.Ytcmgfelbbmeanaa.Tms
open Go Go.RowKit Go.Proofs.Ytcmgfelbbmeanaa.Reg Go.Proofs.Ytcmgfelbbmeanaa.Rws Go.Proofs.Ytcmgfelbbmeanaa.Cod Go.Proofs.Ytcmgfelbbmeanaa.Maps
set_option linter.unusedVariables false

theorem row5 {w : World} {g : Nat} {y0 y1 y2 y3 y4 : Value} {T : TypeId} {fr : Nat × Nat} (h : w.heap[g]? = some (.cells #[y0, y1, y2, y3, y4] T fr)) :
    w.cell? ⟨g, 0, none⟩ = some y0 ∧ w.cell? ⟨g, 1, none⟩ = some y1 ∧ w.cell? ⟨g, 2, none⟩ = some y2 ∧ w.cell? ⟨g, 3, none⟩ = some y3 ∧ w.cell? ⟨g, 4, none⟩ = some y4 :=
  ⟨cell_of_row w g 0 _ _ _ h, cell_of_row w g 1 _ _ _ h, cell_of_row w g 2 _ _ _ h, cell_of_row w g 3 _ _ _ h, cell_of_row w g 4 _ _ _ h⟩
theorem size_code : (Try.prog.info? 51).map (·.size) = some 5 := by kernel_rfl
theorem one5 (s : ByteArray) (x y z : Int) (a : Option Addr) (l c : Nat) : (#[Value.string s, .int .i64 x, .int .i64 y, .int .i64 z, .slice a l c].all fun v => v.oneCell') = true := by simp [Value.oneCell']
theorem each_ins {w : World} {P : Nat → Prop} : ∀ {xss : List (List Value)} {L : List Ins}, Each insKind w P xss L → ∀ j (h : j < L.length), ∀ k < 4, xss.flatten[j * 4 + k]? = [Value.int .i64 L[j].op, .int .i64 L[j].a, .int .i64 L[j].n, .string L[j].s][k]?
  | [], [], _, j, h, _, _ => by simp at h
  | x :: xss, i :: L, he, j, h, k, hk => by
    have h1 : x = [.int .i64 i.op, .int .i64 i.a, .int .i64 i.n, .string i.s] := he.1
    cases j with
    | zero =>
      subst h1
      rw [List.flatten_cons, List.getElem?_append_left (by simp; omega)]
      simp
    | succ j =>
      have ih := each_ins he.2 j (by simpa using h) k hk
      subst h1
      rw [List.flatten_cons, List.getElem?_append_right (by simp; omega)]
      simp only [List.length_cons, List.length_nil, Nat.zero_add, List.getElem_cons_succ]
      rw [← ih]
      congr 1
      omega
  | [], _ :: _, h, _, _, _, _ => h.elim
  | _ :: _, [], h, _, _, _, _ => h.elim
theorem own_ins {w : World} {base : Nat} {P : Nat → Prop} {lv : Value} {L : List Ins} (h : Own insKind w base P lv L) : InsSl w lv L := by
  rcases h.form with ⟨rfl, e⟩ | ⟨g, c, rfl⟩
  · subst e
    exact InsSl.nil _ _ _
  · obtain ⟨xss, h1, h2⟩ := h
    refine ⟨_, _, rfl, fun j hj => ⟨g, 0, rfl, ?_⟩⟩
    have he := each_ins h2 j hj
    have hc := fun k (hk : k < 4) => (h1.cellAt (j * 4 + k) (show j * 4 + k < L.length * 4 by omega)).trans (he k hk)
    exact ⟨by rw [Nat.zero_add]; exact hc 0 (by omega), by rw [Nat.zero_add]; exact hc 1 (by omega), by rw [Nat.zero_add]; exact hc 2 (by omega), by rw [Nat.zero_add]; exact hc 3 (by omega)⟩

/-- the row's own numbers -/
theorem PutRow.setNb {C : PutC} {S : List Int} {L : List Ins} {lv : Value} {w : World} (h : PutRow C S L lv w) (x : Int) : PutRow { C with nb := x } S L lv (w.setCell ⟨C.cb, 3, none⟩ (.int .i64 x)) ∧ Keeps w (w.setCell ⟨C.cb, 3, none⟩ (.int .i64 x)) (PMine C w) := by
  have keep : ∀ b, b ≠ C.cb → (w.setCell ⟨C.cb, 3, none⟩ (.int .i64 x)).heap[b]? = w.heap[b]? := fun b hne => Below.heap_setCell _ _ _ _ hne
  have hsz : (w.setCell ⟨C.cb, 3, none⟩ (.int .i64 x)).heap.size = w.heap.size := by simp [World.setCell]
  refine ⟨⟨(keep _ h.pc).trans h.prow, ?_, h.times.below (keep _ fun e => h.ct e.symm), h.slots.below (keep _ fun e => h.cs e.symm), h.own.keep (by omega) fun b hlt hq => ?_, h.ne, h.lp, h.lc, h.lt, h.ls, by have := h.base; show C.base ≤ _; omega⟩, rfl, rfl, rfl, by omega, fun b hlt hn => keep b fun e => hn (.inl e)⟩
  · have := heap_setCell_same w C.cb 3 _ _ (.int .i64 x) h.crow
    simpa using this
  · rcases hq with hq | hq
    · exact hq.elim
    · exact keep b fun e => h.nown h.lc (by rw [hq, e])
theorem PutRow.setNs {C : PutC} {S : List Int} {L : List Ins} {lv : Value} {w : World} (h : PutRow C S L lv w) (x : Int) : PutRow { C with ns := x } S L lv (w.setCell ⟨C.cb, 2, none⟩ (.int .i64 x)) ∧ Keeps w (w.setCell ⟨C.cb, 2, none⟩ (.int .i64 x)) (PMine C w) := by
  have keep : ∀ b, b ≠ C.cb → (w.setCell ⟨C.cb, 2, none⟩ (.int .i64 x)).heap[b]? = w.heap[b]? := fun b hne => Below.heap_setCell _ _ _ _ hne
  have hsz : (w.setCell ⟨C.cb, 2, none⟩ (.int .i64 x)).heap.size = w.heap.size := by simp [World.setCell]
  refine ⟨⟨(keep _ h.pc).trans h.prow, ?_, h.times.below (keep _ fun e => h.ct e.symm), h.slots.below (keep _ fun e => h.cs e.symm), h.own.keep (by omega) fun b hlt hq => ?_, h.ne, h.lp, h.lc, h.lt, h.ls, by have := h.base; show C.base ≤ _; omega⟩, rfl, rfl, rfl, by omega, fun b hlt hn => keep b fun e => hn (.inl e)⟩
  · have := heap_setCell_same w C.cb 2 _ _ (.int .i64 x) h.crow
    simpa using this
  · rcases hq with hq | hq
    · exact hq.elim
    · exact keep b fun e => h.nown h.lc (by rw [hq, e])

/-- a clause's code, or what is wrong -/
def zeroCod : Cod := ⟨⟨#[]⟩, 0, 0, 0, []⟩
def oneB (D : List Int) (n : Int) : Bool := D.count n == 1
def compC (h b : Tm) : Cod :=
  ⟨h.s, h.args.length, (patT (oneB (occT h ++ occT b)) (patL (oneB (occT h ++ occT b)) [] h.args).2 b).2.length, (patL (oneB (occT h ++ occT b)) [] h.args).1.length,
    (patL (oneB (occT h ++ occT b)) [] h.args).1 ++ (patT (oneB (occT h ++ occT b)) (patL (oneB (occT h ++ occT b)) [] h.args).2 b).1⟩
def compE (h b : Tm) : Cod × Int :=
  if checkT h ≠ 0 then (zeroCod, checkT h) else if checkT b ≠ 0 then (zeroCod, checkT b) else if h.k ≠ 3 ∧ h.k ≠ 4 then (zeroCod, 2) else if 20000 < h.size + b.size then (zeroCod, 3) else (compC h b, 0)
theorem oneOf_cnt (D : List Int) : oneOf (cntM D) = oneB D := by
  funext n
  unfold oneOf oneB
  rw [get_cntM]
  by_cases h : D.count n = 1
  · simp [h]
  · have h2 : ¬ ((D.count n : Nat) : Int) = 1 := by omega
    rw [beq_false_of_ne h2, beq_false_of_ne h]
abbrev codV (c : Cod) (vs : Value) : Value := .agg #[.string c.name, .int .i64 c.args, .int .i64 c.slots, .int .i64 c.body, vs]
/-- as CplPost, and the code's row is the call's own -/
def slBlk : Value → Option Nat
  | .slice (some a) _ _ => some a.block
  | _ => none
def CplPostP (r : Cod × Int) (w : World) (e : Ending) (w' : World) : Prop := ∃ vs, e = .returned (.tuple #[codV r.1 vs, .int .i64 r.2]) ∧ InsSl w' vs r.1.l ∧ Below w.heap.size w w' ∧ ∀ b, slBlk vs = some b → w.heap.size ≤ b
def CplPost (r : Cod × Int) (w : World) (e : Ending) (w' : World) : Prop := ∃ vs, e = .returned (.tuple #[codV r.1 vs, .int .i64 r.2]) ∧ InsSl w' vs r.1.l ∧ Below w.heap.size w w'
abbrev zero5 : Array Value := #[.string ⟨#[]⟩, .int .i64 0, .int .i64 0, .int .i64 0, .slice none 0 0]
/-- the call's first variables -/
structure CpCtx (w : World) (h b : Tm) (a1 : Option Addr) (c1 : Nat) (a2 : Option Addr) (c2 : Nat) (cs : Array Value) (wr : World) : Prop where
  hb : wr.heap[w.heap.size]? = some (rowT h a1 c1)
  bb : wr.heap[w.heap.size + 1]? = some (rowT b a2 c2)
  rs : wr.heap[w.heap.size + 2]? = some (.cells cs 51 (0, 0))
  bel : Below w.heap.size w wr
  big : w.heap.size + 3 ≤ wr.heap.size
theorem CpCtx.on {w : World} {h b : Tm} {a1 : Option Addr} {c1 : Nat} {a2 : Option Addr} {c2 : Nat} {cs : Array Value} {wr w' : World} (hc : CpCtx w h b a1 c1 a2 c2 cs wr) (hb : Below wr.heap.size wr w') : CpCtx w h b a1 c1 a2 c2 cs w' := by
  have := hc.big
  exact ⟨(hb.block _ (by omega)).trans hc.hb, (hb.block _ (by omega)).trans hc.bb, (hb.block _ (by omega)).trans hc.rs, hc.bel.trans (hb.mono hc.bel.size), Nat.le_trans hc.big hb.size⟩
theorem CpCtx.start (w : World) (h b : Tm) (a1 : Option Addr) (c1 : Nat) (a2 : Option Addr) (c2 : Nat) : CpCtx w h b a1 c1 a2 c2 zero5 (((w.alloc (rowT h a1 c1)).alloc (rowT b a2 c2)).alloc (.cells zero5 51 (0, 0))) := by
  obtain ⟨t0, t1, tsz, tbl⟩ := two w (rowT h a1 c1) (rowT b a2 c2)
  generalize (w.alloc (rowT h a1 c1)).alloc (rowT b a2 c2) = w2 at *
  have hb := below_new w2 (.cells zero5 51 (0, 0))
  have hn := heap_alloc_new w2 (.cells zero5 51 (0, 0))
  rw [tsz] at hn
  exact ⟨(hb.block _ (by omega)).trans t0, (hb.block _ (by omega)).trans t1, hn, tbl.trans (hb.mono tbl.size), by simp; omega⟩
theorem CpCtx.keeps {w : World} {h b : Tm} {a1 : Option Addr} {c1 : Nat} {a2 : Option Addr} {c2 : Nat} {cs : Array Value} {wr w' : World} {M : Nat → Prop} (hc : CpCtx w h b a1 c1 a2 c2 cs wr) (hb : Keeps wr w' M) (hM : ∀ b, M b → w.heap.size + 3 ≤ b) : CpCtx w h b a1 c1 a2 c2 cs w' := by
  have := hc.big
  have keep : ∀ b, b < w.heap.size + 3 → w'.heap[b]? = wr.heap[b]? := fun b hlt => hb.block b (by omega) fun e => by have := hM b e; omega
  exact ⟨(keep _ (by omega)).trans hc.hb, (keep _ (by omega)).trans hc.bb, (keep _ (by omega)).trans hc.rs, hc.bel.trans ⟨hb.os, hb.tape, hb.output, hb.size, fun b hlt => keep b (by omega)⟩, Nat.le_trans hc.big hb.size⟩
abbrev crowO (nm : ByteArray) (na ns nb : Int) (lv : Value) : Obj := .cells #[.string nm, .int .i64 na, .int .i64 ns, .int .i64 nb, lv] 51 (0, 0)
abbrev prowO (tb sb cb : Nat) : Obj := .cells #[.map (some tb), .map (some sb), .func (.func 65) #[] #[.pointer (some ⟨cb, 0, none⟩)]] 141 (0, 0)
structure Four (w w4 : World) (nm : ByteArray) (na : Int) : Prop where
  bel : Below w.heap.size w w4
  size : w4.heap.size = w.heap.size + 4
  crow : w4.heap[w.heap.size]? = some (crowO nm na 0 0 (.slice none 0 0))
  tb : IMap w4 (w.heap.size + 1) []
  sb : IMap w4 (w.heap.size + 1 + 1) []
  prow : w4.heap[w.heap.size + 1 + 1 + 1]? = some (prowO (w.heap.size + 1) (w.heap.size + 1 + 1) w.heap.size)
theorem cp_four (w : World) (nm : ByteArray) (na : Int) : Four w ((((w.alloc (crowO nm na 0 0 (.slice none 0 0))).alloc (.map #[] 0)).alloc (.map #[] 0)).alloc (prowO (w.heap.size + 1) (w.heap.size + 1 + 1) w.heap.size)) nm na := by
  obtain ⟨t0, t1, tsz, tbl⟩ := two w (crowO nm na 0 0 (.slice none 0 0)) (.map #[] 0)
  generalize (w.alloc (crowO nm na 0 0 (.slice none 0 0))).alloc (.map #[] 0) = w2 at *
  obtain ⟨u0, u1, usz, ubl⟩ := two w2 (.map #[] 0) (prowO (w.heap.size + 1) (w.heap.size + 1 + 1) w.heap.size)
  generalize (w2.alloc (.map #[] 0)).alloc (prowO (w.heap.size + 1) (w.heap.size + 1 + 1) w.heap.size) = w4 at *
  rw [tsz] at u0 u1
  exact ⟨tbl.trans (ubl.mono tbl.size), by omega, (ubl.block _ (by omega)).trans t0, ⟨#[], 0, (ubl.block _ (by omega)).trans t1, rfl⟩, ⟨#[], 0, u0, rfl⟩, u1⟩
def CplRel (C : PutC) (ts : List Tm) (w : World) (vi : Value) (wr : World) : Prop :=
  ∃ q : Nat, q ≤ ts.length ∧ vi = .int .i64 q ∧ Did C (patL (oneOf C.T) [] (ts.take q)).2 (patL (oneOf C.T) [] (ts.take q)).1 w wr
theorem cp_put {w5 w4 w7 : World} {nm : ByteArray} {na : Int} {D : List Int} (h4 : Four w5 w4 nm na) (hk : Keeps w4 w7 (fun b => b = w5.heap.size + 1)) (hi : IMap w7 (w5.heap.size + 1) (cntM D)) :
    PutAt ⟨w7.heap.size, w5.heap.size + 1 + 1 + 1, w5.heap.size, w5.heap.size + 1, w5.heap.size + 1 + 1, nm, na, 0, 0, cntM D⟩ [] [] w7 ∧
      ∀ b, PMine ⟨w7.heap.size, w5.heap.size + 1 + 1 + 1, w5.heap.size, w5.heap.size + 1, w5.heap.size + 1 + 1, nm, na, 0, 0, cntM D⟩ w7 b → w5.heap.size ≤ b := by
  have hz := h4.size
  have hz7 := hk.size
  have hc : w7.heap[w5.heap.size]? = _ := (hk.block _ (by omega) (by omega)).trans h4.crow
  have hp : w7.heap[w5.heap.size + 1 + 1 + 1]? = _ := (hk.block _ (by omega) (by omega)).trans h4.prow
  have l0 : w5.heap.size < w7.heap.size := by omega
  have l1 : w5.heap.size + 1 < w7.heap.size := by omega
  have l2 : w5.heap.size + 1 + 1 < w7.heap.size := by omega
  have l3 : w5.heap.size + 1 + 1 + 1 < w7.heap.size := by omega
  refine ⟨⟨.slice none 0 0, hp, hc, hi, h4.sb.below (hk.block _ (by omega) (by omega)), Own.nil _ _ _, by simp, l3, l0, l1, l2, Nat.le_refl _⟩, fun b hb => ?_⟩
  rcases hb with rfl | rfl | ⟨lv, hl, hb⟩
  · exact Nat.le_refl _
  · show w5.heap.size ≤ w5.heap.size + 1 + 1; omega
  · rw [cell_of_row w7 w5.heap.size 4 _ _ _ hc] at hl
    obtain rfl := Option.some.inj hl
    cases hb
theorem cpl_zero {w : World} {h b : Tm} {a1 : Option Addr} {c1 : Nat} {a2 : Option Addr} {c2 : Nat} {cs : Array Value} {wr : World} (x : Int) (hc : CpCtx w h b a1 c1 a2 c2 cs wr) :
    CplPostP (zeroCod, x) w (.returned (.tuple #[.agg zero5, .int .i64 x])) (wr.setRow (w.heap.size + 2) zero5) :=
  ⟨_, rfl, InsSl.nil _ _ _, below_setRow hc.bel (by omega) _, fun b e => nomatch e⟩
set_option maxRecDepth 100000 in
set_option maxHeartbeats 4000000 in
theorem go_CompileP (h b : Tm) (v1 v2 : Value) (P1 P2 : Nat → Prop) (w : World) (hM1 : h.size ≤ 1000000000) (hM2 : b.size ≤ 1000000000) (h1 : IsTm w P1 v1 h) (h2 : IsTm w P2 v2 b) :
    Calls Try.prog 29 #[v1, v2] w (CplPostP (compE h b) w) := by
  replace h1 := h1.lt
  replace h2 := h2.lt
  obtain ⟨a1, d1, rfl⟩ := h1.form
  obtain ⟨a2, d2, rfl⟩ := h2.form
  have hst := CpCtx.start w h b a1 d1 a2 d2
  obtain ⟨x0, x1, x2, x3⟩ := row4 hst.hb
  have H1 := Lib.hid h1
  have H2 := Lib.hid h2
  have HC := Lib.hid hst
  clear h1 h2 hst
  have hsn := fun (w : World) (a : Addr) (m : Mode) => run_store Try.prog w a .nilFunc m rfl
  have hsf := fun (w : World) (a : Addr) (m : Mode) f (x y : Array Value) => run_store Try.prog w a (.func f x y) m rfl
  go_enter Try.func29, Try.ntmps29
  go_wp2_with fail
  refine (tm_Check h _ _ _ hM1 (H1.out.below HC.out.bel)).mono ?_
  rintro e2 w2 ⟨rfl, hb2⟩
  replace HC := Lib.hid (HC.out.on hb2)
  clear hb2 x0 x1 x2 x3
  by_cases k1 : checkT h = 0
  case neg =>
    have b1 : (checkT h != 0) = true := by simpa using k1
    have hr : compE h b = (zeroCod, checkT h) := if_pos k1
    have HR := Lib.hid hr
    clear hr k1
    go_wp2_with (with_reducible show wpList _ _ _ (⟨none, .store _ (.tmp 4) _, _, _, _, _⟩ :: _) _ _
                 refine wpList_store_row rfl 51 (.tmp 4) (.tmp 16) rfl (w.heap.size + 2) zero5 rfl rfl _ _ HC.out.rs size_code rfl (one5 _ _ _ _ _ _ _) ?_)
    have hz := setRow_heap w2 (w.heap.size + 2) _ zero5 _ _ HC.out.rs
    exact bodyPost_ret (v := .tuple #[.agg zero5, .int .i64 (checkT h)]) (Push.results_cell_tmp Try.results29 _ _ (w.heap.size + 2) _ _ _ _ _ rfl (by simp) hz Try.underlying51 rfl (by kernel_rfl)) rfl (by rw [HR.out]; exact cpl_zero _ HC.out)
  rw [k1]
  obtain ⟨x0, x1, x2, x3⟩ := row4 HC.out.bb
  go_wp2_with fail
  refine (tm_Check b _ _ _ hM2 (H2.out.below HC.out.bel)).mono ?_
  rintro e3 w3 ⟨rfl, hb3⟩
  replace HC := Lib.hid (HC.out.on hb3)
  clear hb3 x0 x1 x2 x3
  by_cases k2 : checkT b = 0
  case neg =>
    have b2 : (checkT b != 0) = true := by simpa using k2
    have hr : compE h b = (zeroCod, checkT b) := by unfold compE; rw [if_neg (by simpa using k1), if_pos k2]
    have HR := Lib.hid hr
    clear hr k2 k1
    go_wp2_with (with_reducible show wpList _ _ _ (⟨none, .store _ (.tmp 4) _, _, _, _, _⟩ :: _) _ _
                 refine wpList_store_row rfl 51 (.tmp 4) (.tmp 22) rfl (w.heap.size + 2) zero5 rfl rfl _ _ HC.out.rs size_code rfl (one5 _ _ _ _ _ _ _) ?_)
    have hz := setRow_heap w3 (w.heap.size + 2) _ zero5 _ _ HC.out.rs
    exact bodyPost_ret (v := .tuple #[.agg zero5, .int .i64 (checkT b)]) (Push.results_cell_tmp Try.results29 _ _ (w.heap.size + 2) _ _ _ _ _ rfl (by simp) hz Try.underlying51 rfl (by kernel_rfl)) rfl (by rw [HR.out]; exact cpl_zero _ HC.out)
  rw [k2]
  obtain ⟨x0, x1, x2, x3⟩ := row4 HC.out.hb
  have hre : compE h b = if h.k ≠ 3 ∧ h.k ≠ 4 then (zeroCod, 2) else if 20000 < h.size + b.size then (zeroCod, 3) else (compC h b, 0) := by unfold compE; rw [if_neg (by simpa using k1), if_neg (by simpa using k2)]
  have HY1 := Lib.hid (check_may k1)
  have HY2 := Lib.hid (check_may k2)
  have HRE := Lib.hid hre
  clear hre k1 k2
  by_cases k34 : h.k = 3 ∨ h.k = 4
  case neg =>
    have k3 : h.k ≠ 3 := fun e => k34 (.inl e)
    have k4 : h.k ≠ 4 := fun e => k34 (.inr e)
    have b3 : (h.k != 3) = true := by simpa using k3
    have b4 : (h.k != 4) = true := by simpa using k4
    have HR := Lib.hid (HRE.out.trans (if_pos ⟨k3, k4⟩))
    clear k3 k4 k34
    go_wp2_with (with_reducible show wpList _ _ _ (⟨none, .store _ (.tmp 4) _, _, _, _, _⟩ :: _) _ _
                 refine wpList_store_row rfl 51 (.tmp 4) (.tmp 32) rfl (w.heap.size + 2) zero5 rfl rfl _ _ HC.out.rs size_code rfl (one5 _ _ _ _ _ _ _) ?_)
    have hz := setRow_heap w3 (w.heap.size + 2) _ zero5 _ _ HC.out.rs
    exact bodyPost_ret (v := .tuple #[.agg zero5, .int .i64 2]) (Push.results_cell_tmp Try.results29 _ _ (w.heap.size + 2) _ _ _ _ _ rfl (by simp) hz Try.underlying51 rfl (by kernel_rfl)) rfl (by rw [HR.out]; exact cpl_zero _ HC.out)
  have HRE2 := Lib.hid (HRE.out.trans (if_neg fun e => k34.elim e.1 e.2))
  have b34 : (h.k != 3) = false ∨ (h.k != 3) = true ∧ (h.k != 4) = false := by
    by_cases e : h.k = 3
    · exact .inl (by simp [e])
    · exact .inr ⟨by simpa using e, by simp [k34.resolve_left e]⟩
  clear HRE
  rcases b34 with b3 | ⟨b3, b4⟩
  all_goals
    clear k34
    go_wp2
    refine wp_region_rest (by kernel_rfl) ?_
    replace HC := Lib.hid (HC.out.on (Below.refl _ _).drew)
    clear x0 x1 x2 x3
    generalize w3.drew = W0 at *
    obtain ⟨x0, x1, x2, x3⟩ := row4 HC.out.hb
    obtain ⟨y0, y1, y2, y3⟩ := row4 HC.out.bb
    refine rest_chain 0 6 [(false, [0, 2]), (true, [1]), (true, [3]), (false, [4, 5])] [(false, [_, _]), (true, [_]), (true, [_]), (false, [_, _])] rfl (by kernel_rfl) (by kernel_rfl) rfl (by kernel_rfl) (by kernel_rfl) (.inl rfl) ?_
    refine chain_soft ?_
    intro E hE
    go_wp2
    clear x0 x1 x2 x3 y0 y1 y2 y3
    refine chain_one ?_
    intro E hE
    go_wp2_with (refine (tm_Size h _ _ _ hM1 (H1.out.below HC.out.bel)).mono ?_; rintro e4 w4 ⟨rfl, hb4⟩; replace HC := Lib.hid (HC.out.on hb4); have HB4 := Lib.hid hb4; clear hb4)
    refine ⟨HB4.out, ?_⟩
    refine chain_one ?_
    intro E hE
    go_wp2_with (refine (tm_Size b _ _ _ hM2 (H2.out.below HC.out.bel)).mono ?_; rintro e5 w5 ⟨rfl, hb5⟩; replace HC := Lib.hid (HC.out.on hb5); have HB5 := Lib.hid hb5; clear hb5)
    refine ⟨HB5.out, ?_⟩
    refine chain_soft ?_
    intro E hE
    go_wp2
    refine chain_nil (rest_end (by decide) ?_)
    by_cases k5 : 20000 < h.size + b.size
    case pos =>
      have b5 : (20000 : Int) < (h.size : Int) + (b.size : Int) := by omega
      have HR := Lib.hid (HRE2.out.trans (if_pos k5))
      clear k5
      go_wp2_with (with_reducible show wpList _ _ _ (⟨none, .store _ (.tmp 4) _, _, _, _, _⟩ :: _) _ _
                   refine wpList_store_row rfl 51 (.tmp 4) (.tmp 39) rfl (w.heap.size + 2) zero5 rfl rfl _ _ HC.out.rs size_code rfl (one5 _ _ _ _ _ _ _) ?_)
      have hz := setRow_heap w5 (w.heap.size + 2) _ zero5 _ _ HC.out.rs
      exact bodyPost_ret (v := .tuple #[.agg zero5, .int .i64 3]) (Push.results_cell_tmp Try.results29 _ _ (w.heap.size + 2) _ _ _ _ _ rfl (by simp) hz Try.underlying51 rfl (by kernel_rfl)) rfl (by rw [HR.out]; exact cpl_zero _ HC.out)
    have b5 : (h.size : Int) + (b.size : Int) ≤ 20000 := by omega
    have HR := Lib.hid (HRE2.out.trans (if_neg k5))
    have HK5 : Hid (h.size + b.size ≤ 20000) := Lib.hid (by omega)
    clear k5 HRE2 HB4 HB5
    obtain ⟨x0, x1, x2, x3⟩ := row4 HC.out.hb
    have h4 := cp_four w5 h.s h.args.length
    have hc4 := HC.out.on h4.bel
    obtain ⟨y0, y1, y2, y3⟩ := row4 hc4.hb
    have H4 := Lib.hid h4
    have HC4 := Lib.hid hc4
    clear h4 hc4
    go_wp2_with (first
      | (with_reducible show wpList _ _ _ (⟨some 46, _, _, _, _, _⟩ :: _) _ _
         refine wpList_imap_made rfl 66 rfl ?_)
      | (with_reducible show wpList _ _ _ (⟨some 47, _, _, _, _, _⟩ :: _) _ _
         refine wpList_imap_made rfl 66 rfl ?_))
    clear x0 x1 x2 x3 y0 y1 y2 y3 hsn hsf
    simp only [crowO, prowO] at H4 HC4
    generalize ((((w5.alloc (Obj.cells #[.string h.s, .int .i64 h.args.length, .int .i64 0, .int .i64 0, .slice none 0 0] 51)).alloc (.map #[] 0)).alloc (.map #[] 0)).alloc (Obj.cells #[.map (some (w5.heap.size + 1)), .map (some (w5.heap.size + 1 + 1)), .func (.func 65) #[] #[.pointer (some ⟨w5.heap.size, 0, none⟩)]] 141)) = W4 at *
    have h5s : w.heap.size + 3 ≤ w5.heap.size := HC.out.big
    refine (comp_count (w5.heap.size + 1 + 1 + 1) (w5.heap.size + 1) _ _ h.size h _ _ [] _ (Nat.le_refl _) (by have := HK5.out; simp; omega) HY1.out H4.out.prow H4.out.tb (H1.out.below HC4.out.bel) (fun b hb => by have := hb.2; omega)).mono ?_
    rintro e6 w6 ⟨rfl, hi6, hk6⟩
    have HC6 := Lib.hid (HC4.out.keeps hk6 fun b e => by omega)
    have HK6 := Lib.hid hk6
    have HI6 := Lib.hid hi6
    clear hi6 hk6
    obtain ⟨y0, y1, y2, y3⟩ := row4 HC6.out.bb
    go_wp2_with fail
    have hol := occT_len h
    refine (comp_count (w5.heap.size + 1 + 1 + 1) (w5.heap.size + 1) _ _ b.size b _ _ ([] ++ occT h) _ (Nat.le_refl _) (by have := HK5.out; simp; omega) HY2.out ((HK6.out.block _ (by have := H4.out.size; omega) (by omega)).trans H4.out.prow) HI6.out (H2.out.below HC6.out.bel) (fun b hb => by have := hb.2; omega)).mono ?_
    rintro e7 w7 ⟨rfl, hi7, hk7⟩
    rw [List.nil_append] at hi7
    have hk47 : Keeps W4 w7 (fun b => b = w5.heap.size + 1) := HK6.out.trans hk7 fun b e => .inl e
    obtain ⟨hput, hmine⟩ := cp_put H4.out hk47 hi7
    have HC7 := Lib.hid (HC4.out.keeps hk47 fun b e => by omega)
    clear hi7 hk7 hk47 HC6 HK6 HI6 H4 HC4 HC y0 y1 y2 y3 hol
    have hone : oneOf (cntM (occT h ++ occT b)) = oneB (occT h ++ occT b) := oneOf_cnt _
    generalize hCeq : (⟨w7.heap.size, w5.heap.size + 1 + 1 + 1, w5.heap.size, w5.heap.size + 1, w5.heap.size + 1 + 1, h.s, h.args.length, 0, 0, cntM (occT h ++ occT b)⟩ : PutC) = C at *
    have HCB : Hid (w5.heap.size = C.cb) := Lib.hid (by rw [← hCeq])
    have HPB : Hid (w5.heap.size + 1 + 1 + 1 = C.pb) := Lib.hid (by rw [← hCeq])
    have HSB : Hid (w5.heap.size + 1 + 1 = C.sb) := Lib.hid (by rw [← hCeq])
    have HT : Hid (oneOf C.T = oneB (occT h ++ occT b)) := Lib.hid (by rw [← hCeq]; exact hone)
    have HNM : Hid (C.nm = h.s ∧ C.na = h.args.length ∧ C.nb = 0 ∧ C.ns = 0) := Lib.hid (by rw [← hCeq]; exact ⟨rfl, rfl, rfl, rfl⟩)
    clear hone hCeq
    have hmine3 : ∀ b, PMine C w7 b → w.heap.size + 3 ≤ b := fun b hb => by have := hmine b hb; omega
    have HMI := Lib.hid hmine3
    have HPUT := Lib.hid hput
    clear hmine hmine3 hput
    obtain ⟨y0, y1, y2, y3⟩ := row4 HC7.out.hb
    have HPT : Hid (∀ (t : Tm) (v : Value) (P : Nat → Prop) (S : List Int) (L : List Ins) (w : World), L.length + t.size ≤ 1000000000 → mayT t = true → PutAt C S L w → IsTm w P v t → (∀ b, P b → ¬ PMine C w b) →
        Calls Try.prog 67 #[.pointer (some ⟨w5.heap.size + 1 + 1 + 1, 0, none⟩), v] w (PutPost C (patT (oneOf C.T) S t).2 (L ++ (patT (oneOf C.T) S t).1) w)) :=
      Lib.hid fun t v P S L w h1 h2 h3 h4 h5 => by rw [HPB.out]; exact comp_pattern C t.size t v P S L w (Nat.le_refl _) h1 h2 h3 h4 h5
    have hst7 : CplRel C h.args w7 (.int .i64 ((0 : Nat) : Int)) w7 := ⟨0, by omega, rfl, by simpa [patL] using Did.below HPUT.out (Below.refl _ _)⟩
    have HST := Lib.hid hst7
    have hsz : h.size = sizeL h.args + 1 := by obtain ⟨k, n, s, ar⟩ := h; simp [Tm.size, Tm.args]
    have HSZ := Lib.hid hsz
    have hlen : h.args.length ≤ 1000000000 := by have := len_le h.args; omega
    clear hst7 hsz
    go_wp2
    go_loopw [58] (fun vi wr => CplRel C h.args w7 vi wr) (fun vi _ => h.args.length - (intOf vi).toNat)
    case atStart => exact HST.out
    case round =>
      obtain ⟨q, hq, rfl, hd⟩ := hrel
      have HDQ := Lib.hid hd
      have HCR := Lib.hid (HC7.out.keeps hd.2.1 HMI.out)
      clear hd HST y0 y1 y2 y3
      by_cases hql : q < h.args.length
      · obtain ⟨g1, o1, rfl, p1, m1⟩ := (H1.out.below HCR.out.bel).args.at q hql
        obtain ⟨c1, d9, x10, x11, x12, x13, i1, l1⟩ := m1.read
        have h1s := size_mem hql
        have HMX := Lib.hid (may_arg HY1.out (List.getElem_mem hql))
        have hnx := patL_take (oneOf C.T) [] h.args q hql
        have HLX : Hid ((patL (oneOf C.T) [] (h.args.take q)).1.length + h.args[q].size ≤ 1000000000) := Lib.hid (by
          have h3 := patL_len (oneOf C.T) (h.args.take q) []
          have h2 := sizeL_take h.args q
          have := HSZ.out
          have := HK5.out
          omega)
        have HNX := Lib.hid hnx
        have hbx := below_new wr (rowT h.args[q] c1 d9)
        have hdx := Did.below HDQ.out.1 hbx
        have hmx : ∀ b, (P1 b ∧ b < w.heap.size) → ¬ PMine C (wr.alloc (rowT h.args[q] c1 d9)) b := fun b hb e => by
          have := HC7.out.big
          rcases (HDQ.out.trans hdx).2.2 b e with h | h
          · have := HMI.out b h; omega
          · omega
        have I1 := Lib.hid (i1.below hbx)
        have HDX := Lib.hid hdx
        have HMX2 := Lib.hid hmx
        clear m1 i1 hnx h1s hbx hdx hmx
        generalize h.args[q] = x at *
        have hin : (q : Int) < (h.args.length : Int) := by omega
        have hin0 : (0 : Int) ≤ (q : Int) := by omega
        go_wp2_with (go_at_call 67
                     refine (HPT.out x _ _ _ _ _ HLX.out HMX.out HDX.out.1 I1.out HMX2.out).mono ?_
                     rintro e w9 ⟨rfl, hd9⟩
                     have HD9 := Lib.hid ((HDQ.out.trans HDX.out).trans hd9)
                     clear hd9 x10 x11 x12 x13 l1)
        go_roundw
        case rel => exact ⟨q + 1, by omega, by go_num, by rw [HNX.out]; exact HD9.out⟩
        case measure => simp [intOf]; omega
      · obtain rfl : q = h.args.length := by omega
        have hin : decide ((h.args.length : Int) < (h.args.length : Int)) = false := by simp
        have hd := HDQ.out
        rw [List.take_length] at hd
        have hl1 := patL_len (oneOf C.T) h.args []
        have HL1 := Lib.hid hl1
        generalize hpl : patL (oneOf C.T) [] h.args = R1 at *
        obtain ⟨L1, S1⟩ := R1
        simp only at hd hl1
        obtain ⟨lv8, row8⟩ := hd.1
        obtain ⟨qa, qc, rfl⟩ := row8.form
        obtain ⟨z0, z1, z2, z3, z4⟩ := row5 (show wr.heap[w5.heap.size]? = _ by rw [HCB.out]; exact row8.crow)
        have f3 : wr.frozen? ⟨w5.heap.size, 3, none⟩ = false := frozen_of_row wr _ 3 _ _ (show wr.heap[w5.heap.size]? = _ by rw [HCB.out]; exact row8.crow)
        have hn9 := row8.setNb L1.length
        rw [← HCB.out] at hn9
        have HN9 := Lib.hid hn9
        have hc9 := HCR.out.keeps hn9.2 fun b hb => by
          rcases hd.2.2 b hb with h | h
          · exact HMI.out b h
          · have := HC7.out.big; omega
        obtain ⟨y0, y1, y2, y3⟩ := row4 hc9.bb
        have hz9 : (wr.setCell ⟨w5.heap.size, 3, none⟩ (.int .i64 L1.length)).heap.size = wr.heap.size := by simp [World.setCell]
        have hmi9 : ∀ b, PMine ⟨C.base, C.pb, w5.heap.size, C.tb, C.sb, C.nm, C.na, C.ns, L1.length, C.T⟩ (wr.setCell ⟨w5.heap.size, 3, none⟩ (.int .i64 L1.length)) b → w.heap.size + 3 ≤ b := fun b hb => by
          rcases hb with hb | hb | ⟨lv', hc, hb⟩
          · have hb : b = w5.heap.size := hb; omega
          · have hb : b = C.sb := hb; have := HSB.out; omega
          · have h9 := hn9.1.cell
            rw [h9] at hc
            obtain rfl := Option.some.inj hc
            rcases hd.2.2 b (.inr (.inr ⟨_, row8.cell, hb⟩)) with h | h
            · exact HMI.out b h
            · have := HC7.out.big; omega
        have HMI9 := Lib.hid hmi9
        have HPA9 : Hid (PutAt ⟨C.base, C.pb, w5.heap.size, C.tb, C.sb, C.nm, C.na, C.ns, L1.length, C.T⟩ S1 L1 (wr.setCell ⟨w5.heap.size, 3, none⟩ (.int .i64 L1.length))) := Lib.hid ⟨_, hn9.1⟩
        have HC9 := Lib.hid hc9
        have HPL := Lib.hid hpl
        clear hn9 HN9 hc9 hmi9 row8 hd HDQ HCR hql hq hpl hl1 hz9
        go_wp2_with fail
        generalize wr.setCell ⟨w5.heap.size, 3, none⟩ (.int .i64 L1.length) = W9 at *
        have HNM9 : Hid ((⟨C.base, C.pb, w5.heap.size, C.tb, C.sb, C.nm, C.na, C.ns, L1.length, C.T⟩ : PutC).cb = w5.heap.size ∧ (⟨C.base, C.pb, w5.heap.size, C.tb, C.sb, C.nm, C.na, C.ns, L1.length, C.T⟩ : PutC).sb = w5.heap.size + 1 + 1 ∧ (⟨C.base, C.pb, w5.heap.size, C.tb, C.sb, C.nm, C.na, C.ns, L1.length, C.T⟩ : PutC).pb = w5.heap.size + 1 + 1 + 1 ∧ (⟨C.base, C.pb, w5.heap.size, C.tb, C.sb, C.nm, C.na, C.ns, L1.length, C.T⟩ : PutC).T = C.T ∧
            (⟨C.base, C.pb, w5.heap.size, C.tb, C.sb, C.nm, C.na, C.ns, L1.length, C.T⟩ : PutC).nm = h.s ∧ (⟨C.base, C.pb, w5.heap.size, C.tb, C.sb, C.nm, C.na, C.ns, L1.length, C.T⟩ : PutC).na = h.args.length ∧ (⟨C.base, C.pb, w5.heap.size, C.tb, C.sb, C.nm, C.na, C.ns, L1.length, C.T⟩ : PutC).nb = L1.length) :=
          Lib.hid ⟨rfl, HSB.out.symm, HPB.out.symm, rfl, HNM.out.1, HNM.out.2.1, rfl⟩
        generalize (⟨C.base, C.pb, w5.heap.size, C.tb, C.sb, C.nm, C.na, C.ns, L1.length, C.T⟩ : PutC) = C9 at *
        have hpt := comp_pattern C9 b.size b _ _ S1 L1 _ (Nat.le_refl _) (by have := HK5.out; have := HL1.out; have := HSZ.out; omega) HY2.out HPA9.out (H2.out.below HC9.out.bel) (fun b hb e => by have := HMI9.out b e; have := hb.2; omega)
        rw [HNM9.out.2.2.1, HNM9.out.2.2.2.1, HT.out] at hpt
        refine hpt.mono ?_
        rintro e10 w10 ⟨rfl, hd10⟩
        have HC10 := Lib.hid (HC9.out.keeps hd10.2.1 HMI9.out)
        have hmi10 : ∀ b, PMine C9 w10 b → w.heap.size + 3 ≤ b := fun b hb => by
          rcases hd10.2.2 b hb with h | h
          · exact HMI9.out b h
          · have := HC9.out.big; omega
        have HRR : Hid (patT (oneB (occT h ++ occT b)) S1 b = patT (oneB (occT h ++ occT b)) S1 b) := Lib.hid rfl
        generalize hr2 : patT (oneB (occT h ++ occT b)) S1 b = R2 at *
        obtain ⟨L2, S2⟩ := R2
        simp only at hd10
        generalize hll : L1 ++ L2 = LL at *
        have HLL := Lib.hid hll
        have HR2 := Lib.hid hr2
        clear hll hr2
        obtain ⟨lv10, row10⟩ := hd10.1
        obtain ⟨qa2, qc2, rfl⟩ := row10.form
        have hcr : w10.heap[w5.heap.size]? = some (.cells #[.string C9.nm, .int .i64 C9.na, .int .i64 C9.ns, .int .i64 C9.nb, .slice qa2 LL.length qc2] 51 (0, 0)) := by have := row10.crow; rw [HNM9.out.1] at this; exact this
        have c1 : w10.cell? ⟨w5.heap.size + 1 + 1 + 1, 1, none⟩ = some (.map (some C9.sb)) := by rw [← HNM9.out.2.2.1]; exact cell_of_row w10 C9.pb 1 _ _ _ row10.prow
        have f2 : w10.frozen? ⟨w5.heap.size, 2, none⟩ = false := frozen_of_row w10 _ 2 _ _ hcr
        have c2 : w10.cell? ⟨w5.heap.size, 2, none⟩ = some (.int .i64 C9.ns) := cell_of_row w10 _ 2 _ _ _ hcr
        have hn11 := row10.setNs S2.length
        rw [HNM9.out.1] at hn11
        have hc11 := HC10.out.keeps hn11.2 hmi10
        have hcr11 := hn11.1.crow
        obtain ⟨z0, z1, z2, z3, z4⟩ := row5 (show (w10.setCell ⟨w5.heap.size, 2, none⟩ (.int .i64 S2.length)).heap[w5.heap.size]? = some (.cells #[.string C9.nm, .int .i64 C9.na, .int .i64 S2.length, .int .i64 C9.nb, .slice qa2 LL.length qc2] 51 (0, 0)) from hcr11)
        rw [HNM9.out.2.2.2.2.1] at z0
        rw [HNM9.out.2.2.2.2.2.1] at z1
        rw [HNM9.out.2.2.2.2.2.2] at z3
        have HC11 := Lib.hid hc11
        have HIM := Lib.hid row10.slots
        have hsl := slots_len S2 0
        have hins : InsSl ((w10.setCell ⟨w5.heap.size, 2, none⟩ (.int .i64 S2.length)).setRow (w.heap.size + 2) #[.string h.s, .int .i64 h.args.length, .int .i64 S2.length, .int .i64 L1.length, .slice qa2 LL.length qc2]) (.slice qa2 LL.length qc2) LL :=
          own_ins (hn11.1.own.keep (by simp) fun b hlt hq => by
            rcases hq with hq | hq
            · exact hq.elim
            · exact setRow_other _ _ _ _ fun e => by have := hmi10 b (.inr (.inr ⟨_, row10.cell, hq⟩)); omega)
        have hlow : ∀ b, slBlk (.slice qa2 LL.length qc2) = some b → w.heap.size ≤ b := fun b e => by
          have hq : (Value.slice qa2 LL.length qc2).ownBlock = some b := by
            rcases hn11.1.own.form with ⟨e2, -⟩ | ⟨g, c, e2⟩
            · rw [e2] at e; cases e
            · rw [e2] at e ⊢; exact e
          have := hmi10 b (.inr (.inr ⟨_, row10.cell, hq⟩)); omega
        have HINS := Lib.hid hins
        have HLOW := Lib.hid hlow
        clear hd10 hmi10 row10 hcr hn11 hc11 hcr11 hins hpt hlow
        go_wp2_with (first
          | (with_reducible show wpList _ _ _ (⟨some 73, _, _, _, _, _⟩ :: _) _ _
             refine wpList_imap_len rfl (.tmp 72) 66 rfl _ _ Try.underlying66 C9.sb _ rfl HIM.out ?_
             rw [hsl])
          | (with_reducible show wpList _ _ _ (⟨none, .store _ (.tmp 4) _, _, _, _, _⟩ :: _) _ _
             refine wpList_store_row rfl 51 (.tmp 4) (.tmp 75) rfl (w.heap.size + 2) #[.string h.s, .int .i64 h.args.length, .int .i64 S2.length, .int .i64 L1.length, .slice qa2 LL.length qc2] rfl rfl _ _ HC11.out.rs size_code rfl (one5 _ _ _ _ _ _ _) ?_))
        have hz := setRow_heap _ (w.heap.size + 2) _ (#[.string h.s, .int .i64 h.args.length, .int .i64 S2.length, .int .i64 L1.length, .slice qa2 LL.length qc2] : Array Value) _ _ HC11.out.rs
        have hcod : compC h b = ⟨h.s, h.args.length, S2.length, L1.length, LL⟩ := by
          unfold compC
          rw [← HT.out, HPL.out, HT.out]
          simp only [HR2.out]
          rw [HLL.out]
        have hpost : CplPostP (compE h b) w (.returned (.tuple #[.agg #[.string h.s, .int .i64 h.args.length, .int .i64 S2.length, .int .i64 L1.length, .slice qa2 LL.length qc2], .int .i64 0])) ((w10.setCell ⟨w5.heap.size, 2, none⟩ (.int .i64 S2.length)).setRow (w.heap.size + 2) #[.string h.s, .int .i64 h.args.length, .int .i64 S2.length, .int .i64 L1.length, .slice qa2 LL.length qc2]) := by
          rw [HR.out, hcod]
          exact ⟨_, rfl, HINS.out, below_setRow HC11.out.bel (by omega) _, HLOW.out⟩
        exact bodyPost_ret (v := .tuple #[.agg #[.string h.s, .int .i64 h.args.length, .int .i64 S2.length, .int .i64 L1.length, .slice qa2 LL.length qc2], .int .i64 0]) (Push.results_cell_tmp Try.results29 _ _ (w.heap.size + 2) _ _ _ _ _ rfl (by simp) hz Try.underlying51 rfl (by kernel_rfl)) rfl hpost
theorem go_Compile (h b : Tm) (v1 v2 : Value) (P1 P2 : Nat → Prop) (w : World) (hM1 : h.size ≤ 1000000000) (hM2 : b.size ≤ 1000000000) (h1 : IsTm w P1 v1 h) (h2 : IsTm w P2 v2 b) :
    Calls Try.prog 29 #[v1, v2] w (CplPost (compE h b) w) :=
  (go_CompileP h b v1 v2 P1 P2 w hM1 hM2 h1 h2).mono fun _ _ ⟨vs, he, hi, hb, _⟩ => ⟨vs, he, hi, hb⟩
end Go.Proofs.Ytcmgfelbbmeanaa.Tms
