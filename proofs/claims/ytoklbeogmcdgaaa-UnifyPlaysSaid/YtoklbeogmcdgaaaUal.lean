
/-
  Layer 9: the document's example.
-/
import Derived.Test.YtoklbeogmcdgaaaUnd
import Derived.Test.YtoklbeogmcdgaaaGte
namespace Go.Proofs.Ytoklbeogmcdgaaa.Tms
open Go Go.RowKit Go.Proofs.Ytoklbeogmcdgaaa.Reg Go.Proofs.Ytoklbeogmcdgaaa.Rws Go.Proofs.Ytoklbeogmcdgaaa.Maps
set_option linter.unusedVariables false
set_option linter.unusedSimpArgs false

def uvT (n : Int) : Tm := .mk 1 n ⟨#[]⟩ []
def uaT (s : ByteArray) : Tm := .mk 3 0 s []
def ufT (l : List Tm) : Tm := .mk 4 0 ⟨#[102]⟩ l
def uA : Tm := ufT [uvT 0, uaT ⟨#[98]⟩]
def uB : Tm := ufT [uaT ⟨#[97]⟩, uvT 1]
def uC : Tm := ufT [uvT 2]
def y1 : Sto := ⟨100, [⟨4, 0, ⟨#[102]⟩, [1, 2], -1, 2⟩, ⟨1, 0, ⟨#[]⟩, [], -1, 2⟩, ⟨3, 0, ⟨#[98]⟩, [], -1, 2⟩], []⟩
def y2 : Sto := ⟨100, [⟨4, 0, ⟨#[102]⟩, [1, 2], -1, 2⟩, ⟨1, 0, ⟨#[]⟩, [], -1, 2⟩, ⟨3, 0, ⟨#[98]⟩, [], -1, 2⟩, ⟨4, 0, ⟨#[102]⟩, [4, 5], -1, 5⟩, ⟨3, 0, ⟨#[97]⟩, [], -1, 5⟩, ⟨1, 0, ⟨#[]⟩, [], -1, 5⟩], []⟩
def y2' : Sto := bindS y2 1 4
def y3 : Sto := bindS y2' 5 2
def y4 : Sto := ⟨100, [⟨4, 0, ⟨#[102]⟩, [1, 2], -1, 2⟩, ⟨1, 0, ⟨#[]⟩, [], 4, 2⟩, ⟨3, 0, ⟨#[98]⟩, [], -1, 2⟩, ⟨4, 0, ⟨#[102]⟩, [4, 5], -1, 5⟩, ⟨3, 0, ⟨#[97]⟩, [], -1, 5⟩, ⟨1, 0, ⟨#[]⟩, [], 2, 5⟩, ⟨4, 0, ⟨#[102]⟩, [7], -1, 7⟩, ⟨1, 0, ⟨#[]⟩, [], -1, 7⟩], [(1, 4), (5, 5)]⟩
theorem putE {S : Sto} {M : List (Int × Int)} {t : Tm} (h1 : checkT t = 0) (h2 : (cntM S M t).1 = true) (h3 : ¬ S.room - S.cells.length < ((cntM S M t).2.1 : Int)) : putW S M t = putS S M t ∧ putA S M t = ((putR S M t).1, 0) ∧ putN S M t = (putR S M t).2.2 := by
  unfold putW putA putN
  simp only [h1, h2, ne_eq, not_true_eq_false, if_false, Bool.true_eq_false, if_neg h3, and_self]
theorem y1_put : putW ex0 [] uA = y1 ∧ putA ex0 [] uA = (0, 0) ∧ putN ex0 [] uA = [(0, 1)] := putE (by decide +kernel) (by decide +kernel) (by decide +kernel)
theorem y2_put : putW y1 [(0, 1)] uB = y2 ∧ putA y1 [(0, 1)] uB = (3, 0) ∧ putN y1 [(0, 1)] uB = [(1, 5)] := putE (by decide +kernel) (by decide +kernel) (by decide +kernel)
theorem y4_put : putW y3 [(0, 1), (1, 5)] uC = y4 ∧ putA y3 [(0, 1), (1, 5)] uC = (6, 0) ∧ putN y3 [(0, 1), (1, 5)] uC = [(2, 7)] := putE (by decide +kernel) (by decide +kernel) (by decide +kernel)
theorem y1_inv : Inv y1 := by have := (ex0_inv.putW [] uA).1; rwa [y1_put.1] at this
theorem y2_inv : Inv y2 := by have := (y1_inv.putW [(0, 1)] uB).1; rwa [y2_put.1] at this
theorem y2'_inv : Inv y2' := y2_inv.bind (by decide) (by decide) rfl rfl rfl (by decide)
theorem y3_inv : Inv y3 := y2'_inv.bind (by decide) (by decide) rfl rfl rfl (by decide)
theorem y4_inv : Inv y4 := by have := (y3_inv.putW [(0, 1), (1, 5)] uC).1; rwa [y4_put.1] at this
theorem fol0 {S : Sto} {x : Nat} (hx : x < S.cells.length) (h : S.cells[x].lk < 0) : fol S x = x := fol_eq (f := 0) ⟨hx, h, rfl⟩
theorem cell0 {S : Sto} {x : Nat} (hx : x < S.cells.length) (h : S.cells[x].lk < 0) : cellF S x = S.cells[x] := by
  unfold cellF
  rw [fol0 hx h, List.getElem?_eq_getElem hx]
  rfl
theorem uniP_cons (sf : Bool) (f k : Nat) (S : Sto) (p : Nat × Nat) (l : List (Nat × Nat)) : uniP sf (f + 1) (k + 1) S (p :: l) = match (oneP S sf k p.1 p.2).1 with
    | (some true, S', k') => uniP sf f k' S' ((oneP S sf k p.1 p.2).2 ++ l)
    | r => r := rfl
theorem o1 : oneP y2 false 19999 0 3 = ((some true, y2, 19999), [(1, 4), (2, 5)]) := by
  have f0 : fol y2 0 = 0 := fol0 (by decide) (by decide)
  have f3 : fol y2 3 = 3 := fol0 (by decide) (by decide)
  have c0 : cellF y2 0 = ⟨4, 0, ⟨#[102]⟩, [1, 2], -1, 2⟩ := cell0 (by decide) (by decide)
  have c3 : cellF y2 3 = ⟨4, 0, ⟨#[102]⟩, [4, 5], -1, 5⟩ := cell0 (by decide) (by decide)
  unfold oneP argN
  rw [f0, f3, c0, c3]
  simp
theorem o2 : oneP y2 false 19998 1 4 = ((some true, y2', 19998), []) := by
  have f0 : fol y2 1 = 1 := fol0 (by decide) (by decide)
  have f3 : fol y2 4 = 4 := fol0 (by decide) (by decide)
  have c0 : cellF y2 1 = ⟨1, 0, ⟨#[]⟩, [], -1, 2⟩ := cell0 (by decide) (by decide)
  unfold oneP bindP
  rw [f0, f3, c0]
  simp [y2']
theorem o3 : oneP y2' false 19997 2 5 = ((some true, y3, 19997), []) := by
  have f0 : fol y2' 2 = 2 := fol0 (by decide) (by decide)
  have f3 : fol y2' 5 = 5 := fol0 (by decide) (by decide)
  have c0 : cellF y2' 2 = ⟨3, 0, ⟨#[98]⟩, [], -1, 2⟩ := cell0 (by decide) (by decide)
  have c1 : cellF y2' 5 = ⟨1, 0, ⟨#[]⟩, [], -1, 5⟩ := cell0 (by decide) (by decide)
  unfold oneP bindP
  rw [f0, f3, c0, c1]
  simp [y3]
theorem u1 : uniP false 20000 20000 y2 [(0, 3)] = (some true, y3, 19997) := by
  show uniP false (19999 + 1) (19999 + 1) y2 [(0, 3)] = _
  rw [uniP_cons, o1]
  show uniP false (19998 + 1) (19998 + 1) y2 [(1, 4), (2, 5)] = _
  rw [uniP_cons, o2]
  show uniP false (19997 + 1) (19997 + 1) y2' [(2, 5)] = _
  rw [uniP_cons, o3]
  rfl
theorem r1 : uniR y2 false 0 3 = some true ∧ uniW y2 false 0 3 = y3 := by
  have h : uniR y2 false 0 3 = some true := by unfold uniR; rw [u1]
  refine ⟨h, ?_⟩
  unfold uniW
  rw [h, u1]
  rfl
theorem hy : hasP y4 7 19999 [6] = (some true, 19997) := by
  have f6 : fol y4 6 = 6 := fol0 (by decide) (by decide)
  have f7 : fol y4 7 = 7 := fol0 (by decide) (by decide)
  have c6 : cellF y4 6 = ⟨4, 0, ⟨#[102]⟩, [7], -1, 7⟩ := cell0 (by decide) (by decide)
  show hasP y4 7 (19998 + 1) [6] = _
  unfold hasP
  dsimp only
  rw [f6, if_neg (by decide)]
  unfold argN
  rw [c6]
  show hasP y4 7 (19997 + 1) [7] = _
  unfold hasP
  dsimp only
  rw [f7, if_pos rfl]
theorem r2 : uniR y4 true 7 6 = some false ∧ uniW y4 true 7 6 = y4 := by
  have f6 : fol y4 6 = 6 := fol0 (by decide) (by decide)
  have f7 : fol y4 7 = 7 := fol0 (by decide) (by decide)
  have c6 : cellF y4 6 = ⟨4, 0, ⟨#[102]⟩, [7], -1, 7⟩ := cell0 (by decide) (by decide)
  have c7 : cellF y4 7 = ⟨1, 0, ⟨#[]⟩, [], -1, 7⟩ := cell0 (by decide) (by decide)
  have o : oneP y4 true 19999 7 6 = ((some false, y4, 19997), []) := by
    unfold oneP bindP
    rw [f6, f7, c6, c7, hy]
    simp
  have u : uniP true 20000 20000 y4 [(7, 6)] = (some false, y4, 19997) := by
    show uniP true (19999 + 1) (19999 + 1) y4 [(7, 6)] = _
    rw [uniP_cons, o]
  have h : uniR y4 true 7 6 = some false := by unfold uniR; rw [u]
  refine ⟨h, ?_⟩
  unfold uniW
  rw [h]
  rfl
theorem r3 : uniR y4 false 7 6 = some true := by
  have f6 : fol y4 6 = 6 := fol0 (by decide) (by decide)
  have f7 : fol y4 7 = 7 := fol0 (by decide) (by decide)
  have c6 : cellF y4 6 = ⟨4, 0, ⟨#[102]⟩, [7], -1, 7⟩ := cell0 (by decide) (by decide)
  have c7 : cellF y4 7 = ⟨1, 0, ⟨#[]⟩, [], -1, 7⟩ := cell0 (by decide) (by decide)
  have o : oneP y4 false 19999 7 6 = ((some true, bindS y4 7 6, 19999), []) := by
    unfold oneP bindP
    rw [f6, f7, c6, c7]
    simp
  unfold uniR
  show (uniP false (19999 + 1) (19999 + 1) y4 [(7, 6)]).1 = _
  rw [uniP_cons, o]
  rfl
def uG : Tm := ufT [uaT ⟨#[97]⟩, uaT ⟨#[98]⟩]
theorem g1 : getG y3 2000 0 0 = (uG, 0, 3) := by
  have e0 : fol y3 0 = 0 := fol0 (by decide) (by decide)
  have e1 : fol y3 1 = 4 := fol_eq (f := 1) ⟨by decide, 4, rfl, by decide, by decide, rfl⟩
  have e2 : fol y3 2 = 2 := fol0 (by decide) (by decide)
  have h1 : Tr y3 (uaT ⟨#[97]⟩) 1 := by
    unfold uaT Tr
    rw [e1]
    exact ⟨_, rfl, rfl, trivial⟩
  have h2 : Tr y3 (uaT ⟨#[98]⟩) 2 := by
    unfold uaT Tr
    rw [e2]
    exact ⟨_, rfl, rfl, trivial⟩
  have h := getG_tr y3 uG 0 2000 0 ?_ (by decide) (by decide)
  · have e : 0 + uG.size = 3 := rfl
    rw [e] at h
    exact h
  unfold uG ufT Tr
  rw [e0]
  exact ⟨_, rfl, rfl, h1, h2, trivial⟩
theorem ge1 : getT y3 0 = uG ∧ getE y3 0 = 0 := by
  unfold getT getE
  rw [g1]
  exact ⟨rfl, if_neg (by simp)⟩
/-! ### Its own functions -/
theorem al9_v (n : Int) (w : World) : Calls Try.prog 87 #[.int .i64 n] w fun e w' => e = .returned (.agg #[.int .i64 1, .int .i64 n, .string ⟨#[]⟩, .slice none 0 0]) ∧ Below w.heap.size w w' := by
  go_enter Try.func87, Try.ntmps87
  go_wp2
  exact bodyPost_ret (v := .agg #[.int .i64 1, .int .i64 n, .string ⟨#[]⟩, .slice none 0 0]) (by simp [results, Try.results87, go_sem]) rfl ⟨rfl, below_new w _⟩
theorem al9_a (s : ByteArray) (w : World) : Calls Try.prog 88 #[.string s] w fun e w' => e = .returned (.agg #[.int .i64 3, .int .i64 0, .string s, .slice none 0 0]) ∧ Below w.heap.size w w' := by
  go_enter Try.func88, Try.ntmps88
  go_wp2
  exact bodyPost_ret (v := .agg #[.int .i64 3, .int .i64 0, .string s, .slice none 0 0]) (by simp [results, Try.results88, go_sem]) rfl ⟨rfl, below_new w _⟩
theorem al9_f (a : Option Addr) (n c : Nat) (w : World) : Calls Try.prog 89 #[.slice a n c] w fun e w' => e = .returned (.agg #[.int .i64 4, .int .i64 0, .string ⟨#[102]⟩, .slice a n c]) ∧ Below w.heap.size w w' := by
  go_enter Try.func89, Try.ntmps89
  go_wp2
  exact bodyPost_ret (v := .agg #[.int .i64 4, .int .i64 0, .string ⟨#[102]⟩, .slice a n c]) (by simp [results, Try.results89, go_sem]) rfl ⟨rfl, below_new w _⟩
/-- the example's store and map -/
structure A9 (w : World) (p mb : Nat) (S : Sto) (M : List (Int × Int)) (D : Nat → Prop) (u : World) : Prop where
  law : Law8 w p S D u
  map : IMapB u mb M
  free : ¬ D mb
  base : w.heap.size ≤ mb
theorem A9.below {w u u' : World} {p mb : Nat} {S : Sto} {M : List (Int × Int)} {D : Nat → Prop} (h : A9 w p mb S M D u) (hb : Below u.heap.size u u') : A9 w p mb S M D u' :=
  ⟨(h.law.below hb).1, h.map.below (hb.block _ h.map.lt), h.free, h.base⟩
theorem A9.step {w u u' : World} {p mb : Nat} {S S' : Sto} {M : List (Int × Int)} {D D' : Nat → Prop} (h : A9 w p mb S M D u) (hl : Law8 w p S' D' u') (hs : Step D u D' u') : A9 w p mb S' M D' u' :=
  ⟨hl, h.map.below (hs.blk mb ⟨h.free, h.map.lt⟩).2, (hs.blk mb ⟨h.free, h.map.lt⟩).1.1, h.base⟩
theorem A9.put {w u : World} {p mb : Nat} {S : Sto} {M : List (Int × Int)} {D : Nat → Prop} (h : A9 w p mb S M D u) (hI : Inv S) {t : Tm} {v : Value} {g : Nat} (ht : IsTm u (fun b => b = g) v t) (hg : ¬ D g) (hs : t.size ≤ 20000) {x e : Int} {S' : Sto} {q : Int × Int} (hp : putW S M t = S' ∧ putA S M t = (x, e) ∧ putN S M t = [q]) :
    Calls Try.prog 17 #[.pointer (some ⟨p, 0, none⟩), v, .map (some mb)] u fun e' u' => e' = .returned (.tuple #[.int .i64 x, .int .i64 e]) ∧ ∃ D', A9 w p mb S' (M ++ [q]) D' u' ∧ ∀ b, Free D u b → b ≠ mb → Free D' u' b ∧ u'.heap[b]? = u.heap[b]? := by
  refine (law_PutV h.law hI h.map h.free h.base ht (fun b hb => by rw [hb]; exact hg) hs).mono ?_
  rintro e' u' ⟨rfl, D', F, hput⟩
  rw [hp.2.1]
  have hq := hput.perm
  rw [hp.2.2] at hq
  have hF := List.perm_singleton.1 hq.symm
  have hl := hput.law
  rw [hp.1] at hl
  have hm := hput.map
  rw [hF] at hm
  exact ⟨rfl, D', ⟨hl, hm, hput.free, h.base⟩, hput.blk⟩
theorem cell_map {w : World} {b o : Nat} {es : Array MapEntry} {c : Nat} (h : w.heap[b]? = some (.map es c)) : w.cell? ⟨b, o, none⟩ = none := by
  simp [World.cell?, h]
/-- the term that was got, in memory -/
structure T9 (mb xr b0 o0 c0 : Nat) (D : Nat → Prop) (u : World) : Prop where
  fx : Free D u xr
  rx : u.heap[xr]? = some (.cells #[.int .i64 4, .int .i64 0, .string ⟨#[102]⟩, .slice (some ⟨b0, o0, none⟩) 2 c0] 33 (0, 0))
  f0 : Free D u b0
  z0 : u.cell? ⟨b0, o0 + 0 * 4 + 2, none⟩ = some (.string ⟨#[97]⟩)
  z1 : u.cell? ⟨b0, o0 + 1 * 4 + 2, none⟩ = some (.string ⟨#[98]⟩)
  nx : xr ≠ mb
  n0 : b0 ≠ mb
theorem T9.step {mb xr b0 o0 c0 : Nat} {D D' : Nat → Prop} {u u' : World} (h : T9 mb xr b0 o0 c0 D u) (hs : ∀ b, Free D u b → b ≠ mb → Free D' u' b ∧ u'.heap[b]? = u.heap[b]?) : T9 mb xr b0 o0 c0 D' u' :=
  ⟨(hs xr h.fx h.nx).1, (hs xr h.fx h.nx).2.trans h.rx, (hs b0 h.f0 h.n0).1, (World.cell?_of_block (a := ⟨b0, _, none⟩) (hs b0 h.f0 h.n0).2).trans h.z0, (World.cell?_of_block (a := ⟨b0, _, none⟩) (hs b0 h.f0 h.n0).2).trans h.z1, h.nx, h.n0⟩
set_option maxRecDepth 100000 in
set_option maxHeartbeats 8000000 in
theorem alive9 (w : World) : Calls Try.prog 46 #[] w fun e w' => e = .returned (.bool true) ∧ Below w.heap.size w w' := by
  go_enter Try.func46, Try.ntmps46
  go_wp2_with fail
  refine (law_New w w (Below.refl _ _) 100 (by decide) (by decide)).mono ?_
  rintro e1 w1 ⟨rfl, D1, hl1, hb1⟩
  obtain ⟨h2, s2, f2, -⟩ := hl1.alloc (.map #[] 0)
  have ha2 : A9 w w.heap.size w1.heap.size ex0 [] D1 (w1.alloc (.map #[] 0)) := ⟨h2, IMapB.made w1, f2.1, hl1.bel.size⟩
  have HA2 := Lib.hid ha2
  clear hl1 hb1 h2 s2 f2 ha2
  dsimp only
  go_wp2_with (with_reducible show wpList _ _ _ (⟨some 27, _, _, _, _, _⟩ :: _) _ _
               refine wpList_imap_made rfl _ rfl ?_)
  generalize w1.alloc (.map #[] 0) = w2 at *
  generalize w1.heap.size = mb at *
  refine (al9_v _ _).mono ?_
  rintro e3 w3 ⟨rfl, hb3⟩
  go_wp2_with fail
  refine (al9_a _ _).mono ?_
  rintro e4 w4 ⟨rfl, hb4⟩
  have HA4 := Lib.hid ((HA2.out.below hb3).below hb4)
  clear hb3 hb4 HA2
  go_wp2_with fail
  have hb5 := below_new w4 (.cells #[.int .i64 1, .int .i64 0, .string ⟨#[]⟩, .slice none 0 0, .int .i64 3, .int .i64 0, .string ⟨#[98]⟩, .slice none 0 0] 33 (0, 0))
  have hr5 := heap_alloc_new w4 (.cells #[.int .i64 1, .int .i64 0, .string ⟨#[]⟩, .slice none 0 0, .int .i64 3, .int .i64 0, .string ⟨#[98]⟩, .slice none 0 0] 33 (0, 0))
  have hn5 : ∀ D : Nat → Prop, (∀ b, D b → b < w4.heap.size) → ¬ D w4.heap.size := fun D h e => by have := h _ e; omega
  refine (al9_f _ _ _ _).mono ?_
  rintro e6 w6 ⟨rfl, hb6⟩
  have ha6 := (HA4.out.below hb5).below hb6
  have hsl : IsSl w6 (fun b => b = w4.heap.size) (.slice (some ⟨w4.heap.size, 0, none⟩) 2 2) [uvT 0, uaT ⟨#[98]⟩] :=
    pair_sl (t1 := uvT 0) (t2 := uaT ⟨#[98]⟩) rfl ((hb6.block _ (by simp)).trans hr5) (IsSl.nil _ _ _ _) (IsSl.nil _ _ _ _)
  have hi6 : IsTm w6 (fun b => b = w4.heap.size) (.agg #[.int .i64 4, .int .i64 0, .string ⟨#[102]⟩, .slice (some ⟨w4.heap.size, 0, none⟩) 2 2]) uA := IsTm.mk' (t := uA) hsl
  have hp6 := ha6.put ex0_inv hi6 (hn5 _ HA4.out.law.dl) (by decide) y1_put
  have HP6 := Lib.hid hp6
  clear hb5 hr5 hn5 hb6 ha6 hsl hi6 hp6 HA4
  generalize w4.heap.size = g6 at *
  go_wp2_with fail
  refine HP6.out.mono ?_
  rintro e7 w7 ⟨rfl, D7, ha7, -⟩
  have HA7 := Lib.hid ha7
  clear ha7 HP6
  go_wp2_with fail
  refine (al9_a _ _).mono ?_
  rintro e8 w8 ⟨rfl, hb8⟩
  go_wp2_with fail
  refine (al9_v _ _).mono ?_
  rintro e9 w9 ⟨rfl, hb9⟩
  have HA9 := Lib.hid ((HA7.out.below hb8).below hb9)
  clear hb8 hb9 HA7
  go_wp2_with fail
  have hb10 := below_new w9 (.cells #[.int .i64 3, .int .i64 0, .string ⟨#[97]⟩, .slice none 0 0, .int .i64 1, .int .i64 1, .string ⟨#[]⟩, .slice none 0 0] 33 (0, 0))
  have hr10 := heap_alloc_new w9 (.cells #[.int .i64 3, .int .i64 0, .string ⟨#[97]⟩, .slice none 0 0, .int .i64 1, .int .i64 1, .string ⟨#[]⟩, .slice none 0 0] 33 (0, 0))
  have hn10 : ∀ D : Nat → Prop, (∀ b, D b → b < w9.heap.size) → ¬ D w9.heap.size := fun D h e => by have := h _ e; omega
  refine (al9_f _ _ _ _).mono ?_
  rintro e11 w11 ⟨rfl, hb11⟩
  have ha11 := (HA9.out.below hb10).below hb11
  have hsl : IsSl w11 (fun b => b = w9.heap.size) (.slice (some ⟨w9.heap.size, 0, none⟩) 2 2) [uaT ⟨#[97]⟩, uvT 1] :=
    pair_sl (t1 := uaT ⟨#[97]⟩) (t2 := uvT 1) rfl ((hb11.block _ (by simp)).trans hr10) (IsSl.nil _ _ _ _) (IsSl.nil _ _ _ _)
  have hi11 : IsTm w11 (fun b => b = w9.heap.size) (.agg #[.int .i64 4, .int .i64 0, .string ⟨#[102]⟩, .slice (some ⟨w9.heap.size, 0, none⟩) 2 2]) uB := IsTm.mk' (t := uB) hsl
  have hp11 := ha11.put y1_inv hi11 (hn10 _ HA9.out.law.dl) (by decide) y2_put
  have HP11 := Lib.hid hp11
  clear hb10 hr10 hn10 hb11 ha11 hsl hi11 hp11 HA9
  generalize w9.heap.size = g11 at *
  go_wp2_with fail
  refine HP11.out.mono ?_
  rintro e12 w12 ⟨rfl, D12, ha12, -⟩
  have HA12 := Lib.hid ha12
  clear ha12 HP11
  go_wp2_with fail
  have hun := un_Unify HA12.out.law y2_inv 0 3 (by decide) (by decide)
  rw [r1.1, r1.2] at hun
  refine hun.mono ?_
  rintro e13 w13 ⟨rfl, D13, hl13, st13⟩
  have HA13 := Lib.hid (HA12.out.step hl13 st13)
  clear hun hl13 st13 HA12
  simp only [hasB, hasE]
  go_wp2_with fail
  have hge := law_GetE HA13.out.law y3_inv 0 (by decide)
  rw [ge1.1, ge1.2] at hge
  refine hge.mono ?_
  rintro e14 w14 ⟨q14, c14, he14, hl14, st14, hi14'⟩
  have hi14 : IsTm w14 (Free D13 w14) (aggT uG q14 c14) uG := hi14'.imp (fun b hb => hb.1) fun _ _ _ => rfl
  clear hi14'
  obtain rfl : e14 = .returned (.tuple #[.agg #[.int .i64 4, .int .i64 0, .string ⟨#[102]⟩, .slice q14 2 c14], .int .i64 0]) := he14
  have hb15 := below_new w14 (.cells #[.int .i64 4, .int .i64 0, .string ⟨#[102]⟩, .slice q14 2 c14] 33 (0, 0))
  have hr15 := heap_alloc_new w14 (.cells #[.int .i64 4, .int .i64 0, .string ⟨#[102]⟩, .slice q14 2 c14] 33 (0, 0))
  have ha15 := (HA13.out.step hl14 st14).below hb15
  have hix := (hi14.below hb15)
  have hsl15 : IsSl (w14.alloc (.cells #[.int .i64 4, .int .i64 0, .string ⟨#[102]⟩, .slice q14 2 c14] 33 (0, 0))) (Free D13 w14) (.slice q14 2 c14) [uaT ⟨#[97]⟩, uaT ⟨#[98]⟩] := hix.args
  obtain ⟨b0, o0, rfl, hf0, ht0⟩ := hsl15.at 0 (by decide)
  obtain ⟨b1, o1, e1, hf1, ht1⟩ := hsl15.at 1 (by decide)
  simp only [Option.some.injEq, Addr.mk.injEq, and_true] at e1
  obtain ⟨rfl, rfl⟩ := e1
  obtain ⟨-, -, -, -, z0, -⟩ := ht0.read
  obtain ⟨-, -, -, -, z1, -⟩ := ht1.read
  have hmbx : mb ≠ w14.heap.size := by have := (HA13.out.step hl14 st14).map.lt; omega
  have h9 : T9 mb w14.heap.size b0 o0 c14 D13 (w14.alloc (.cells #[.int .i64 4, .int .i64 0, .string ⟨#[102]⟩, .slice (some ⟨b0, o0, none⟩) 2 c14] 33 (0, 0))) := by
    obtain ⟨-, s5, n5⟩ := hl14.below hb15
    refine ⟨n5 _ (Nat.le_refl _) (by simp), hr15, (s5.blk b0 hf0).1, z0, z1, Ne.symm hmbx, fun e => ?_⟩
    obtain ⟨es, c, hmap, -⟩ := ha15.map
    have h0 := cell_map (o := o0 + 0 * 4 + 2) hmap
    rw [← e] at h0
    rw [h0] at z0
    cases z0
  have HA15 := Lib.hid ha15
  have H9 := Lib.hid h9
  clear hge hl14 st14 hb15 hr15 ha15 hix hsl15 hf0 hf1 ht0 ht1 z0 z1 hi14 HA13 h9 hmbx
  dsimp only
  go_wp2_with fail
  generalize w14.alloc (.cells #[.int .i64 4, .int .i64 0, .string ⟨#[102]⟩, .slice (some ⟨b0, o0, none⟩) 2 c14] 33 (0, 0)) = w15 at *
  generalize w14.heap.size = xr at *
  refine (al9_v _ _).mono ?_
  rintro e16 w16 ⟨rfl, hb16⟩
  go_wp2_with fail
  have hb17 := hb16.trans ((below_new w16 (.cells #[.int .i64 1, .int .i64 2, .string ⟨#[]⟩, .slice none 0 0] 33 (0, 0))).mono hb16.size)
  have hr17 := heap_alloc_new w16 (.cells #[.int .i64 1, .int .i64 2, .string ⟨#[]⟩, .slice none 0 0] 33 (0, 0))
  refine (al9_f _ _ _ _).mono ?_
  rintro e18 w18 ⟨rfl, hb18⟩
  have hb18' := hb17.trans (hb18.mono hb17.size)
  have ha18 := HA15.out.below hb18'
  have h18 := H9.out.step fun b hb _ => (HA15.out.law.below hb18').2.1.blk b hb
  have hsl : IsSl w18 (fun b => b = w16.heap.size) (.slice (some ⟨w16.heap.size, 0, none⟩) 1 1) [uvT 2] := by
    refine IsSl.mk' (ts := [uvT 2]) fun i hi => ⟨w16.heap.size, 0, rfl, rfl, ?_⟩
    obtain rfl : i = 0 := by simp at hi; omega
    have hr18 := (hb18.block _ (by simp)).trans hr17
    obtain ⟨v0, v1, v2, v3⟩ := row4 hr18
    exact TmAt.mk' (t := uvT 2) v0 v1 v2 v3 (IsSl.nil _ _ _ _)
  have hi18 : IsTm w18 (fun b => b = w16.heap.size) (.agg #[.int .i64 4, .int .i64 0, .string ⟨#[102]⟩, .slice (some ⟨w16.heap.size, 0, none⟩) 1 1]) uC := IsTm.mk' (t := uC) hsl
  have hn17 : ¬ D13 w16.heap.size := fun e => by have := HA15.out.law.dl _ e; have := hb16.size; omega
  have hp18 := ha18.put y3_inv hi18 hn17 (by decide) y4_put
  have HP18 := Lib.hid hp18
  have H18 := Lib.hid h18
  clear hb16 hb17 hr17 hb18 hb18' ha18 h18 hsl hi18 hn17 hp18 H9 HA15
  generalize w16.heap.size = g18 at *
  go_wp2_with fail
  refine HP18.out.mono ?_
  rintro e19 w19 ⟨rfl, D19, ha19, st19⟩
  have H19 := Lib.hid (H18.out.step st19)
  have HA19 := Lib.hid ha19
  clear ha19 st19 H18 HP18
  have him := HA19.out.map.imap
  have hm7 : (mget ([] ++ [(0, 1)] ++ [(1, 5)] ++ [(2, 7)]) 2).getD 0 = 7 := rfl
  have HIM := Lib.hid him
  have HM7 := Lib.hid hm7
  clear him hm7
  go_wp2_with (with_reducible show wpList _ _ _ (⟨some 81, _, _, _, _, _⟩ :: _) _ _
               refine wpList_imap_one rfl 47 (.tmp 80) (.const (.int .i64 2)) rfl _ _ _ Try.underlying47 Try.underlying2 mb _ rfl HIM.out 2 rfl (fun _ => by kernel_rfl) ?_
               rw [HM7.out])
  have hsf := un_Safely HA19.out.law y4_inv 7 6 (by decide) (by decide)
  rw [r2.1, r2.2] at hsf
  refine hsf.mono ?_
  rintro e20 w20 ⟨rfl, D20, hl20, st20⟩
  have HA20 := Lib.hid (HA19.out.step hl20 st20)
  have H20 := Lib.hid (H19.out.step fun b hb _ => st20.blk b hb)
  have HIM20 := Lib.hid HA20.out.map.imap
  clear hsf hl20 st20 HA19 H19 HIM
  simp only [hasB, hasE]
  go_wp2_with (with_reducible show wpList _ _ _ (⟨some 89, _, _, _, _, _⟩ :: _) _ _
               refine wpList_imap_one rfl 47 (.tmp 88) (.const (.int .i64 2)) rfl _ _ _ Try.underlying47 Try.underlying2 mb _ rfl HIM20.out 2 rfl (fun _ => by kernel_rfl) ?_
               rw [HM7.out])
  have hun := un_Unify HA20.out.law y4_inv 7 6 (by decide) (by decide)
  rw [r3] at hun
  refine hun.mono ?_
  rintro e21 w21 ⟨rfl, D21, hl21, st21⟩
  have h21 := H20.out.step fun b hb _ => st21.blk b hb
  have HL21 := Lib.hid hl21.bel
  obtain ⟨v0, v1, v2, v3⟩ := row4 h21.rx
  have z0 := h21.z0
  have z1 := h21.z1
  clear hun hl21 st21 h21 HA20 H20 HIM20
  simp only [hasB, hasE]
  go_wp2
  go_ret
  exact ⟨rfl, HL21.out⟩
end Go.Proofs.Ytoklbeogmcdgaaa.Tms
