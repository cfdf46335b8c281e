
/-
  term.Items, walked over the program. Printed by gen_items.py.
-/
import Derived.Test.YtkhchmgdaolojaaDoorAl3
import Derived.Test.YtkhchmgdaolojaaDoorChn
namespace Go.Proofs.YtkhchmgdaolojaaDoor.Tms
open Go Go.RowKit Go.Proofs.YtkhchmgdaolojaaDoor.Reg
set_option linter.unusedVariables false

def consB (t : Tm) : Bool := t.k == 4 && (t.s.toList == [46] && t.args.length == 2)
def headT (t : Tm) : Tm := t.args.getD 0 t
def tailT (t : Tm) : Tm := t.args.getD 1 t
def itemsN : Nat → Tm → List Tm × Tm
  | 0, t => ([], t)
  | n + 1, t => if consB t then (headT t :: (itemsN n (tailT t)).1, (itemsN n (tailT t)).2) else ([], t)
def itemsT (t : Tm) : List Tm × Tm := itemsN t.size t
theorem cons_args {t : Tm} (h : consB t = true) : t.args = [headT t, tailT t] := by
  obtain ⟨k, n, s, a⟩ := t
  simp only [consB, Tm.args, Bool.and_eq_true, beq_iff_eq] at h
  match a, h.2.2 with
  | [x, y], _ => rfl
theorem cons_size {t : Tm} (h : consB t = true) : (headT t).size + (tailT t).size + 1 = t.size := by
  have := cons_args h
  obtain ⟨k, n, s, a⟩ := t
  simp only [Tm.args] at this
  simp only [Tm.size]
  conv => rhs; rw [this]
  simp only [sizeL]
  omega
theorem itemsN_eq : ∀ (n m : Nat) (t : Tm), t.size ≤ n → t.size ≤ m → itemsN n t = itemsN m t
  | 0, _, t, h, _ => absurd (size_pos t) (by omega)
  | _, 0, t, _, h => absurd (size_pos t) (by omega)
  | n + 1, m + 1, t, h, h' => by
    unfold itemsN
    by_cases hc : consB t = true
    · have := cons_size hc
      have := size_pos (headT t)
      rw [if_pos hc, if_pos hc, itemsN_eq n m (tailT t) (by omega) (by omega)]
    · rw [if_neg hc, if_neg hc]
theorem items_cons {t : Tm} (h : consB t = true) : itemsT t = (headT t :: (itemsT (tailT t)).1, (itemsT (tailT t)).2) := by
  have h1 := cons_size h
  have h2 := size_pos (headT t)
  have h3 : itemsN (t.size - 1) (tailT t) = itemsT (tailT t) := itemsN_eq _ _ _ (by omega) (Nat.le_refl _)
  unfold itemsT at h3 ⊢
  rw [show t.size = (t.size - 1) + 1 by omega, itemsN, if_pos h]
  have h4 : (t.size - 1 + 1 - 1) = t.size - 1 := by omega
  rw [h3]
theorem items_none {t : Tm} (h : consB t = false) : itemsT t = ([], t) := by
  unfold itemsT
  cases hs : t.size with
  | zero => rfl
  | succ n => rw [itemsN, h]; rfl

/-- where the walk stands: l is made, u is left -/
def ItSt (t : Tm) (l : List Tm) (u : Tm) : Prop := itemsT t = (l ++ (itemsT u).1, (itemsT u).2) ∧ l.length + u.size ≤ t.size
theorem ItSt.first (t : Tm) : ItSt t [] t := ⟨by simp, by simp⟩
theorem ItSt.next {t u : Tm} {l : List Tm} (h : ItSt t l u) (hc : consB u = true) : ItSt t (l ++ [headT u]) (tailT u) := by
  have h2 := cons_size hc
  have h3 := size_pos (headT u)
  refine ⟨?_, by have := h.2; simp; omega⟩
  rw [h.1, items_cons hc]
  simp
theorem items_end {t u : Tm} {l : List Tm} (h : ItSt t l u) (hc : consB u = false) : (itemsT t).1 = l ∧ (itemsT t).2 = u := by
  rw [h.1, items_none hc]
  simp

theorem itemsN_size : ∀ (n : Nat) (t : Tm), sizeL (itemsN n t).1 + (itemsN n t).2.size ≤ t.size
  | 0, t => by simp [itemsN, sizeL]
  | n + 1, t => by
    unfold itemsN
    by_cases hc : consB t = true
    · have h1 := cons_size hc
      have h2 := itemsN_size n (tailT t)
      rw [if_pos hc]
      simp only [sizeL]
      omega
    · rw [if_neg hc]
      simp [sizeL]
theorem items_size (t : Tm) : sizeL (itemsT t).1 + (itemsT t).2.size ≤ t.size := itemsN_size _ _
theorem listT_size (e : Tm) : ∀ ts : List Tm, (listT ts e).size = sizeL ts + ts.length + e.size
  | [] => by simp [listT, sizeL]
  | x :: l => by
    have := listT_size e l
    simp only [listT, compT, Tm.size, sizeL, List.length_cons]
    omega
/-- two results: a slot, and a struct in a row -/
theorem results_tmp_cell {P : Program} {fn : Func} {p q : Tmp} {ty : TypeId} (h : fn.results = #[.tmp q, .cell p ty]) (tmps : Array Value) (w : World) (g : Nat) (t : TypeId) (cs : Array Value) (fr : Nat × Nat) (d : TypeDesc) (x : Value)
    (hp : tmps.getD p undef = .pointer (some ⟨g, 0, none⟩)) (hx : tmps.getD q undef = x) (hg : w.heap[g]? = some (.cells cs t fr))
    (hu : P.underlying ty = some d) (hd : (match d with | .struct _ | .array _ _ => true | _ => false) = true) (hi : (P.info? ty).map (·.size) = some cs.size) :
    (results fn tmps).run P w = .ok (.tuple #[x, .agg cs]) w := by
  have hp' : tmps[p]?.getD undef = .pointer (some ⟨g, 0, none⟩) := by simpa using hp
  have hx' : tmps[q]?.getD undef = x := by simpa using hx
  simp [results, h, hp', hx', asAddr, run_loadVar_row w g t ty cs fr d hg hu hd hi]

theorem OwnSl.high {w w' : World} {base : Nat} {v : Value} {ts : List Tm} (h : OwnSl w base (fun b => base ≤ b) v ts) (hs : w.heap.size ≤ w'.heap.size) (hb : ∀ b, base ≤ b → b < w.heap.size → w'.heap[b]? = w.heap[b]?) : OwnSl w' base (fun b => base ≤ b) v ts := by
  obtain ⟨xs, h1, h2⟩ := h
  refine ⟨xs, ⟨h1.1, ?_⟩, h2.imp2 (fun b h => ⟨h.1, h.2.1, Nat.lt_of_lt_of_le h.2.2 hs⟩) fun b h _ => hb b h.1 h.2.2⟩
  rcases h1.2 with h | ⟨g, cap, cur, e, h, hg, rest⟩
  · exact .inl h
  · exact .inr ⟨g, cap, cur, e, h, (hb g h (Array.getElem?_eq_some_iff.1 hg).1).trans hg, rest⟩
theorem OwnSl.cap {w : World} {base : Nat} {P : Nat → Prop} {v : Value} {ts : List Tm} (h : OwnSl w base P v ts) : ∃ a c, v = .slice a ts.length c ∧ ts.length ≤ c ∧ c ≤ maxLen ∧ ((a = none ∧ c = 0) ∨ ∃ g, a = some ⟨g, 0, none⟩) := by
  obtain ⟨xs, ⟨-, ⟨rfl, hn⟩ | ⟨g, cap, cur, e, -, -, hnc, hcm, -⟩⟩, -⟩ := h
  · exact ⟨none, 0, by rw [hn], by omega, by decide, .inl ⟨rfl, rfl⟩⟩
  · exact ⟨_, _, e, by omega, by first | exact hcm | omega, .inr ⟨g, rfl⟩⟩
def lenOf : Value → Nat
  | .slice _ n _ => n
  | _ => 0
def ItRel (w : World) (P : Nat → Prop) (t : Tm) (v : Value) (wr : World) : Prop :=
  ∃ (l : List Tm) (u : Tm) (a : Option Addr) (c : Nat), ItSt t l u ∧ wr.heap[w.heap.size]? = some (.cells #[.int .i64 u.k, .int .i64 u.n, .string u.s, .slice a u.args.length c] 28 (0, 0)) ∧
    wr.heap[w.heap.size + 1]? = some (.cells #[.int .i64 0, .int .i64 0, .string ⟨#[]⟩, .slice none 0 0] 28 (0, 0)) ∧
    IsTm wr (fun b => P b ∧ b < w.heap.size) (.agg #[.int .i64 u.k, .int .i64 u.n, .string u.s, .slice a u.args.length c]) u ∧ OwnSl wr (w.heap.size + 2) (fun b => w.heap.size + 2 ≤ b) v l ∧ Below w.heap.size w wr ∧ w.heap.size + 2 ≤ wr.heap.size

set_option maxHeartbeats 1600000 in
theorem tm_itemsN (t : Tm) (v : Value) (P : Nat → Prop) (w : World) (hM : t.size ≤ 1000000000) (h : IsTm w P v t) :
    Calls Tryd.prog 64 #[v] w fun e w' => ∃ v1 v2 a1 c1, e = .returned (.tuple #[v1, v2]) ∧ v1 = .slice a1 (itemsT t).1.length c1 ∧ (itemsT t).1.length ≤ c1 ∧ c1 ≤ maxLen ∧ ((a1 = none ∧ c1 = 0) ∨ ∃ g, a1 = some ⟨g, 0, none⟩) ∧ IsSl w' (fun b => w.heap.size ≤ b) v1 (itemsT t).1 ∧ IsTm w' (fun b => w.heap.size ≤ b) v2 (itemsT t).2 ∧ Below w.heap.size w w' := by
  have h0 := h.lt
  obtain ⟨a, cap, rfl⟩ := h.form
  obtain ⟨t0, t1, tsz, tbl⟩ := two w (.cells #[.int .i64 t.k, .int .i64 t.n, .string t.s, .slice a t.args.length cap] 28 (0, 0)) (.cells #[.int .i64 0, .int .i64 0, .string ⟨#[]⟩, .slice none 0 0] 28 (0, 0))
  have hst : ItRel w P t (.slice none 0 0) ((w.alloc (.cells #[.int .i64 t.k, .int .i64 t.n, .string t.s, .slice a t.args.length cap] 28 (0, 0))).alloc (.cells #[.int .i64 0, .int .i64 0, .string ⟨#[]⟩, .slice none 0 0] 28 (0, 0))) :=
    ⟨[], t, a, cap, ItSt.first t, t0, t1, h0.below tbl, OwnSl.nil _ _ _, tbl, by omega⟩
  have HST := Lib.hid hst
  clear h h0 t0 t1 tsz tbl hst
  go_enter Tryd.func64, Tryd.ntmps64
  go_wp2
  go_loopw [4] (fun v wr => ItRel w P t v wr) (fun v _ => t.size - lenOf v)
  case atStart => exact HST.out
  case round =>
    obtain ⟨l, u, a, c, hit, hbox, hres, hi, hown, hbl, hbig⟩ := hrel
    obtain ⟨av, cv, rfl, hcap, hcm, hcn⟩ := hown.cap
    have HCAP : Hid (l.length ≤ cv ∧ cv ≤ maxLen ∧ ((av = none ∧ cv = 0) ∨ ∃ g, av = some ⟨g, 0, none⟩)) := Lib.hid ⟨hcap, hcm, hcn⟩
    clear hcap hcm hcn
    obtain ⟨x0, x1, x2, x3⟩ := row4 hbox
    have HIT := Lib.hid hit
    have HBOX := Lib.hid hbox
    have HRES := Lib.hid hres
    have HI := Lib.hid hi
    have HOWN := Lib.hid hown
    have HBL := Lib.hid hbl
    have HUS : Hid (u.size ≤ 1000000000) := Lib.hid (by have := hit.2; omega)
    have hlr : w.heap.size + 1 < wr.heap.size := by omega
    have hul : u.args.length ≤ 1000000000 := by have := len_le u.args; have : sizeL u.args + 1 = u.size := (by obtain ⟨k1, n1, s1, a1⟩ := u; simp [Tm.size, Tm.args]); have := HUS.out; omega
    have hll : l.length < t.size := by have := hit.2; have := size_pos u; omega
    have HLL := Lib.hid hll
    clear hit hbox hres hi hown hbl HST
    by_cases k4 : u.k = 4
    case neg =>
      have b1 : (u.k == 4) = false := by simpa using k4
      have hc : consB u = false := by simp [consB, b1]
      have HC := Lib.hid hc
      clear hc k4
      go_wp2_with (first
        | (go_at_call 75
           refine (tm_copy u _ _ _ HUS.out HI.out).mono ?_
           rintro e2 w2 ⟨v2, rfl, hi2, hb2⟩
           obtain ⟨a2, c2, rfl⟩ := hi2.form
           have HI2 := Lib.hid hi2
           have HB2 := Lib.hid hb2
           have HR2 := Lib.hid ((hb2.block _ hlr).trans HRES.out)
           clear hi2 hb2)
        | (refine wpList_store_row rfl 28 (.tmp 3) (.tmp 33) rfl (w.heap.size + 1) #[.int .i64 u.k, .int .i64 u.n, .string u.s, .slice a2 u.args.length c2] rfl rfl _ _ HR2.out size_term rfl (one4 _ _ _ _ _ _) ?_))
      have hz := setRow_heap w2 (w.heap.size + 1) _ (#[.int .i64 u.k, .int .i64 u.n, .string u.s, .slice a2 u.args.length c2] : Array Value) _ _ HR2.out
      have hbw : Below w.heap.size w (w2.setRow (w.heap.size + 1) #[.int .i64 u.k, .int .i64 u.n, .string u.s, .slice a2 u.args.length c2]) := below_setRow (HBL.out.trans (HB2.out.mono HBL.out.size)) (by omega) _
      have hoth : ∀ b, b ≠ w.heap.size + 1 → (w2.setRow (w.heap.size + 1) (#[.int .i64 u.k, .int .i64 u.n, .string u.s, .slice a2 u.args.length c2] : Array Value)).heap[b]? = w2.heap[b]? := fun b hb => setRow_other _ _ _ _ hb
      have hl : IsSl (w2.setRow (w.heap.size + 1) (#[.int .i64 u.k, .int .i64 u.n, .string u.s, .slice a2 u.args.length c2] : Array Value)) (fun b => w.heap.size ≤ b) (.slice av l.length cv) l := ((HOWN.out.below HB2.out).reads.imp (P' := fun b => w.heap.size + 2 ≤ b) (fun b h => h.elim (fun h => h) fun h => h) fun _ _ _ => rfl).imp (fun b h => by have h' : w.heap.size + 2 ≤ b := h; omega) fun b h _ => hoth b (by omega)
      have hr : IsTm (w2.setRow (w.heap.size + 1) (#[.int .i64 u.k, .int .i64 u.n, .string u.s, .slice a2 u.args.length c2] : Array Value)) (fun b => w.heap.size ≤ b) (.agg #[.int .i64 u.k, .int .i64 u.n, .string u.s, .slice a2 u.args.length c2]) u := HI2.out.imp (fun b h => by have := h.resolve_left fun h => h; omega) fun b h _ => hoth b (by have := h.resolve_left fun h => h; omega)
      obtain ⟨q1, q2⟩ := items_end HIT.out HC.out
      have hl2 : IsSl (w2.setRow (w.heap.size + 1) (#[.int .i64 u.k, .int .i64 u.n, .string u.s, .slice a2 u.args.length c2] : Array Value)) (fun b => w.heap.size ≤ b) (.slice av l.length cv) (itemsT t).1 := by rw [q1]; exact hl
      have hr2 : IsTm (w2.setRow (w.heap.size + 1) (#[.int .i64 u.k, .int .i64 u.n, .string u.s, .slice a2 u.args.length c2] : Array Value)) (fun b => w.heap.size ≤ b) (.agg #[.int .i64 u.k, .int .i64 u.n, .string u.s, .slice a2 u.args.length c2]) (itemsT t).2 := by rw [q2]; exact hr
      exact bodyPost_ret (v := .tuple #[.slice av l.length cv, .agg #[.int .i64 u.k, .int .i64 u.n, .string u.s, .slice a2 u.args.length c2]]) (results_tmp_cell Tryd.results64 _ _ (w.heap.size + 1) _ _ _ _ _ rfl rfl hz Tryd.underlying28 rfl (by kernel_rfl)) rfl ⟨_, _, av, cv, rfl, by rw [q1], by rw [q1]; exact HCAP.out.1, HCAP.out.2.1, HCAP.out.2.2, hl2, hr2, hbw⟩
    have b1 : (u.k == 4) = true := by simpa using k4
    clear k4
    cases b2 : (u.s.toList == [46])
    · have hc : consB u = false := by simp [consB, b2]
      have HC := Lib.hid hc
      clear hc
      go_wp2_with (first
        | (go_at_call 75
           refine (tm_copy u _ _ _ HUS.out HI.out).mono ?_
           rintro e2 w2 ⟨v2, rfl, hi2, hb2⟩
           obtain ⟨a2, c2, rfl⟩ := hi2.form
           have HI2 := Lib.hid hi2
           have HB2 := Lib.hid hb2
           have HR2 := Lib.hid ((hb2.block _ hlr).trans HRES.out)
           clear hi2 hb2)
        | (refine wpList_store_row rfl 28 (.tmp 3) (.tmp 33) rfl (w.heap.size + 1) #[.int .i64 u.k, .int .i64 u.n, .string u.s, .slice a2 u.args.length c2] rfl rfl _ _ HR2.out size_term rfl (one4 _ _ _ _ _ _) ?_))
      have hz := setRow_heap w2 (w.heap.size + 1) _ (#[.int .i64 u.k, .int .i64 u.n, .string u.s, .slice a2 u.args.length c2] : Array Value) _ _ HR2.out
      have hbw : Below w.heap.size w (w2.setRow (w.heap.size + 1) #[.int .i64 u.k, .int .i64 u.n, .string u.s, .slice a2 u.args.length c2]) := below_setRow (HBL.out.trans (HB2.out.mono HBL.out.size)) (by omega) _
      have hoth : ∀ b, b ≠ w.heap.size + 1 → (w2.setRow (w.heap.size + 1) (#[.int .i64 u.k, .int .i64 u.n, .string u.s, .slice a2 u.args.length c2] : Array Value)).heap[b]? = w2.heap[b]? := fun b hb => setRow_other _ _ _ _ hb
      have hl : IsSl (w2.setRow (w.heap.size + 1) (#[.int .i64 u.k, .int .i64 u.n, .string u.s, .slice a2 u.args.length c2] : Array Value)) (fun b => w.heap.size ≤ b) (.slice av l.length cv) l := ((HOWN.out.below HB2.out).reads.imp (P' := fun b => w.heap.size + 2 ≤ b) (fun b h => h.elim (fun h => h) fun h => h) fun _ _ _ => rfl).imp (fun b h => by have h' : w.heap.size + 2 ≤ b := h; omega) fun b h _ => hoth b (by omega)
      have hr : IsTm (w2.setRow (w.heap.size + 1) (#[.int .i64 u.k, .int .i64 u.n, .string u.s, .slice a2 u.args.length c2] : Array Value)) (fun b => w.heap.size ≤ b) (.agg #[.int .i64 u.k, .int .i64 u.n, .string u.s, .slice a2 u.args.length c2]) u := HI2.out.imp (fun b h => by have := h.resolve_left fun h => h; omega) fun b h _ => hoth b (by have := h.resolve_left fun h => h; omega)
      obtain ⟨q1, q2⟩ := items_end HIT.out HC.out
      have hl2 : IsSl (w2.setRow (w.heap.size + 1) (#[.int .i64 u.k, .int .i64 u.n, .string u.s, .slice a2 u.args.length c2] : Array Value)) (fun b => w.heap.size ≤ b) (.slice av l.length cv) (itemsT t).1 := by rw [q1]; exact hl
      have hr2 : IsTm (w2.setRow (w.heap.size + 1) (#[.int .i64 u.k, .int .i64 u.n, .string u.s, .slice a2 u.args.length c2] : Array Value)) (fun b => w.heap.size ≤ b) (.agg #[.int .i64 u.k, .int .i64 u.n, .string u.s, .slice a2 u.args.length c2]) (itemsT t).2 := by rw [q2]; exact hr
      exact bodyPost_ret (v := .tuple #[.slice av l.length cv, .agg #[.int .i64 u.k, .int .i64 u.n, .string u.s, .slice a2 u.args.length c2]]) (results_tmp_cell Tryd.results64 _ _ (w.heap.size + 1) _ _ _ _ _ rfl rfl hz Tryd.underlying28 rfl (by kernel_rfl)) rfl ⟨_, _, av, cv, rfl, by rw [q1], by rw [q1]; exact HCAP.out.1, HCAP.out.2.1, HCAP.out.2.2, hl2, hr2, hbw⟩
    by_cases l2 : u.args.length = 2
    case neg =>
      have b3 : ((u.args.length : Int) == 2) = false := by rw [beq_eq_false_iff_ne]; omega
      have hc : consB u = false := by simp [consB, l2]
      have HC := Lib.hid hc
      clear hc l2
      go_wp2_with (first
        | (go_at_call 75
           refine (tm_copy u _ _ _ HUS.out HI.out).mono ?_
           rintro e2 w2 ⟨v2, rfl, hi2, hb2⟩
           obtain ⟨a2, c2, rfl⟩ := hi2.form
           have HI2 := Lib.hid hi2
           have HB2 := Lib.hid hb2
           have HR2 := Lib.hid ((hb2.block _ hlr).trans HRES.out)
           clear hi2 hb2)
        | (refine wpList_store_row rfl 28 (.tmp 3) (.tmp 33) rfl (w.heap.size + 1) #[.int .i64 u.k, .int .i64 u.n, .string u.s, .slice a2 u.args.length c2] rfl rfl _ _ HR2.out size_term rfl (one4 _ _ _ _ _ _) ?_))
      have hz := setRow_heap w2 (w.heap.size + 1) _ (#[.int .i64 u.k, .int .i64 u.n, .string u.s, .slice a2 u.args.length c2] : Array Value) _ _ HR2.out
      have hbw : Below w.heap.size w (w2.setRow (w.heap.size + 1) #[.int .i64 u.k, .int .i64 u.n, .string u.s, .slice a2 u.args.length c2]) := below_setRow (HBL.out.trans (HB2.out.mono HBL.out.size)) (by omega) _
      have hoth : ∀ b, b ≠ w.heap.size + 1 → (w2.setRow (w.heap.size + 1) (#[.int .i64 u.k, .int .i64 u.n, .string u.s, .slice a2 u.args.length c2] : Array Value)).heap[b]? = w2.heap[b]? := fun b hb => setRow_other _ _ _ _ hb
      have hl : IsSl (w2.setRow (w.heap.size + 1) (#[.int .i64 u.k, .int .i64 u.n, .string u.s, .slice a2 u.args.length c2] : Array Value)) (fun b => w.heap.size ≤ b) (.slice av l.length cv) l := ((HOWN.out.below HB2.out).reads.imp (P' := fun b => w.heap.size + 2 ≤ b) (fun b h => h.elim (fun h => h) fun h => h) fun _ _ _ => rfl).imp (fun b h => by have h' : w.heap.size + 2 ≤ b := h; omega) fun b h _ => hoth b (by omega)
      have hr : IsTm (w2.setRow (w.heap.size + 1) (#[.int .i64 u.k, .int .i64 u.n, .string u.s, .slice a2 u.args.length c2] : Array Value)) (fun b => w.heap.size ≤ b) (.agg #[.int .i64 u.k, .int .i64 u.n, .string u.s, .slice a2 u.args.length c2]) u := HI2.out.imp (fun b h => by have := h.resolve_left fun h => h; omega) fun b h _ => hoth b (by have := h.resolve_left fun h => h; omega)
      obtain ⟨q1, q2⟩ := items_end HIT.out HC.out
      have hl2 : IsSl (w2.setRow (w.heap.size + 1) (#[.int .i64 u.k, .int .i64 u.n, .string u.s, .slice a2 u.args.length c2] : Array Value)) (fun b => w.heap.size ≤ b) (.slice av l.length cv) (itemsT t).1 := by rw [q1]; exact hl
      have hr2 : IsTm (w2.setRow (w.heap.size + 1) (#[.int .i64 u.k, .int .i64 u.n, .string u.s, .slice a2 u.args.length c2] : Array Value)) (fun b => w.heap.size ≤ b) (.agg #[.int .i64 u.k, .int .i64 u.n, .string u.s, .slice a2 u.args.length c2]) (itemsT t).2 := by rw [q2]; exact hr
      exact bodyPost_ret (v := .tuple #[.slice av l.length cv, .agg #[.int .i64 u.k, .int .i64 u.n, .string u.s, .slice a2 u.args.length c2]]) (results_tmp_cell Tryd.results64 _ _ (w.heap.size + 1) _ _ _ _ _ rfl rfl hz Tryd.underlying28 rfl (by kernel_rfl)) rfl ⟨_, _, av, cv, rfl, by rw [q1], by rw [q1]; exact HCAP.out.1, HCAP.out.2.1, HCAP.out.2.2, hl2, hr2, hbw⟩
    have b3 : ((u.args.length : Int) == 2) = true := by rw [beq_iff_eq]; omega
    have hc : consB u = true := by simp [consB, b1, b2, l2]
    have HC := Lib.hid hc
    have hag := cons_args hc
    have hsi := cons_size hc
    obtain ⟨g1, o1, ea, p1, m1⟩ := HI.out.args.at 0 (by omega)
    obtain ⟨g2, o2, eb, p2, m2⟩ := HI.out.args.at 1 (by omega)
    rw [ea] at eb
    simp only [Option.some.injEq, Addr.mk.injEq, and_true] at eb
    obtain ⟨rfl, rfl⟩ := eb
    have hx : u.args[0] = headT u := by simp [hag]
    have hy : u.args[1] = tailT u := by simp [hag]
    rw [hx] at m1
    rw [hy] at m2
    obtain ⟨c1, d1, y0, y1, y2, y3, i1, l1⟩ := m1.read
    obtain ⟨c2, d2, z0, z1, z2, z3, i2, -⟩ := m2.read
    subst ea
    simp only [Nat.zero_mul, Nat.add_zero, Nat.one_mul] at y0 y1 y2 y3 z0 z1 z2 z3
    have HX := Lib.hid i1
    have HY := Lib.hid i2
    have HSI := Lib.hid hsi
    have HXS : Hid ((headT u).size ≤ 1000000000) := Lib.hid (by have := HUS.out; omega)
    have HP1 : Hid (g1 < w.heap.size) := Lib.hid p1.2
    have HY0 := Lib.hid z0
    have HY1 := Lib.hid z1
    have HY2 := Lib.hid z2
    have HY3 := Lib.hid z3
    have HNX := Lib.hid (HIT.out.next hc)
    have HLN := Lib.hid (show l.length ≤ 1000000000 by omega)
    have in0 : (0 : Int) < (u.args.length : Int) := by omega
    have in1 : (1 : Int) < (u.args.length : Int) := by omega
    clear hag hsi hx hy m1 m2 i1 i2 p1 p2 hc l2 z0 z1 z2 z3
    generalize headT u = X at *
    generalize tailT u = Y at *
    go_wp2_with (first
      | (go_at_call 75
         refine (tm_copy X _ _ _ HXS.out HX.out).mono ?_
         rintro e2 w2 ⟨v2, rfl, hi2, hb2⟩
         obtain ⟨a2, c2', rfl⟩ := hi2.form
         have OWN2 := Lib.hid (HOWN.out.below hb2)
         have hit := hi2.imp (P' := fun b => w.heap.size + 2 ≤ b ∧ Value.ownBlock (.slice av l.length cv) ≠ some b) (fun b h => h.elim (fun h => h.elim) fun h => ⟨by omega, fun e => by have := (HOWN.out.low b e).2; omega⟩) fun _ _ _ => rfl
         have HIX := Lib.hid hit
         have HB2 := Lib.hid hb2
         have hs2 := hb2.size
         clear hi2 hb2 hit x0 x1 x2 x3 y0 y1 y2 y3)
      | (with_reducible show wpList _ _ _ (⟨some 26, _, _, _, _, _⟩ :: _) _ _; refine wpList_push_term rfl (.tmp 19) (.tmp 25) rfl (w.heap.size + 2) _ _ _ _ _ _ _ _ _ rfl OWN2.out rfl rfl HIX.out HLN.out (by omega) ?_
         intro v3 w3 hown hb3 _ _
         obtain ⟨a3, c3, rfl⟩ := hown.form
         have hbox3 := (hb3.block w.heap.size (by omega)).trans ((HB2.out.block w.heap.size (by omega)).trans HBOX.out)
         have hres3 := (hb3.block (w.heap.size + 1) (by omega)).trans ((HB2.out.block (w.heap.size + 1) (by omega)).trans HRES.out)
         have x3 := (row4 hbox3).2.2.2
         have q0 := (hb3.cell (p := ⟨g1, o1 + 4, none⟩) (by have := HP1.out; show g1 < _; omega)).trans ((HB2.out.cell (p := ⟨g1, o1 + 4, none⟩) (by have := HP1.out; show g1 < _; omega)).trans HY0.out)
         have q1 := (hb3.cell (p := ⟨g1, o1 + 4 + 1, none⟩) (by have := HP1.out; show g1 < _; omega)).trans ((HB2.out.cell (p := ⟨g1, o1 + 4 + 1, none⟩) (by have := HP1.out; show g1 < _; omega)).trans HY1.out)
         have q2 := (hb3.cell (p := ⟨g1, o1 + 4 + 2, none⟩) (by have := HP1.out; show g1 < _; omega)).trans ((HB2.out.cell (p := ⟨g1, o1 + 4 + 2, none⟩) (by have := HP1.out; show g1 < _; omega)).trans HY2.out)
         have q3 := (hb3.cell (p := ⟨g1, o1 + 4 + 3, none⟩) (by have := HP1.out; show g1 < _; omega)).trans ((HB2.out.cell (p := ⟨g1, o1 + 4 + 3, none⟩) (by have := HP1.out; show g1 < _; omega)).trans HY3.out)
         have hy3 := (HY.out.below HB2.out).imp (P' := fun b => P b ∧ b < w.heap.size) (fun _ h => h) fun b h hlt => hb3.block b (by have := h.2; omega)
         have hbw3 := HBL.out.trans ((HB2.out.mono HBL.out.size).trans (hb3.mono (by omega)))
         have hs3 := hb3.size
         have BOX3 := Lib.hid hbox3
         have RES3 := Lib.hid hres3
         have e1 : (l ++ [X]).length = l.length + 1 := by simp
         rw [e1] at hown
         clear e1
         have OWN3 := Lib.hid hown
         have YY3 := Lib.hid hy3
         have BW3 := Lib.hid hbw3
         clear hbox3 hres3 hown hy3 hbw3 hb3)
      | (with_reducible show wpList _ _ _ (⟨none, .store _ (.tmp 1) _, _, _, _, _⟩ :: _) _ _
         refine wpList_store_row rfl 28 (.tmp 1) (.tmp 30) rfl w.heap.size #[.int .i64 Y.k, .int .i64 Y.n, .string Y.s, .slice c2 Y.args.length d2] rfl rfl _ _ BOX3.out size_term rfl (one4 _ _ _ _ _ _) ?_))
    have hz := setRow_heap w3 w.heap.size _ (#[.int .i64 Y.k, .int .i64 Y.n, .string Y.s, .slice c2 Y.args.length d2] : Array Value) _ _ BOX3.out
    have hoth : ∀ b, b ≠ w.heap.size → (w3.setRow w.heap.size (#[.int .i64 Y.k, .int .i64 Y.n, .string Y.s, .slice c2 Y.args.length d2] : Array Value)).heap[b]? = w3.heap[b]? := fun b hb => setRow_other _ _ _ _ hb
    have hbw := below_setRow BW3.out (Nat.le_refl _) (#[.int .i64 Y.k, .int .i64 Y.n, .string Y.s, .slice c2 Y.args.length d2] : Array Value)
    have hszr : (w3.setRow w.heap.size (#[.int .i64 Y.k, .int .i64 Y.n, .string Y.s, .slice c2 Y.args.length d2] : Array Value)).heap.size = w3.heap.size := by simp
    simp only [Act.put]
    go_roundw
    case rel => exact ⟨l ++ [X], Y, c2, d2, HNX.out, hz, (hoth _ (by omega)).trans RES3.out, YY3.out.imp (fun _ h => h) (fun b h _ => hoth b (by have := h.2; omega)), OWN3.out.high (by omega) (fun b h _ => hoth b (by omega)), hbw, by omega⟩
    case measure => have := HLL.out; simp [lenOf]; omega
end Go.Proofs.YtkhchmgdaolojaaDoor.Tms
