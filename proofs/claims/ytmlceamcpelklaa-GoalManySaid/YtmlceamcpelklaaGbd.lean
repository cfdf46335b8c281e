
/-
  goal.comp and goal.body, walked over the program.
-/
import Derived.Test.YtmlceamcpelklaaKnw
import Derived.Test.YtmlceamcpelklaaGow
import Derived.Test.YtmlceamcpelklaaPrm
import Derived.Test.YtmlceamcpelklaaAl3
namespace Go.Proofs.Ytmlceamcpelklaa.Tms
open Go Go.RowKit Go.Proofs.Ytmlceamcpelklaa.Reg
set_option linter.unusedVariables false

theorem goal_comp (s : ByteArray) (a : Option Addr) (n cap : Nat) (w : World) : Calls Try.prog 105 #[.string s, .slice a n cap] w fun e w' => e = .returned (compV s a n cap) ∧ Below w.heap.size w w' := by
  go_enter Try.func105, Try.ntmps105
  go_wp2
  exact bodyPost_ret (v := compV s a n cap) (by simp [results, Try.results105, go_sem]) rfl ⟨rfl, (Below.refl _ _).alloc (Nat.le_refl _) _⟩

def zeroTm : Tm := .mk 0 0 ⟨#[]⟩ []
def lftT (t : Tm) : Tm := t.args.getD 0 t
def rgtT (t : Tm) : Tm := t.args.getD 1 t
def isPair (t : Tm) : Bool := kindT t == 2 || kindT t == 3 || kindT t == 4
/-- a term as a clause's body, and whether it is one -/
def bodyN : Nat → Tm → Tm × Bool
  | 0, t => (t, true)
  | n + 1, t => if t.k = 1 then (compT (⟨#[99, 97, 108, 108]⟩ : ByteArray) [t], true) else if isPair t = true then
      (if (bodyN n (lftT t)).2 = false then (zeroTm, false) else if (bodyN n (rgtT t)).2 = false then (zeroTm, false) else (compT t.s [(bodyN n (lftT t)).1, (bodyN n (rgtT t)).1], true))
    else (t, t.k != 2)
def bodyT (t : Tm) : Tm × Bool := bodyN t.size t
theorem kindOf_two {s : ByteArray} {n : Int} (h : kindOf s n = 2 ∨ kindOf s n = 3 ∨ kindOf s n = 4) : n = 2 := by
  unfold kindOf at h
  cases hf : kindsL.find? fun x => s.toList == x.1.toList && n == x.2.1 with
  | none => rw [hf] at h; simp at h
  | some x =>
    have hm := List.mem_of_find?_eq_some hf
    have hx := List.find?_some hf
    rw [hf] at h
    simp only [Bool.and_eq_true, beq_iff_eq] at hx h
    rw [hx.2]
    simp only [kindsL, List.mem_cons, List.not_mem_nil, or_false] at hm
    rcases hm with rfl | rfl | rfl | rfl | rfl | rfl | rfl | rfl | rfl | rfl | rfl <;> simp_all
theorem pair_args {t : Tm} (h : isPair t = true) : t.k = 4 ∧ t.args = [lftT t, rgtT t] := by
  have h' : kindT t = 2 ∨ kindT t = 3 ∨ kindT t = 4 := by simpa [isPair, or_assoc] using h
  unfold kindT at h'
  by_cases k3 : t.k = 3
  · rw [if_pos k3] at h'
    have := kindOf_two h'
    omega
  rw [if_neg k3] at h'
  by_cases k4 : t.k = 4
  · rw [if_pos k4] at h'
    by_cases hz : t.args.length = 0
    · rw [if_pos hz] at h'; omega
    · rw [if_neg hz] at h'
      have := kindOf_two h'
      by_cases hc : (t.s.toList == [99, 97, 108, 108]) = true
      · rw [if_pos hc] at this; omega
      · rw [if_neg hc] at this
        have hl : t.args.length = 2 := by omega
        refine ⟨k4, ?_⟩
        unfold lftT rgtT
        match t.args, hl with
        | [x, y], _ => rfl
  · rw [if_neg k4] at h'; omega
theorem pair_size {t : Tm} (h : isPair t = true) : (lftT t).size + (rgtT t).size + 1 = t.size := by
  have := (pair_args h).2
  obtain ⟨k, n, s, a⟩ := t
  simp only [Tm.args] at this
  simp only [Tm.size]
  generalize lftT (.mk k n s a) = x at *
  generalize rgtT (.mk k n s a) = y at *
  subst this
  simp [sizeL]
theorem bodyN_eq : ∀ (n m : Nat) (t : Tm), t.size ≤ n → t.size ≤ m → bodyN n t = bodyN m t
  | 0, _, t, h, _ => by have := size_pos t; omega
  | _ + 1, 0, t, _, h => by have := size_pos t; omega
  | n + 1, m + 1, t, hn, hm => by
    unfold bodyN
    by_cases k1 : t.k = 1
    · rw [if_pos k1, if_pos k1]
    · rw [if_neg k1, if_neg k1]
      by_cases hp : isPair t = true
      · have hs := pair_size hp
        rw [if_pos hp, if_pos hp, bodyN_eq n m (lftT t) (by omega) (by omega), bodyN_eq n m (rgtT t) (by omega) (by omega)]
      · rw [if_neg hp, if_neg hp]
theorem bodyT_eq (t : Tm) : bodyT t = if t.k = 1 then (compT (⟨#[99, 97, 108, 108]⟩ : ByteArray) [t], true) else if isPair t = true then
      (if (bodyT (lftT t)).2 = false then (zeroTm, false) else if (bodyT (rgtT t)).2 = false then (zeroTm, false) else (compT t.s [(bodyT (lftT t)).1, (bodyT (rgtT t)).1], true))
    else (t, t.k != 2) := by
  have h1 : bodyT t = bodyN (t.size + 1) t := bodyN_eq _ _ _ (Nat.le_refl _) (by omega)
  rw [h1]
  rw [show bodyN (t.size + 1) t = _ from by unfold bodyN; rfl]
  by_cases hp : isPair t = true
  · have hs := pair_size hp
    have e1 : bodyT (lftT t) = bodyN t.size (lftT t) := bodyN_eq _ _ _ (Nat.le_refl _) (by omega)
    have e2 : bodyT (rgtT t) = bodyN t.size (rgtT t) := bodyN_eq _ _ _ (Nat.le_refl _) (by omega)
    rw [e1, e2]
  · rw [if_neg hp, if_neg hp]

/-- the topmost Args of what the call made may be written -/
def TopP (B : Nat) (a : Option Addr) (r : Tm) (w' : World) : Prop := r.args ≠ [] → ∃ g, a = some ⟨g, 0, none⟩ ∧ B ≤ g ∧ PlainG w' g
def BodyPost (P : Nat → Prop) (r : Tm × Bool) (w : World) (e : Ending) (w' : World) : Prop :=
  ∃ a c, e = .returned (.tuple #[.agg #[.int .i64 r.1.k, .int .i64 r.1.n, .string r.1.s, .slice a r.1.args.length c], .bool r.2]) ∧
    IsTm w' (fun b => P b ∨ w.heap.size ≤ b) (.agg #[.int .i64 r.1.k, .int .i64 r.1.n, .string r.1.s, .slice a r.1.args.length c]) r.1 ∧ TopP w.heap.size a r.1 w' ∧ Below w.heap.size w w'
/-- the result variable has been written -/
theorem body_fin {P Q : Nat → Prop} {w wr : World} {r : Tm} {a : Option Addr} {c : Nat} {cs : Array Value} (hi : IsTm wr Q (.agg #[.int .i64 r.k, .int .i64 r.n, .string r.s, .slice a r.args.length c]) r)
    (hQ : ∀ b, Q b → (P b ∧ b < w.heap.size) ∨ w.heap.size + 1 < b) (ht : TopP (w.heap.size + 2) a r wr) (hb : Below w.heap.size w wr) :
    IsTm (wr.setRow (w.heap.size + 1) cs) (fun b => P b ∨ w.heap.size ≤ b) (.agg #[.int .i64 r.k, .int .i64 r.n, .string r.s, .slice a r.args.length c]) r ∧ TopP w.heap.size a r (wr.setRow (w.heap.size + 1) cs) ∧ Below w.heap.size w (wr.setRow (w.heap.size + 1) cs) := by
  refine ⟨hi.imp (fun b h => (hQ b h).elim (fun h => .inl h.1) fun h => .inr (by omega)) fun b h _ => setRow_other _ _ _ _ (by rcases hQ b h with h | h <;> omega), fun h => ?_, below_setRow hb (by omega) _⟩
  obtain ⟨g, e, hg, cur, hc⟩ := ht h
  exact ⟨g, e, by omega, cur, (setRow_other _ _ _ _ (by omega)).trans hc⟩
theorem one_sl {w : World} {P : Nat → Prop} {x : Tm} {a : Option Addr} {c : Nat} (hx : IsTm w P (.agg #[.int .i64 x.k, .int .i64 x.n, .string x.s, .slice a x.args.length c]) x) :
    IsSl (w.alloc (.cells #[.int .i64 x.k, .int .i64 x.n, .string x.s, .slice a x.args.length c] 27 (0, 0))) (fun b => P b ∨ w.heap.size ≤ b) (.slice (some ⟨w.heap.size, 0, none⟩) 1 1) [x] := by
  have hb : Below w.heap.size w (w.alloc (.cells #[.int .i64 x.k, .int .i64 x.n, .string x.s, .slice a x.args.length c] 27 (0, 0))) := (Below.refl _ _).alloc (Nat.le_refl _) _
  have h := heap_alloc_new w (.cells #[.int .i64 x.k, .int .i64 x.n, .string x.s, .slice a x.args.length c] 27 (0, 0))
  exact sl_of_cells (cs := [.int .i64 x.k, .int .i64 x.n, .string x.s, .slice a x.args.length c]) h (CellsOf.cons ((hx.below hb).imp (fun _ h => .inl h) fun _ _ _ => rfl) trivial) rfl (.inr (Nat.le_refl _))
theorem two_sl {w : World} {P : Nat → Prop} {x y : Tm} {a a' : Option Addr} {c c' : Nat} (hx : IsTm w P (.agg #[.int .i64 x.k, .int .i64 x.n, .string x.s, .slice a x.args.length c]) x) (hy : IsTm w P (.agg #[.int .i64 y.k, .int .i64 y.n, .string y.s, .slice a' y.args.length c']) y) :
    IsSl (w.alloc (.cells #[.int .i64 x.k, .int .i64 x.n, .string x.s, .slice a x.args.length c, .int .i64 y.k, .int .i64 y.n, .string y.s, .slice a' y.args.length c'] 27 (0, 0))) (fun b => P b ∨ w.heap.size ≤ b) (.slice (some ⟨w.heap.size, 0, none⟩) 2 2) [x, y] := by
  have hb : Below w.heap.size w (w.alloc (.cells #[.int .i64 x.k, .int .i64 x.n, .string x.s, .slice a x.args.length c, .int .i64 y.k, .int .i64 y.n, .string y.s, .slice a' y.args.length c'] 27 (0, 0))) := (Below.refl _ _).alloc (Nat.le_refl _) _
  have h := heap_alloc_new w (.cells #[.int .i64 x.k, .int .i64 x.n, .string x.s, .slice a x.args.length c, .int .i64 y.k, .int .i64 y.n, .string y.s, .slice a' y.args.length c'] 27 (0, 0))
  exact sl_of_cells (cs := [.int .i64 x.k, .int .i64 x.n, .string x.s, .slice a x.args.length c, .int .i64 y.k, .int .i64 y.n, .string y.s, .slice a' y.args.length c']) h (CellsOf.cons ((hx.below hb).imp (fun _ h => .inl h) fun _ _ _ => rfl) (CellsOf.cons ((hy.below hb).imp (fun _ h => .inl h) fun _ _ _ => rfl) trivial)) rfl (.inr (Nat.le_refl _))

/-- a value that goal.own made, from block B on -/
def GowV (P : Nat → Prop) (B : Nat) (t : Tm) (v : Value) (u : World) : Prop := ∃ a c, v = .agg #[.int .i64 t.k, .int .i64 t.n, .string t.s, .slice a t.args.length c] ∧ IsTm u (fun b => P b ∨ B ≤ b) (.agg #[.int .i64 t.k, .int .i64 t.n, .string t.s, .slice a t.args.length c]) t ∧
  (t.args ≠ [] → ∃ g, a = some ⟨g, 0, none⟩ ∧ B ≤ g ∧ PlainG u g)
theorem GowV.keep {P : Nat → Prop} {B : Nat} {t : Tm} {v : Value} {u u' : World} {M : Nat → Prop} (h : GowV P B t v u) (hb : Keeps u u' M) (hM : ∀ b, M b → P b ∨ B ≤ b → False) : GowV P B t v u' := by
  obtain ⟨a, c, e, h1, h2⟩ := h
  refine ⟨a, c, e, h1.imp (fun _ h => h) fun b hp hlt => hb.block b hlt fun hm => hM b hm hp, fun h => ?_⟩
  obtain ⟨g, e1, hg, cur, hc⟩ := h2 h
  exact ⟨g, e1, hg, cur, (hb.block g (Array.getElem?_eq_some_iff.1 hc).1 fun hm => hM g hm (.inr hg)).trans hc⟩
theorem gow_stored {P : Nat → Prop} {w W0 u : World} {t : Tm} {a : Option Addr} {c : Nat} {old : Array Value} (hr : u.heap[w.heap.size + 1]? = some (.cells old 27 (0, 0)))
    (hi : IsTm u (fun b => (P b ∧ b < w.heap.size) ∨ W0.heap.size ≤ b) (.agg #[.int .i64 t.k, .int .i64 t.n, .string t.s, .slice a t.args.length c]) t) (ht : t.args ≠ [] → ∃ g, a = some ⟨g, 0, none⟩ ∧ W0.heap.size ≤ g ∧ PlainG u g) (hz : W0.heap.size ≤ u.heap.size) (hw : w.heap.size + 2 ≤ W0.heap.size) :
    Keeps u (u.setRow (w.heap.size + 1) #[.int .i64 t.k, .int .i64 t.n, .string t.s, .slice a t.args.length c]) (fun b => b = w.heap.size + 1) ∧
      (∃ a' c', (u.setRow (w.heap.size + 1) #[.int .i64 t.k, .int .i64 t.n, .string t.s, .slice a t.args.length c]).heap[w.heap.size + 1]? = some (.cells #[.int .i64 t.k, .int .i64 t.n, .string t.s, .slice a' t.args.length c'] 27 (0, 0)) ∧
        GowV (fun b => P b ∧ b < w.heap.size) W0.heap.size t (.agg #[.int .i64 t.k, .int .i64 t.n, .string t.s, .slice a' t.args.length c']) (u.setRow (w.heap.size + 1) #[.int .i64 t.k, .int .i64 t.n, .string t.s, .slice a t.args.length c]) ∧
        w.heap.size + 1 < (u.setRow (w.heap.size + 1) #[.int .i64 t.k, .int .i64 t.n, .string t.s, .slice a t.args.length c]).heap.size) := by
  have hk : Keeps u (u.setRow (w.heap.size + 1) #[.int .i64 t.k, .int .i64 t.n, .string t.s, .slice a t.args.length c]) (fun b => b = w.heap.size + 1) := ⟨rfl, rfl, rfl, by simp, fun b _ hn => setRow_other _ _ _ _ hn⟩
  exact ⟨hk, a, c, setRow_heap _ _ _ _ _ _ hr, GowV.keep ⟨a, c, rfl, hi, ht⟩ hk fun b e hp => by rcases hp with hp | hp <;> omega, by simp; omega⟩
set_option maxRecDepth 100000 in
set_option maxHeartbeats 16000000 in
theorem goal_body (N : Nat) : ∀ (t : Tm) (v : Value) (P : Nat → Prop) (w : World), t.size ≤ N → t.size ≤ 1000000000 → IsTm w P v t → Calls Try.prog 63 #[v] w (BodyPost P (bodyT t) w) := by
  induction N with
  | zero => intro t v P w hN hM; obtain ⟨k, n, s, a⟩ := t; simp [Tm.size] at hN
  | succ N ih =>
    intro t v P w hN hM h1
    have IH := Lib.hid ih
    clear ih
    have hl := h1.lt
    obtain ⟨a, cap, rfl⟩ := h1.form
    obtain ⟨t0, t1, tsz, tbl⟩ := two w (.cells #[.int .i64 t.k, .int .i64 t.n, .string t.s, .slice a t.args.length cap] 27 (0, 0)) (.cells #[.int .i64 0, .int .i64 0, .string ⟨#[]⟩, .slice none 0 0] 27 (0, 0))
    have T0 := Lib.hid t0
    have T1 := Lib.hid t1
    have TS := Lib.hid tsz
    have TB := Lib.hid tbl
    have HL := Lib.hid hl
    have HE := Lib.hid (bodyT_eq t)
    clear h1 hl t0 t1 tsz tbl
    by_cases k1 : t.k = 1
    · have b1 : (t.k == 1) = true := by simpa using k1
      have hr : bodyT t = (compT (⟨#[99, 97, 108, 108]⟩ : ByteArray) [t], true) := by rw [HE.out, if_pos k1]
      have HR := Lib.hid hr
      clear hr k1
      go_enter Try.func63, Try.ntmps63
      go_wp2_with (first
        | (go_at_call 61
           refine (goal_own t _ _ _ hM (HL.out.below TB.out)).mono ?_
           rintro e2 w2 ⟨a2, c2, rfl, hi2, -, hb2⟩
           have HI2 := Lib.hid hi2
           have HB2 := Lib.hid hb2
           clear hi2 hb2)
        | (go_at_call 105
           refine (goal_comp _ _ _ _ _).mono ?_
           rintro e3 w3 ⟨rfl, hb3⟩
           have hal : Below w2.heap.size w2 (w2.alloc (.cells #[.int .i64 t.k, .int .i64 t.n, .string t.s, .slice a2 t.args.length c2] 27 (0, 0))) := (Below.refl _ _).alloc (Nat.le_refl _) _
           have hd : Below w2.heap.size w2 w3 := hal.trans (hb3.mono (by simp))
           have hsl := (one_sl HI2.out).imp (fun _ h => h) (fun b _ hlt => hb3.block b hlt)
           have hrow := (hb3.block w2.heap.size (by simp)).trans (heap_alloc_new w2 (.cells #[.int .i64 t.k, .int .i64 t.n, .string t.s, .slice a2 t.args.length c2] 27 (0, 0)))
           have hr3 := (hd.block (w.heap.size + 1) (by have := HB2.out.size; have := TS.out; omega)).trans ((HB2.out.block (w.heap.size + 1) (by have := TS.out; omega)).trans T1.out)
           have HSL := Lib.hid hsl
           have HROW := Lib.hid hrow
           have HR3 := Lib.hid hr3
           have HBF := Lib.hid (TB.out.trans ((HB2.out.trans (hd.mono HB2.out.size)).mono (by have := TS.out; omega)))
           clear hb3 hal hd hsl hrow hr3)
        | (with_reducible show wpList _ _ _ (⟨none, .store _ (.tmp 2) _, _, _, _, _⟩ :: _) _ _
           refine wpList_store_row rfl 27 (.tmp 2) (.tmp 13) rfl (w.heap.size + 1) #[.int .i64 4, .int .i64 0, .string (⟨#[99, 97, 108, 108]⟩ : ByteArray), .slice (some ⟨w2.heap.size, 0, none⟩) 1 1] rfl rfl _ _ HR3.out size_term rfl (one4 _ _ _ _ _ _) ?_))
      have hz := setRow_heap w3 (w.heap.size + 1) _ (#[.int .i64 4, .int .i64 0, .string (⟨#[99, 97, 108, 108]⟩ : ByteArray), .slice (some ⟨w2.heap.size, 0, none⟩) 1 1] : Array Value) _ _ HR3.out
      have hw2 : w.heap.size + 2 ≤ w2.heap.size := by have := HB2.out.size; have := TS.out; omega
      obtain ⟨f1, f2, f3⟩ := body_fin (P := P) (r := compT (⟨#[99, 97, 108, 108]⟩ : ByteArray) [t]) (c := 1) (cs := #[.int .i64 4, .int .i64 0, .string (⟨#[99, 97, 108, 108]⟩ : ByteArray), .slice (some ⟨w2.heap.size, 0, none⟩) 1 1]) (comp_is HSL.out) (fun b h => by
        rcases h with (h | h) | h
        · exact .inl h
        · right; have := TS.out; omega
        · right; omega) (fun _ => ⟨_, rfl, hw2, _, HROW.out⟩) HBF.out
      rw [HR.out]
      exact bodyPost_ret (v := .tuple #[.agg #[.int .i64 4, .int .i64 0, .string (⟨#[99, 97, 108, 108]⟩ : ByteArray), .slice (some ⟨w2.heap.size, 0, none⟩) 1 1], .bool true]) (Push.results_cell_tmp Try.results63 _ _ (w.heap.size + 1) _ _ _ _ _ rfl (by simp) hz Try.underlying27 rfl (by kernel_rfl)) rfl ⟨_, _, rfl, f1, f2, f3⟩
    have b1 : (t.k == 1) = false := by simpa using k1
    cases hp : isPair t
    case true =>
      obtain ⟨-, hag⟩ := pair_args hp
      have hps := pair_size hp
      have hk3 : kindT t = 2 ∨ kindT t = 3 ∨ kindT t = 4 := by simpa [isPair, or_assoc] using hp
      have hcx : ∀ (v : Value) (P : Nat → Prop) (w : World), IsTm w P v (lftT t) → Calls Try.prog 63 #[v] w (BodyPost P (bodyT (lftT t)) w) := fun v P w h => IH.out (lftT t) v P w (by omega) (by omega) h
      have hcy : ∀ (v : Value) (P : Nat → Prop) (w : World), IsTm w P v (rgtT t) → Calls Try.prog 63 #[v] w (BodyPost P (bodyT (rgtT t)) w) := fun v P w h => IH.out (rgtT t) v P w (by omega) (by omega) h
      have hr : bodyT t = (if (bodyT (lftT t)).2 = false then (zeroTm, false) else if (bodyT (rgtT t)).2 = false then (zeroTm, false) else (compT t.s [(bodyT (lftT t)).1, (bodyT (rgtT t)).1], true)) := by rw [HE.out, if_neg k1, if_pos hp]
      clear hps hp HE k1
      generalize bodyT (lftT t) = RX at *
      generalize bodyT (rgtT t) = RY at *
      generalize lftT t = X at *
      generalize rgtT t = Y at *
      obtain ⟨BX, ox⟩ := RX
      obtain ⟨BY, oy⟩ := RY
      simp only at hr
      have HCX := Lib.hid hcx
      have HCY := Lib.hid hcy
      have HAG := Lib.hid hag
      have HR := Lib.hid hr
      clear hcx hcy hag hr IH
      generalize hkt : kindT t = K at *
      have HKT := Lib.hid hkt
      clear hkt
      cases ox
      · have hr2 : bodyT t = (zeroTm, false) := by rw [HR.out, if_pos rfl]
        have HR2 := Lib.hid hr2
        clear hr2
        rcases hk3 with rfl | rfl | rfl
        all_goals
          go_enter Try.func63, Try.ntmps63
          go_wp2_with fail
          refine (goal_Kind t _ _ _ hM (HL.out.below TB.out)).mono ?_
          rintro e2 w2 ⟨rfl, hb2⟩
          rw [HKT.out]
          have hz2 : w.heap.size + 2 ≤ w2.heap.size := by have := hb2.size; have := TS.out; omega
          obtain ⟨x0, x1, x2, x3⟩ := row4 ((hb2.block w.heap.size (by have := TS.out; omega)).trans T0.out)
          have R1 := Lib.hid ((hb2.block (w.heap.size + 1) (by have := TS.out; omega)).trans T1.out)
          have B2 := Lib.hid (TB.out.trans (hb2.mono TB.out.size))
          have hz0 : w.heap.size < w2.heap.size := by omega
          obtain ⟨g1, o1, ea, ⟨p1, l1⟩, m1⟩ := (HL.out.below B2.out).args.at 0 (by rw [HAG.out]; simp)
          obtain ⟨g2, o2, eb, -, m2⟩ := (HL.out.below B2.out).args.at 1 (by rw [HAG.out]; simp)
          rw [ea] at eb
          simp only [Option.some.injEq, Addr.mk.injEq, and_true] at eb
          obtain ⟨rfl, rfl⟩ := eb
          have hx0 : t.args[0]'(by rw [HAG.out]; simp) = X := by simp [HAG.out]
          have hy0 : t.args[1]'(by rw [HAG.out]; simp) = Y := by simp [HAG.out]
          rw [hx0] at m1
          rw [hy0] at m2
          obtain ⟨cx, dx, y0, y1, y2, y3, iX, -⟩ := m1.read
          obtain ⟨cy, dy, z0, z1, z2, z3, iY, -⟩ := m2.read
          subst ea
          simp only [Nat.zero_mul, Nat.add_zero, Nat.one_mul] at y0 y1 y2 y3 z0 z1 z2 z3
          have hin0 : (0 : Int) < (t.args.length : Int) := by rw [HAG.out]; simp
          have hin1 : (1 : Int) < (t.args.length : Int) := by rw [HAG.out]; simp
          have IX := Lib.hid iX
          have IY := Lib.hid iY
          have hg2 : g1 < w2.heap.size := by omega
          clear hb2 m1 m2 hx0 hy0 iX iY x0 x1 x2
          go_wp2_with fail
          refine (HCX.out _ _ _ IX.out).mono ?_
          rintro e3 w3 ⟨a3, c3, rfl, hi3, -, hb3⟩
          have hg3 : g1 < w3.heap.size := by have := hb3.size; omega
          have hz3 : w.heap.size < w3.heap.size := by have := hb3.size; omega
          have X3 := Lib.hid x3
          have Z0 := Lib.hid z0
          have Z1 := Lib.hid z1
          have Z2 := Lib.hid z2
          have Z3 := Lib.hid z3
          clear x3 y0 y1 y2 y3 z0 z1 z2 z3
          have x3 := (hb3.cell (p := ⟨w.heap.size, 3, none⟩) hz0).trans X3.out
          have z0 := (hb3.cell (p := ⟨g1, o1 + 4, none⟩) hg2).trans Z0.out
          have z1 := (hb3.cell (p := ⟨g1, o1 + 4 + 1, none⟩) hg2).trans Z1.out
          have z2 := (hb3.cell (p := ⟨g1, o1 + 4 + 2, none⟩) hg2).trans Z2.out
          have z3 := (hb3.cell (p := ⟨g1, o1 + 4 + 3, none⟩) hg2).trans Z3.out
          have HI3 := Lib.hid hi3
          have IY3 := Lib.hid (IY.out.below hb3)
          have B3 := Lib.hid (B2.out.trans (hb3.mono B2.out.size))
          have R3 := Lib.hid ((hb3.block (w.heap.size + 1) (by omega)).trans R1.out)
          have HZ3 := Lib.hid (show w.heap.size + 2 ≤ w2.heap.size ∧ w2.heap.size ≤ w3.heap.size from ⟨hz2, hb3.size⟩)
          clear hi3 hb3 Z0 Z1 Z2 Z3
          go_wp2_with (first
            | (with_reducible show wpList _ _ _ (⟨none, .store _ (.tmp 2) _, _, _, _, _⟩ :: _) _ _
               refine wpList_store_row rfl 27 (.tmp 2) (.tmp 30) rfl (w.heap.size + 1) #[.int .i64 0, .int .i64 0, .string ⟨#[]⟩, .slice none 0 0] rfl rfl _ _ ((heap_alloc_old _ _ (by have := HZ3.out; omega)).trans R3.out) size_term rfl (one4 _ _ _ _ _ _) ?_))
          have hz := setRow_heap (w3.alloc (.cells #[.int .i64 BX.k, .int .i64 BX.n, .string BX.s, .slice a3 BX.args.length c3] 27 (0, 0))) (w.heap.size + 1) _ (#[.int .i64 0, .int .i64 0, .string ⟨#[]⟩, .slice none 0 0] : Array Value) _ _ ((heap_alloc_old _ _ (by have := HZ3.out; omega)).trans R3.out)
          obtain ⟨f1, f2, f3⟩ := body_fin (P := P) (Q := fun _ => False) (r := zeroTm) (a := none) (c := 0) (cs := #[.int .i64 0, .int .i64 0, .string ⟨#[]⟩, .slice none 0 0]) (IsTm.mk' (t := zeroTm) (IsSl.nil (w3.alloc (.cells #[.int .i64 BX.k, .int .i64 BX.n, .string BX.s, .slice a3 BX.args.length c3] 27 (0, 0))) _ none 0)) (fun _ h => h.elim) (fun h => absurd rfl h) (B3.out.alloc B3.out.size _)
          rw [HR2.out]
          exact bodyPost_ret (v := .tuple #[.agg #[.int .i64 0, .int .i64 0, .string ⟨#[]⟩, .slice none 0 0], .bool false]) (Push.results_cell_tmp Try.results63 _ _ (w.heap.size + 1) _ _ _ _ _ rfl (by simp) hz Try.underlying27 rfl (by kernel_rfl)) rfl ⟨_, _, rfl, f1, f2, f3⟩
      cases oy
      · have hr2 : bodyT t = (zeroTm, false) := by rw [HR.out, if_neg (by decide), if_pos rfl]
        have HR2 := Lib.hid hr2
        clear hr2
        rcases hk3 with rfl | rfl | rfl
        all_goals
          go_enter Try.func63, Try.ntmps63
          go_wp2_with fail
          refine (goal_Kind t _ _ _ hM (HL.out.below TB.out)).mono ?_
          rintro e2 w2 ⟨rfl, hb2⟩
          rw [HKT.out]
          have hz2 : w.heap.size + 2 ≤ w2.heap.size := by have := hb2.size; have := TS.out; omega
          obtain ⟨x0, x1, x2, x3⟩ := row4 ((hb2.block w.heap.size (by have := TS.out; omega)).trans T0.out)
          have S2 := Lib.hid ((hb2.block w.heap.size (by have := TS.out; omega)).trans T0.out)
          have R1 := Lib.hid ((hb2.block (w.heap.size + 1) (by have := TS.out; omega)).trans T1.out)
          have B2 := Lib.hid (TB.out.trans (hb2.mono TB.out.size))
          have hz0 : w.heap.size < w2.heap.size := by omega
          obtain ⟨g1, o1, ea, ⟨p1, l1⟩, m1⟩ := (HL.out.below B2.out).args.at 0 (by rw [HAG.out]; simp)
          obtain ⟨g2, o2, eb, -, m2⟩ := (HL.out.below B2.out).args.at 1 (by rw [HAG.out]; simp)
          rw [ea] at eb
          simp only [Option.some.injEq, Addr.mk.injEq, and_true] at eb
          obtain ⟨rfl, rfl⟩ := eb
          have hx0 : t.args[0]'(by rw [HAG.out]; simp) = X := by simp [HAG.out]
          have hy0 : t.args[1]'(by rw [HAG.out]; simp) = Y := by simp [HAG.out]
          rw [hx0] at m1
          rw [hy0] at m2
          obtain ⟨cx, dx, y0, y1, y2, y3, iX, -⟩ := m1.read
          obtain ⟨cy, dy, z0, z1, z2, z3, iY, -⟩ := m2.read
          subst ea
          simp only [Nat.zero_mul, Nat.add_zero, Nat.one_mul] at y0 y1 y2 y3 z0 z1 z2 z3
          have hin0 : (0 : Int) < (t.args.length : Int) := by rw [HAG.out]; simp
          have hin1 : (1 : Int) < (t.args.length : Int) := by rw [HAG.out]; simp
          have IX := Lib.hid iX
          have IY := Lib.hid iY
          have hg2 : g1 < w2.heap.size := by omega
          clear hb2 m1 m2 hx0 hy0 iX iY x0 x1 x2
          go_wp2_with fail
          refine (HCX.out _ _ _ IX.out).mono ?_
          rintro e3 w3 ⟨a3, c3, rfl, hi3, -, hb3⟩
          have hg3 : g1 < w3.heap.size := by have := hb3.size; omega
          have hz3 : w.heap.size < w3.heap.size := by have := hb3.size; omega
          have X3 := Lib.hid x3
          have Z0 := Lib.hid z0
          have Z1 := Lib.hid z1
          have Z2 := Lib.hid z2
          have Z3 := Lib.hid z3
          clear x3 y0 y1 y2 y3 z0 z1 z2 z3
          have x3 := (hb3.cell (p := ⟨w.heap.size, 3, none⟩) hz0).trans X3.out
          have z0 := (hb3.cell (p := ⟨g1, o1 + 4, none⟩) hg2).trans Z0.out
          have z1 := (hb3.cell (p := ⟨g1, o1 + 4 + 1, none⟩) hg2).trans Z1.out
          have z2 := (hb3.cell (p := ⟨g1, o1 + 4 + 2, none⟩) hg2).trans Z2.out
          have z3 := (hb3.cell (p := ⟨g1, o1 + 4 + 3, none⟩) hg2).trans Z3.out
          have HI3 := Lib.hid hi3
          have IY3 := Lib.hid (IY.out.below hb3)
          have B3 := Lib.hid (B2.out.trans (hb3.mono B2.out.size))
          have R3 := Lib.hid ((hb3.block (w.heap.size + 1) (by omega)).trans R1.out)
          have HZ3 := Lib.hid (show w.heap.size + 2 ≤ w2.heap.size ∧ w2.heap.size ≤ w3.heap.size from ⟨hz2, hb3.size⟩)
          have S3 := Lib.hid ((hb3.block w.heap.size (by omega)).trans S2.out)
          clear hi3 hb3 Z0 Z1 Z2 Z3
          go_wp2_with fail
          have hal : Below w3.heap.size w3 (w3.alloc (.cells #[.int .i64 BX.k, .int .i64 BX.n, .string BX.s, .slice a3 BX.args.length c3] 27 (0, 0))) := (Below.refl _ _).alloc (Nat.le_refl _) _
          refine (HCY.out _ _ _ (IY3.out.below hal)).mono ?_
          rintro e5 w5 ⟨a5, c5, rfl, hi5, -, hb5⟩
          have hd := hal.trans (hb5.mono (by simp))
          have hnx := (hb5.block w3.heap.size (by simp)).trans (heap_alloc_new w3 (.cells #[.int .i64 BX.k, .int .i64 BX.n, .string BX.s, .slice a3 BX.args.length c3] 27 (0, 0)))
          have hz5 : w.heap.size + 1 < w5.heap.size := by have := hd.size; have := HZ3.out; omega
          have hz5' : w.heap.size < w5.heap.size := by omega
          have hx5 : w3.heap.size < w5.heap.size := by have := hb5.size; simp at this; omega
          have SS := Lib.hid ((hd.block w.heap.size (by omega)).trans S3.out)
          clear x3 z0 z1 z2 z3
          obtain ⟨-, -, x2, -⟩ := row4 SS.out
          obtain ⟨u0, u1, u2, u3⟩ := row4 hnx
          have HI5 := Lib.hid hi5
          have HX5 := Lib.hid (HI3.out.below hd)
          have B5 := Lib.hid (B3.out.trans (hd.mono B3.out.size))
          have R5 := Lib.hid ((hd.block (w.heap.size + 1) (by have := HZ3.out; omega)).trans R3.out)
          have HZ5 := Lib.hid (show w.heap.size + 2 ≤ w2.heap.size ∧ w2.heap.size ≤ w3.heap.size ∧ w3.heap.size < w5.heap.size from ⟨HZ3.out.1, HZ3.out.2, hx5⟩)
          have HU5 := Lib.hid (show ((w3.alloc (.cells #[.int .i64 BX.k, .int .i64 BX.n, .string BX.s, .slice a3 BX.args.length c3] 27 (0, 0)))).heap.size ≤ w5.heap.size from hb5.size)
          clear hi5 hb5 hal hd hnx
          go_wp2_with (first
            | (with_reducible show wpList _ _ _ (⟨none, .store _ (.tmp 2) _, _, _, _, _⟩ :: _) _ _
               refine wpList_store_row rfl 27 (.tmp 2) (.tmp 41) rfl (w.heap.size + 1) #[.int .i64 0, .int .i64 0, .string ⟨#[]⟩, .slice none 0 0] rfl rfl _ _ ((heap_alloc_old _ _ (by omega)).trans R5.out) size_term rfl (one4 _ _ _ _ _ _) ?_))
          have hz := setRow_heap (w5.alloc (.cells #[.int .i64 BY.k, .int .i64 BY.n, .string BY.s, .slice a5 BY.args.length c5] 27 (0, 0))) (w.heap.size + 1) _ (#[.int .i64 0, .int .i64 0, .string ⟨#[]⟩, .slice none 0 0] : Array Value) _ _ ((heap_alloc_old _ _ (by omega)).trans R5.out)
          obtain ⟨f1, f2, f3⟩ := body_fin (P := P) (Q := fun _ => False) (r := zeroTm) (a := none) (c := 0) (cs := #[.int .i64 0, .int .i64 0, .string ⟨#[]⟩, .slice none 0 0]) (IsTm.mk' (t := zeroTm) (IsSl.nil (w5.alloc (.cells #[.int .i64 BY.k, .int .i64 BY.n, .string BY.s, .slice a5 BY.args.length c5] 27 (0, 0))) _ none 0)) (fun _ h => h.elim) (fun h => absurd rfl h) (B5.out.alloc B5.out.size _)
          rw [HR2.out]
          exact bodyPost_ret (v := .tuple #[.agg #[.int .i64 0, .int .i64 0, .string ⟨#[]⟩, .slice none 0 0], .bool false]) (Push.results_cell_tmp Try.results63 _ _ (w.heap.size + 1) _ _ _ _ _ rfl (by simp) hz Try.underlying27 rfl (by kernel_rfl)) rfl ⟨_, _, rfl, f1, f2, f3⟩
      · have hr2 : bodyT t = (compT t.s [BX, BY], true) := by rw [HR.out, if_neg (by decide), if_neg (by decide)]
        have HR2 := Lib.hid hr2
        clear hr2
        rcases hk3 with rfl | rfl | rfl
        all_goals
          go_enter Try.func63, Try.ntmps63
          go_wp2_with fail
          refine (goal_Kind t _ _ _ hM (HL.out.below TB.out)).mono ?_
          rintro e2 w2 ⟨rfl, hb2⟩
          rw [HKT.out]
          have hz2 : w.heap.size + 2 ≤ w2.heap.size := by have := hb2.size; have := TS.out; omega
          obtain ⟨x0, x1, x2, x3⟩ := row4 ((hb2.block w.heap.size (by have := TS.out; omega)).trans T0.out)
          have S2 := Lib.hid ((hb2.block w.heap.size (by have := TS.out; omega)).trans T0.out)
          have R1 := Lib.hid ((hb2.block (w.heap.size + 1) (by have := TS.out; omega)).trans T1.out)
          have B2 := Lib.hid (TB.out.trans (hb2.mono TB.out.size))
          have hz0 : w.heap.size < w2.heap.size := by omega
          obtain ⟨g1, o1, ea, ⟨p1, l1⟩, m1⟩ := (HL.out.below B2.out).args.at 0 (by rw [HAG.out]; simp)
          obtain ⟨g2, o2, eb, -, m2⟩ := (HL.out.below B2.out).args.at 1 (by rw [HAG.out]; simp)
          rw [ea] at eb
          simp only [Option.some.injEq, Addr.mk.injEq, and_true] at eb
          obtain ⟨rfl, rfl⟩ := eb
          have hx0 : t.args[0]'(by rw [HAG.out]; simp) = X := by simp [HAG.out]
          have hy0 : t.args[1]'(by rw [HAG.out]; simp) = Y := by simp [HAG.out]
          rw [hx0] at m1
          rw [hy0] at m2
          obtain ⟨cx, dx, y0, y1, y2, y3, iX, -⟩ := m1.read
          obtain ⟨cy, dy, z0, z1, z2, z3, iY, -⟩ := m2.read
          subst ea
          simp only [Nat.zero_mul, Nat.add_zero, Nat.one_mul] at y0 y1 y2 y3 z0 z1 z2 z3
          have hin0 : (0 : Int) < (t.args.length : Int) := by rw [HAG.out]; simp
          have hin1 : (1 : Int) < (t.args.length : Int) := by rw [HAG.out]; simp
          have IX := Lib.hid iX
          have IY := Lib.hid iY
          have hg2 : g1 < w2.heap.size := by omega
          clear hb2 m1 m2 hx0 hy0 iX iY x0 x1 x2
          go_wp2_with fail
          refine (HCX.out _ _ _ IX.out).mono ?_
          rintro e3 w3 ⟨a3, c3, rfl, hi3, -, hb3⟩
          have hg3 : g1 < w3.heap.size := by have := hb3.size; omega
          have hz3 : w.heap.size < w3.heap.size := by have := hb3.size; omega
          have X3 := Lib.hid x3
          have Z0 := Lib.hid z0
          have Z1 := Lib.hid z1
          have Z2 := Lib.hid z2
          have Z3 := Lib.hid z3
          clear x3 y0 y1 y2 y3 z0 z1 z2 z3
          have x3 := (hb3.cell (p := ⟨w.heap.size, 3, none⟩) hz0).trans X3.out
          have z0 := (hb3.cell (p := ⟨g1, o1 + 4, none⟩) hg2).trans Z0.out
          have z1 := (hb3.cell (p := ⟨g1, o1 + 4 + 1, none⟩) hg2).trans Z1.out
          have z2 := (hb3.cell (p := ⟨g1, o1 + 4 + 2, none⟩) hg2).trans Z2.out
          have z3 := (hb3.cell (p := ⟨g1, o1 + 4 + 3, none⟩) hg2).trans Z3.out
          have HI3 := Lib.hid hi3
          have IY3 := Lib.hid (IY.out.below hb3)
          have B3 := Lib.hid (B2.out.trans (hb3.mono B2.out.size))
          have R3 := Lib.hid ((hb3.block (w.heap.size + 1) (by omega)).trans R1.out)
          have HZ3 := Lib.hid (show w.heap.size + 2 ≤ w2.heap.size ∧ w2.heap.size ≤ w3.heap.size from ⟨hz2, hb3.size⟩)
          have S3 := Lib.hid ((hb3.block w.heap.size (by omega)).trans S2.out)
          clear hi3 hb3 Z0 Z1 Z2 Z3
          go_wp2_with fail
          have hal : Below w3.heap.size w3 (w3.alloc (.cells #[.int .i64 BX.k, .int .i64 BX.n, .string BX.s, .slice a3 BX.args.length c3] 27 (0, 0))) := (Below.refl _ _).alloc (Nat.le_refl _) _
          refine (HCY.out _ _ _ (IY3.out.below hal)).mono ?_
          rintro e5 w5 ⟨a5, c5, rfl, hi5, -, hb5⟩
          have hd := hal.trans (hb5.mono (by simp))
          have hnx := (hb5.block w3.heap.size (by simp)).trans (heap_alloc_new w3 (.cells #[.int .i64 BX.k, .int .i64 BX.n, .string BX.s, .slice a3 BX.args.length c3] 27 (0, 0)))
          have hz5 : w.heap.size + 1 < w5.heap.size := by have := hd.size; have := HZ3.out; omega
          have hz5' : w.heap.size < w5.heap.size := by omega
          have hx5 : w3.heap.size < w5.heap.size := by have := hb5.size; simp at this; omega
          have SS := Lib.hid ((hd.block w.heap.size (by omega)).trans S3.out)
          clear x3 z0 z1 z2 z3
          obtain ⟨-, -, x2, -⟩ := row4 SS.out
          obtain ⟨u0, u1, u2, u3⟩ := row4 hnx
          have HI5 := Lib.hid hi5
          have HX5 := Lib.hid (HI3.out.below hd)
          have B5 := Lib.hid (B3.out.trans (hd.mono B3.out.size))
          have R5 := Lib.hid ((hd.block (w.heap.size + 1) (by have := HZ3.out; omega)).trans R3.out)
          have HZ5 := Lib.hid (show w.heap.size + 2 ≤ w2.heap.size ∧ w2.heap.size ≤ w3.heap.size ∧ w3.heap.size < w5.heap.size from ⟨HZ3.out.1, HZ3.out.2, hx5⟩)
          have HU5 := Lib.hid (show ((w3.alloc (.cells #[.int .i64 BX.k, .int .i64 BX.n, .string BX.s, .slice a3 BX.args.length c3] 27 (0, 0)))).heap.size ≤ w5.heap.size from hb5.size)
          clear hi5 hb5 hal hd hnx
          go_wp2_with fail
          refine (goal_comp _ _ _ _ _).mono ?_
          rintro e7 w7 ⟨rfl, hb7⟩
          have hal : Below w5.heap.size w5 (w5.alloc (.cells #[.int .i64 BY.k, .int .i64 BY.n, .string BY.s, .slice a5 BY.args.length c5] 27 (0, 0))) := (Below.refl _ _).alloc (Nat.le_refl _) _
          have hs5 : ((w5.alloc (.cells #[.int .i64 BY.k, .int .i64 BY.n, .string BY.s, .slice a5 BY.args.length c5] 27 (0, 0)))).heap.size = w5.heap.size + 1 := by simp
          have hsl := two_sl ((HX5.out.below hal).imp (P' := fun b => (P b ∧ b < w.heap.size) ∨ w2.heap.size ≤ b) (fun b h => h.imp_right fun h => by omega) fun _ _ _ => rfl) ((HI5.out.below hal).imp (P' := fun b => (P b ∧ b < w.heap.size) ∨ w2.heap.size ≤ b) (fun b h => h.imp_right fun h => by have := HZ5.out; have := HU5.out; simp at *; omega) fun _ _ _ => rfl)
          generalize hW6 : (w5.alloc (.cells #[.int .i64 BY.k, .int .i64 BY.n, .string BY.s, .slice a5 BY.args.length c5] 27 (0, 0))) = W6 at *
          have ha6 : Below W6.heap.size W6 (W6.alloc (.cells #[.int .i64 BX.k, .int .i64 BX.n, .string BX.s, .slice a3 BX.args.length c3, .int .i64 BY.k, .int .i64 BY.n, .string BY.s, .slice a5 BY.args.length c5] 27 (0, 0))) := (Below.refl _ _).alloc (Nat.le_refl _) _
          have hd6 : Below W6.heap.size W6 w7 := ha6.trans (hb7.mono (by simp))
          have hd5 : Below w5.heap.size w5 w7 := hal.trans (hd6.mono (by omega))
          have hrow := (hb7.block W6.heap.size (by simp)).trans (heap_alloc_new W6 (.cells #[.int .i64 BX.k, .int .i64 BX.n, .string BX.s, .slice a3 BX.args.length c3, .int .i64 BY.k, .int .i64 BY.n, .string BY.s, .slice a5 BY.args.length c5] 27 (0, 0)))
          have hsl7 := hsl.imp (fun _ h => h) (fun b _ hlt => hb7.block b hlt)
          rw [hs5] at hsl7 hrow
          have HSL := Lib.hid hsl7
          have HROW := Lib.hid hrow
          have HR7 := Lib.hid ((hd5.block (w.heap.size + 1) (by omega)).trans R5.out)
          have HBF := Lib.hid (B5.out.trans (hd5.mono B5.out.size))
          have HS6 := Lib.hid hs5
          clear hb7 hal hs5 hsl hsl7 ha6 hd6 hd5 hrow hW6
          go_wp2_with (first
            | (with_reducible show wpList _ _ _ (⟨none, .store _ (.tmp 2) _, _, _, _, _⟩ :: _) _ _
               refine wpList_store_row rfl 27 (.tmp 2) (.tmp 47) rfl (w.heap.size + 1) #[.int .i64 4, .int .i64 0, .string t.s, .slice (some ⟨w5.heap.size + 1, 0, none⟩) 2 2] rfl rfl _ _ HR7.out size_term rfl (one4 _ _ _ _ _ _) ?_))
          have hz := setRow_heap w7 (w.heap.size + 1) _ (#[.int .i64 4, .int .i64 0, .string t.s, .slice (some ⟨w5.heap.size + 1, 0, none⟩) 2 2] : Array Value) _ _ HR7.out
          have hw2 : w.heap.size + 2 ≤ w5.heap.size + 1 := by have := HZ5.out; omega
          obtain ⟨f1, f2, f3⟩ := body_fin (P := P) (r := compT t.s [BX, BY]) (c := 2) (cs := #[.int .i64 4, .int .i64 0, .string t.s, .slice (some ⟨w5.heap.size + 1, 0, none⟩) 2 2]) (comp_is HSL.out) (fun b h => by
            rcases h with (h | h) | h
            · exact .inl h
            · right; have := HZ5.out; omega
            · right; have := HS6.out; omega) (fun _ => ⟨_, rfl, hw2, _, HROW.out⟩) HBF.out
          rw [HR2.out]
          exact bodyPost_ret (v := .tuple #[.agg #[.int .i64 4, .int .i64 0, .string t.s, .slice (some ⟨w5.heap.size + 1, 0, none⟩) 2 2], .bool true]) (Push.results_cell_tmp Try.results63 _ _ (w.heap.size + 1) _ _ _ _ _ rfl (by simp) hz Try.underlying27 rfl (by kernel_rfl)) rfl ⟨_, _, rfl, f1, f2, f3⟩
    case false =>
      have hr : bodyT t = (t, t.k != 2) := by rw [HE.out, if_neg k1, hp, if_neg (by decide)]
      have hkk : ((kindT t == 2) = false ∧ (kindT t == 3) = false) ∧ (kindT t == 4) = false := by simpa [isPair] using hp
      obtain ⟨⟨kb2, kb3⟩, kb4⟩ := hkk
      have HR := Lib.hid hr
      clear hr hp HE IH k1
      go_enter Try.func63, Try.ntmps63
      go_wp2_with (go_at_call 20
                   refine (goal_Kind t _ _ _ hM (HL.out.below TB.out)).mono ?_
                   rintro e2 w2 ⟨rfl, hb2⟩
                   have HB2 := Lib.hid hb2
                   clear hb2)
      refine wp_region_rest (by kernel_rfl) ?_
      have hd := HB2.out.drew
      have hw0 : w.heap.size + 2 ≤ w2.drew.heap.size := by have := hd.size; have := TS.out; omega
      have HR0 := Lib.hid ((hd.block w.heap.size (by have := TS.out; omega)).trans T0.out)
      have HR1 := Lib.hid ((hd.block (w.heap.size + 1) (by have := TS.out; omega)).trans T1.out)
      have HBW := Lib.hid (TB.out.trans (hd.mono TB.out.size))
      clear hd HB2 T0 T1 TS TB
      generalize w2.drew = W0 at *
      have HI0 := Lib.hid (HL.out.below HBW.out)
      clear HL
      refine rest_opsM 0 6 53 [(5, w.heap.size + 1)] (fun _ _ => false) [_, _, _, _, _, _] (pk 0 [isV ?a1_0, fun v u => GowV (fun b => P b ∧ b < w.heap.size) W0.heap.size t v u, isV ?a1_2, isV ?a1_3, isV ?a1_4, fun v u => ∃ a c, u.heap[w.heap.size + 1]? = some (.cells #[.int .i64 t.k, .int .i64 t.n, .string t.s, .slice a t.args.length c] 27 (0, 0)) ∧ GowV (fun b => P b ∧ b < w.heap.size) W0.heap.size t (.agg #[.int .i64 t.k, .int .i64 t.n, .string t.s, .slice a t.args.length c]) u ∧ w.heap.size + 1 < u.heap.size]) (fun _ _ => none) rfl (by kernel_rfl) (by kernel_rfl) rfl (.inr (by kernel_rfl)) ?hS1 ?hop1 ?_
      case hop1 =>
        refine ⟨?_, ?_⟩
        · intro v u hu hs Q' hQ
          simp only [putX, dstOf, cond_false]
          have HZ := hu.size
          have KU : ∀ b, b < W0.heap.size → b ∉ ([] : List Nat) → u.heap[b]? = W0.heap[b]? := fun b hlt hn => hu.block b hlt fun h => hn h
          have hz := (KU w.heap.size (by omega) (by simp)).trans HR0.out
          obtain ⟨x0, x1, x2, x3⟩ := row4 hz
          clear hz
          clear hs
          go_wp2
          exact ⟨rfl, Keeps.refl _ _, by (show _ = _; rfl), fun _ h => nomatch h⟩
        refine ⟨?_, ?_⟩
        · intro v u hu hs Q' hQ
          simp only [putX, dstOf, cond_false]
          have s_0 : v 0 = _ := hs 0 (by kernel_rfl) (by decide) (by decide)
          have HZ := hu.size
          have KU : ∀ b, b < W0.heap.size → b ∉ ([] : List Nat) → u.heap[b]? = W0.heap[b]? := fun b hlt hn => hu.block b hlt fun h => hn h
          have hz := (KU w.heap.size (by omega) (by simp)).trans HR0.out
          obtain ⟨x0, x1, x2, x3⟩ := row4 hz
          clear hz
          clear hs
          (have hit := HI0.out.imp (fun _ h => h) (fun b _ hlt => KU b hlt (by simp)); have HIT := Lib.hid hit; clear hit; simp only [s_0]; go_wp2_with (go_at_call 61; refine (goal_own t _ _ u hM HIT.out).mono ?_; rintro e3 w3 ⟨a3, c3, rfl, hi3, ht3, hb3⟩))
          exact ⟨rfl, Keeps.of hb3, ⟨a3, c3, rfl, hi3.imp (fun b h => h.imp_right fun h => Nat.le_trans HZ h) (fun _ _ _ => rfl), fun h => let ⟨g, e, hg, hp⟩ := ht3 h; ⟨g, e, Nat.le_trans HZ hg, hp⟩⟩, fun _ h => nomatch h⟩
        refine ⟨?_, ?_⟩
        · intro v u hu hs Q' hQ
          simp only [putX, dstOf, cond_false]
          clear hs
          go_wp2
          exact ⟨rfl, Keeps.refl _ _, by (show _ = _; rfl), fun _ h => nomatch h⟩
        refine ⟨?_, ?_⟩
        · intro v u hu hs Q' hQ
          simp only [putX, dstOf, cond_false]
          have s_2 : v 2 = _ := hs 2 (by kernel_rfl) (by decide) (by decide)
          have HZ := hu.size
          have KU : ∀ b, b < W0.heap.size → b ∉ ([w.heap.size + 1] : List Nat) → u.heap[b]? = W0.heap[b]? := fun b hlt hn => hu.block b hlt fun h => hn h
          have hz := (KU w.heap.size (by omega) (by simp)).trans HR0.out
          obtain ⟨x0, x1, x2, x3⟩ := row4 hz
          clear hz
          clear hs
          go_wp2
          exact ⟨rfl, Keeps.refl _ _, by (show _ = _; rfl), fun _ h => nomatch h⟩
        refine ⟨?_, ?_⟩
        · intro v u hu hs Q' hQ
          simp only [putX, dstOf, cond_false]
          have s_3 : v 3 = _ := hs 3 (by kernel_rfl) (by decide) (by decide)
          clear hs
          go_wp2
          exact ⟨rfl, Keeps.refl _ _, by (show _ = _; rfl), fun _ h => nomatch h⟩
        refine ⟨?_, ?_⟩
        · intro v u hu hs Q' hQ
          simp only [putX, dstOf, cond_false]
          have s_0 : v 0 = _ := hs 0 (by kernel_rfl) (by decide) (by decide)
          have s_1 : GowV (fun b => P b ∧ b < w.heap.size) W0.heap.size t (v 1) u := hs 1 (by kernel_rfl) (by decide) (by decide)
          have HZ := hu.size
          have KU : ∀ b, b < W0.heap.size → b ∉ ([] : List Nat) → u.heap[b]? = W0.heap[b]? := fun b hlt hn => hu.block b hlt fun h => hn h
          have hz := (KU w.heap.size (by omega) (by simp)).trans HR0.out
          obtain ⟨x0, x1, x2, x3⟩ := row4 hz
          clear hz
          clear hs
          (obtain ⟨a3, c3, e3, hi3, ht3⟩ := s_1; have HI3 := Lib.hid hi3; have HT3 := Lib.hid ht3; have HR5 := Lib.hid ((KU (w.heap.size + 1) (by omega) (by simp)).trans HR1.out); clear hi3 ht3; simp only [e3]; go_wp2_with (refine wpList_store_row rfl 27 (.tmp 2) (.tmp 49) rfl (w.heap.size + 1) #[.int .i64 t.k, .int .i64 t.n, .string t.s, .slice a3 t.args.length c3] rfl rfl _ _ HR5.out size_term rfl (one4 _ _ _ _ _ _) ?_))
          exact ⟨rfl, (gow_stored HR5.out HI3.out HT3.out HZ hw0).1, (gow_stored HR5.out HI3.out HT3.out HZ hw0).2, fun _ h => nomatch h⟩
        exact trivial
      case hS1 =>
        intro j v u u' hkj hjn h hz hb
        match j, hkj, hjn, h, hb with
        | 0, _, _, h, hb => exact h
        | 1, _, _, h, hb => exact h.keep hb (by rintro b ⟨q, -, hm⟩ hp; simp at hm; have := hm.2; rcases hp with hp | hp <;> omega)
        | 2, _, _, h, hb => exact h
        | 3, _, _, h, hb => exact h
        | 4, _, _, h, hb => exact h
        | 5, _, _, h, hb => exact (let ⟨a, c, h1, h2, h3⟩ := h; ⟨a, c, (hb.block _ h3 (by rintro ⟨q, hq, hm⟩; simp at hm; omega)).trans h1, h2.keep hb (by rintro b ⟨q, hq, hm⟩ hp; simp at hm; omega), Nat.lt_of_lt_of_le h3 hb.size⟩)
        | q + 6, _, hq, _, _ => exact absurd hq (by omega)
      intro v u hu hs hap
      have s_0 : v 0 = _ := hs 0 (by decide) (by decide)
      have s_1 : GowV (fun b => P b ∧ b < w.heap.size) W0.heap.size t (v 1) u := hs 1 (by decide) (by decide)
      have s_2 : v 2 = _ := hs 2 (by decide) (by decide)
      have s_3 : v 3 = _ := hs 3 (by decide) (by decide)
      have s_4 : v 4 = _ := hs 4 (by decide) (by decide)
      have s_5 : ∃ a c, u.heap[w.heap.size + 1]? = some (.cells #[.int .i64 t.k, .int .i64 t.n, .string t.s, .slice a t.args.length c] 27 (0, 0)) ∧ GowV (fun b => P b ∧ b < w.heap.size) W0.heap.size t (.agg #[.int .i64 t.k, .int .i64 t.n, .string t.s, .slice a t.args.length c]) u ∧ w.heap.size + 1 < u.heap.size := hs 5 (by decide) (by decide)
      simp only [putAll, dstOf]
      obtain ⟨a5, c5, h5r, h5v, -⟩ := s_5
      obtain ⟨a6, c6, e6, h6i, h6t⟩ := h5v
      simp only [Value.agg.injEq, Array.mk.injEq, List.cons.injEq, and_true, true_and, Value.slice.injEq] at e6
      obtain ⟨rfl, rfl⟩ := e6
      have H5R := Lib.hid h5r
      have H6I := Lib.hid h6i
      have H6T := Lib.hid h6t
      have HKU := Lib.hid hu
      clear hs hap s_0 s_1 s_2 s_3 h5r h6i h6t hu
      refine rest_lineL 6 7 [_] rfl (by kernel_rfl) (by decide) (by decide) (by kernel_rfl) ?_
      simp only [s_4]
      go_wp2
      refine then_rest (rest_end (by decide) ?_)
      go_wp2
      have hbel : Below w.heap.size w u := HBW.out.trans ⟨HKU.out.os, HKU.out.tape, HKU.out.output, by have := HKU.out.size; omega, fun b hb => HKU.out.block b (by omega) (by rintro ⟨q, hm⟩; simp at hm; omega)⟩
      have hpost : BodyPost P (bodyT t) w (.returned (.tuple #[.agg #[.int .i64 t.k, .int .i64 t.n, .string t.s, .slice a5 t.args.length c5], .bool (t.k != 2)])) u := by
        rw [HR.out]
        exact ⟨_, _, rfl, H6I.out.imp (fun b h => h.elim (fun h => .inl h.1) fun h => .inr (by omega)) (fun _ _ _ => rfl), fun h => (let ⟨g, e, hg, hp⟩ := H6T.out h; ⟨g, e, by omega, hp⟩), hbel⟩
      exact bodyPost_ret (v := .tuple #[.agg #[.int .i64 t.k, .int .i64 t.n, .string t.s, .slice a5 t.args.length c5], .bool (t.k != 2)]) (Push.results_cell_tmp Try.results63 _ _ (w.heap.size + 1) _ _ _ _ _ rfl (by simp) H5R.out Try.underlying27 rfl (by kernel_rfl)) rfl hpost
end Go.Proofs.Ytmlceamcpelklaa.Tms
