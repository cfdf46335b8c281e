/-
  Layer texts, glued and made small.
-/
import Derived.Test.YtcbijikalfodnaaG04
import Derived.Test.YtcbijikalfodnaaShl
import Derived.Lib.Bytealg
import Derived.Maps.RangeRun
set_option linter.unusedVariables false
set_option linter.unusedSimpArgs false
set_option maxRecDepth 100000
set_option maxHeartbeats 200000
namespace Go.Proofs.Ytcbijikalfodnaa.Tms
open Go Go.RowKit
mutual
def mayT : Tm → Bool
 | .mk k n s a => mayB k n s a.length && mayTL a
def mayTL : List Tm → Bool
 | [] => true
 | t :: l => mayT t && mayTL l
end
mutual
def deepT : Tm → Nat
 | .mk _ _ _ a => deepL a + 1
def deepL : List Tm → Nat
 | [] => 0
 | t :: l => max (deepT t) (deepL l)
end
mutual
theorem meas_parts : ∀ (t : Tm) (st : Bool × Int × Int) (d : Int), meas st (parts d t) = (st.1 || !mayT t, st.2.1 + t.size, max st.2.2 (d - 1 + deepT t))
 | .mk k n s a, st, d => by
   rw [parts]; simp only [meas]; have h := meas_partsL a (st.1 || !mayB k n s a.length, st.2.1 + 1, max st.2.2 d) (d + 1) (by simp only []; omega); show meas (st.1 || !mayB k n s a.length, st.2.1 + 1, max st.2.2 d) (partsL (d + 1) a) = _; rw [h]; simp only [mayT, Tm.size, deepT, Prod.mk.injEq]; refine ⟨?_, ?_, ?_⟩
   ·cases st.1 <;> cases mayB k n s a.length <;> cases mayTL a <;> rfl
   ·omega
   ·omega
theorem meas_partsL : ∀ (l : List Tm) (st : Bool × Int × Int) (d : Int), d - 1 ≤ st.2.2 → meas st (partsL d l) = (st.1 || !mayTL l, st.2.1 + sizeL l, max st.2.2 (d - 1 + deepL l))
 | [], st, d, hd => by
   simp only [partsL, meas, mayTL, sizeL, deepL, Bool.not_true, Bool.or_false]; obtain ⟨b, x, y⟩ := st; simp only [Prod.mk.injEq, true_and] at hd ⊢; omega
 | t :: l, st, d, hd => by
   rw [partsL, meas_app, meas_parts t st d, meas_partsL l _ d (by simp only []; omega)]; simp only [mayTL, sizeL, deepL, Prod.mk.injEq]; refine ⟨?_, ?_, ?_⟩
   ·cases st.1 <;> cases mayT t <;> cases mayTL l <;> rfl
   ·omega
   ·omega
end
theorem msT_eq (t : Tm) : msT t = (!mayT t, (t.size : Int), (deepT t : Int)) := by
 unfold msT; rw [meas_parts]; simp only [Prod.mk.injEq, Bool.false_or, true_and]; omega
theorem checkT_eq (t : Tm) : checkT t = if mayT t = false then 2 else if 2000 < deepT t then 4 else if 20000 < t.size then 3 else 0 := by
 unfold checkT; rw [msT_eq]; simp only []; cases mayT t
 ·simp
 ·have h1 : ((2000 : Int) < (deepT t : Int)) ↔ 2000 < deepT t := by omega
  have h2 : ((20000 : Int) < (t.size : Int)) ↔ 20000 < t.size := by omega
  simp only [h1, h2]
  simp
mutual
theorem deep_le : ∀ t : Tm, deepT t ≤ t.size
 | .mk k n s a => by have := deepL_le a; simp only [deepT, Tm.size]; omega
theorem deepL_le : ∀ l : List Tm, deepL l ≤ sizeL l
 | [] => by simp [deepL, sizeL]
 | t :: l => by have := deep_le t; have := deepL_le l; simp only [deepL, sizeL]; omega
end
mutual
def arT : Tm → Bool
 | .mk _ _ _ a => decide (a.length ≤ 7) && arL a
def arL : List Tm → Bool
 | [] => true
 | t :: l => arT t && arL l
end
theorem atomA_may : mayT atomA = true := by decide +kernel
theorem empty_bytes {s : ByteArray} (h : s.size = 0) : s.toList.isEmpty = true := by
 have : s = ⟨#[]⟩ := by
  obtain ⟨⟨l⟩⟩ := s; cases l with
  | nil => rfl
  | cons x l => simp [ByteArray.size] at h
 subst this; decide +kernel
theorem nil_empty : ((⟨#[]⟩ : ByteArray).toList.isEmpty) = true := empty_bytes rfl
mutual
theorem mend_may : ∀ t : Tm, arT t = true → mayT (mendT t) = true
 | .mk k n s a, h => by
   simp only [arT, Bool.and_eq_true, decide_eq_true_eq] at h; have hl := mendL_may a h.2; unfold mendT
   by_cases h1 : 20 < s.size
   ·rw [if_pos h1]; exact atomA_may
   rw [if_neg h1]
   by_cases k1 : k = 1
   ·rw [if_pos k1]
    have : (0 : Int) ≤ max 0 n := by omega
    simp [mayT, mayTL, mayB, this]
   rw [if_neg k1]
   by_cases k2 : k = 2
   ·rw [if_pos k2]; simp [mayT, mayTL, mayB]
   rw [if_neg k2]
   by_cases k3 : k = 3
   ·rw [if_pos k3]
    have : s.size ≤ 1000 := by omega
    simp [mayT, mayTL, mayB, this]
   rw [if_neg k3]
   by_cases k4 : k = 4
   ·rw [if_pos k4]
    by_cases ha : a.length = 0
    ·rw [if_pos ha]; exact atomA_may
    rw [if_neg ha]; have h2 : (mendL a).length = a.length := by rw [mendL_map]; simp
    have h3 : s.size ≤ 1000 := by omega
    have h4 : 1 ≤ a.length := by omega
    have h5 : a.length ≤ 255 := by omega
    simp only [mayT, hl, Bool.and_true, h2]
    simp [mayB, h3, h4, h5]
   ·rw [if_neg k4]; exact atomA_may
theorem mendL_may : ∀ l : List Tm, arL l = true → mayTL (mendL l) = true
 | [], _ => by simp [mendL, mayTL]
 | t :: l, h => by
   simp only [arL, Bool.and_eq_true] at h
   simp [mendL, mayTL, mend_may t h.1, mendL_may l h.2]
end
theorem check_zero {t : Tm} (h : mayT t = true) (hs : t.size ≤ 2000) : checkT t = 0 := by
 have := deep_le t; rw [checkT_eq, h, if_neg (by simp), if_neg (by omega), if_neg (by omega)]
theorem check_may {t : Tm} (h : checkT t = 0) : mayT t = true := by
 rw [checkT_eq] at h; cases hm : mayT t
 ·rw [hm] at h; simp at h
 ·rfl
theorem may_kind {t : Tm} (h : mayT t = true) : t.k = 1 ∨ t.k = 2 ∨ t.k = 3 ∨ t.k = 4 := by
 obtain ⟨k, n, s, a⟩ := t; simp only [mayT, Bool.and_eq_true, mayB] at h; simp only [Tm.k]
 by_cases h1 : k = 1
 ·exact .inl h1
 by_cases h2 : k = 2
 ·exact .inr (.inl h2)
 by_cases h3 : k = 3
 ·exact .inr (.inr (.inl h3))
 by_cases h4 : k = 4
 ·exact .inr (.inr (.inr h4))
 simp_all
theorem may_arg {t x : Tm} (h : mayT t = true) (hx : x ∈ t.args) : mayT x = true := by
 obtain ⟨k, n, s, a⟩ := t; simp only [mayT, Bool.and_eq_true] at h; simp only [Tm.args] at hx
 have key : ∀ l : List Tm, mayTL l = true → x ∈ l → mayT x = true := by
  intro l
  induction l with
  | nil => simp
  | cons y l ih =>
    intro h1 h2; simp only [mayTL, Bool.and_eq_true] at h1; rcases List.mem_cons.1 h2 with rfl | h2
    ·exact h1.1
    ·exact ih h1.2 h2
 exact key a h.2 hx
theorem may_var {t : Tm} (h : mayT t = true) (k1 : t.k = 1) : t.args = [] := by
 obtain ⟨k, n, s, a⟩ := t; simp only [Tm.k] at k1; subst k1; simp only [mayT, Bool.and_eq_true, mayB] at h; simp only [Tm.args]
 simp at h
 exact h.1.2.2
abbrev aggT (t : Tm) (a : Option Addr) (c : Nat) : Value := .agg #[.int .i64 t.k, .int .i64 t.n, .string t.s, .slice a t.args.length c]
abbrev rowT (t : Tm) (a : Option Addr) (c : Nat) : Obj := .cells #[.int .i64 t.k, .int .i64 t.n, .string t.s, .slice a t.args.length c] 49 (0, 0)
theorem below_new (w : World) (o : Obj) : Below w.heap.size w (w.alloc o) := (Below.refl _ _).alloc (Nat.le_refl _) _
def cmpI (a b : Int) : Int := if a < b then -1 else if b < a then 1 else 0
def cmpHead (a b : Tm) : Int :=
 if cmpI a.k b.k ≠ 0 then cmpI a.k b.k else if cmpI a.args.length b.args.length ≠ 0 then cmpI a.args.length b.args.length else if cmpI a.n b.n ≠ 0 then cmpI a.n b.n else Lib.compareBytes a.s.data.toList b.s.data.toList
mutual
def cmpT : Tm → Tm → Int
 | .mk k n s a, .mk k' n' s' a' => if cmpHead (.mk k n s a) (.mk k' n' s' a') ≠ 0 then cmpHead (.mk k n s a) (.mk k' n' s' a') else cmpL a a'
def cmpL : List Tm → List Tm → Int
 | t :: ts, u :: us => if cmpT t u ≠ 0 then cmpT t u else cmpL ts us
 | _, _ => 0
end
theorem cmpHead_len {t u : Tm} (h : cmpHead t u = 0) : t.args.length = u.args.length := by
 have key : ∀ a b : Int, cmpI a b = 0 → a = b := fun a b h => by
  unfold cmpI at h
  by_cases h1 : a < b
  ·rw [if_pos h1] at h; omega
  ·by_cases h2 : b < a
   ·rw [if_neg h1, if_pos h2] at h; omega
   ·omega
 unfold cmpHead at h
 by_cases q1 : cmpI t.k u.k = 0
 ·by_cases q2 : cmpI t.args.length u.args.length = 0
  ·have := key _ _ q2; omega
  ·rw [if_neg (by simpa using q1), if_pos q2] at h; exact absurd h q2
 ·rw [if_pos q1] at h; exact absurd h q1
def flatP : List (Tm × Tm) → List Tm
 | [] => []
 | p :: l => p.1 :: p.2 :: flatP l
theorem CellsOf.len {w : World} {P : Nat → Prop} : ∀ {xs : List Value} {ts : List Tm}, CellsOf w P xs ts → xs.length = 4 * ts.length
 | [], [], _ => rfl
 | _ :: _ :: _ :: _ :: _, _ :: _, ⟨_, _, _, _, h⟩ => by have := CellsOf.len h; simp; omega
 | [], _ :: _, h => h.elim
 | _ :: [], [], h => h.elim
 | _ :: [], _ :: _, h => h.elim
 | _ :: _ :: [], [], h => h.elim
 | _ :: _ :: [], _ :: _, h => h.elim
 | _ :: _ :: _ :: [], [], h => h.elim
 | _ :: _ :: _ :: [], _ :: _, h => h.elim
 | _ :: _ :: _ :: _ :: _, [], h => h.elim
theorem CellsOf.split {w : World} {P : Nat → Prop} : ∀ {us : List Tm} {xs : List Value} {ts : List Tm}, CellsOf w P xs (us ++ ts) → ∃ ys zs, xs = ys ++ zs ∧ CellsOf w P ys us ∧ CellsOf w P zs ts
 | [], xs, ts, h => ⟨[], xs, rfl, trivial, h⟩
 | u :: us, k :: n :: s :: l :: rest, ts, ⟨h1, h2, h3, h4, h5⟩ => by
   obtain ⟨ys, zs, e, h6, h7⟩ := CellsOf.split h5; exact ⟨k :: n :: s :: l :: ys, zs, by simp [e], ⟨h1, h2, h3, h4, h6⟩, h7⟩
 | _ :: _, [], _, h => h.elim
 | _ :: _, _ :: [], _, h => h.elim
 | _ :: _, _ :: _ :: [], _, h => h.elim
 | _ :: _, _ :: _ :: _ :: [], _, h => h.elim
end Go.Proofs.Ytcbijikalfodnaa.Tms
namespace Go.Proofs.Ytcbijikalfodnaa.Tms
open Go Go.RowKit Go.Proofs.Ytcbijikalfodnaa.Reg
end Go.Proofs.Ytcbijikalfodnaa.Tms
namespace Go.Proofs.Ytcbijikalfodnaa.Tms
open Go Go.RowKit
def T3 (p q r : Int) : Prop := (p ≤ 0 → q ≤ 0 → r ≤ 0 ∧ (r = 0 → p = 0 ∧ q = 0)) ∧ (p = 0 → r = q) ∧ (q = 0 → r = p)
def lex (a b : Int) : Int := if a ≠ 0 then a else b
theorem lex_neg (a b : Int) : lex (-a) (-b) = -lex a b := by
 unfold lex
 by_cases h : a = 0
 ·rw [if_neg (by omega), if_neg (by omega)]
 ·rw [if_pos (by omega), if_pos h]
theorem lex_zero {a b : Int} : lex a b = 0 ↔ a = 0 ∧ b = 0 := by
 unfold lex
 by_cases h : a = 0
 ·rw [if_neg (by omega)]; omega
 ·rw [if_pos h]; omega
theorem T3.lex {p1 q1 r1 p2 q2 r2 : Int} (h : T3 p1 q1 r1) (h' : p1 = 0 → q1 = 0 → T3 p2 q2 r2) : T3 (lex p1 p2) (lex q1 q2) (lex r1 r2) := by
 obtain ⟨h1, h2, h3⟩ := h; unfold Tms.lex
 by_cases hp : p1 = 0
 ·have hr := h2 hp
  by_cases hq : q1 = 0
  ·rw [if_neg (by omega), if_neg (by omega), if_neg (by omega)]
   exact h' hp hq
  ·rw [if_neg (by omega), if_pos hq, if_pos (by omega)]
   unfold T3; refine ⟨fun _ _ => ⟨by omega, by omega⟩, fun _ => by omega, fun _ => by omega⟩
 ·by_cases hq : q1 = 0
  ·have hr := h3 hq
   rw [if_pos hp, if_neg (by omega), if_pos (by omega)]; unfold T3; refine ⟨fun _ _ => ⟨by omega, by omega⟩, fun _ => by omega, fun _ => by omega⟩
  ·rw [if_pos hp, if_pos hq]
   unfold T3; refine ⟨fun hp' hq' => ?_, fun _ => by omega, fun _ => by omega⟩; obtain ⟨h4, h5⟩ := h1 hp' hq'
   by_cases hr : r1 = 0
   ·exact absurd (h5 hr).1 hp
   ·rw [if_pos hr]; omega
theorem cmpI_neg (a b : Int) : cmpI a b = -cmpI b a := by unfold cmpI; repeat' split; all_goals omega
theorem cmpI_zero {a b : Int} : cmpI a b = 0 ↔ a = b := by unfold cmpI; repeat' split; all_goals omega
theorem cmpI_T3 (a b c : Int) : T3 (cmpI a b) (cmpI b c) (cmpI a c) := by
 unfold T3 cmpI
 repeat' split
 all_goals omega
theorem bytes_toList (b : ByteArray) : b.toList = b.data.toList := ByteArray.toList_eq b
theorem cmpB_cons (a b : UInt8) (al bl : List UInt8) : Lib.compareBytes (a :: al) (b :: bl) = lex (cmpI a.toNat b.toNat) (Lib.compareBytes al bl) := by
 unfold lex cmpI; rw [Lib.compareBytes]
 by_cases h1 : a < b
 ·have : (a.toNat : Int) < b.toNat := by have := UInt8.lt_iff_toNat_lt.1 h1; omega
  simp [h1, this]
 ·by_cases h2 : b < a
  ·have h3 : (b.toNat : Int) < a.toNat := by have := UInt8.lt_iff_toNat_lt.1 h2; omega
   have h4 : ¬ (a.toNat : Int) < b.toNat := by omega
   simp only [h1, h2, h3, h4, if_true, if_false]; rfl
  ·have h3 : ¬ (b.toNat : Int) < a.toNat := fun h => h2 (UInt8.lt_iff_toNat_lt.2 (by omega))
   have h4 : ¬ (a.toNat : Int) < b.toNat := fun h => h1 (UInt8.lt_iff_toNat_lt.2 (by omega))
   simp only [h1, h2, h3, h4, if_false]; rfl
theorem cmpB_neg : ∀ a b : List UInt8, Lib.compareBytes a b = -Lib.compareBytes b a
 | [], [] => by rw [Lib.compareBytes]; rfl
 | [], _ :: _ => by rw [Lib.compareBytes, Lib.compareBytes]
 | _ :: _, [] => by rw [Lib.compareBytes, Lib.compareBytes]; rfl
 | a :: al, b :: bl => by rw [cmpB_cons, cmpB_cons, cmpI_neg, cmpB_neg al bl, lex_neg]
theorem cmpB_zero : ∀ {a b : List UInt8}, Lib.compareBytes a b = 0 ↔ a = b
 | [], [] => by simp [Lib.compareBytes]
 | [], _ :: _ => by simp [Lib.compareBytes]
 | _ :: _, [] => by simp [Lib.compareBytes]
 | a :: al, b :: bl => by
   rw [cmpB_cons, lex_zero, cmpI_zero, cmpB_zero, List.cons.injEq]; constructor
   ·rintro ⟨h, h'⟩
    exact ⟨UInt8.toNat_inj.1 (by omega), h'⟩
   ·rintro ⟨rfl, h'⟩
    exact ⟨rfl, h'⟩
theorem cmpB_T3 : ∀ a b c : List UInt8, T3 (Lib.compareBytes a b) (Lib.compareBytes b c) (Lib.compareBytes a c)
 | [], [], [] => by simp [T3, Lib.compareBytes]
 | [], [], _ :: _ => by simp [T3, Lib.compareBytes]
 | [], _ :: _, [] => by simp [T3, Lib.compareBytes]
 | [], b :: bl, c :: cl => by
   simp only [T3, Lib.compareBytes]; refine ⟨fun _ _ => ⟨by omega, by omega⟩, by omega, by simp⟩
 | _ :: _, [], [] => by simp [T3, Lib.compareBytes]
 | a :: al, [], c :: cl => by
   simp only [T3, Lib.compareBytes]; refine ⟨by omega, by omega, by omega⟩
 | a :: al, b :: bl, [] => by
   simp only [T3, Lib.compareBytes]; refine ⟨by omega, by simp, by omega⟩
 | a :: al, b :: bl, c :: cl => by
   rw [cmpB_cons, cmpB_cons, cmpB_cons]; exact T3.lex (cmpI_T3 _ _ _) fun _ _ => cmpB_T3 al bl cl
theorem cmpHead_lex (t u : Tm) : cmpHead t u = lex (cmpI t.k u.k) (lex (cmpI t.args.length u.args.length) (lex (cmpI t.n u.n) (Lib.compareBytes t.s.data.toList u.s.data.toList))) := rfl
theorem cmpT_lex (t u : Tm) : cmpT t u = lex (cmpHead t u) (cmpL t.args u.args) := by
 obtain ⟨k, n, s, a⟩ := t; obtain ⟨k', n', s', a'⟩ := u; rw [cmpT]; rfl
theorem cmpL_cons (t u : Tm) (ts us : List Tm) : cmpL (t :: ts) (u :: us) = lex (cmpT t u) (cmpL ts us) := by rw [cmpL]; rfl
theorem cmpHead_neg (t u : Tm) : cmpHead t u = -cmpHead u t := by
 rw [cmpHead_lex, cmpHead_lex, cmpI_neg t.k, cmpI_neg t.args.length, cmpI_neg t.n, cmpB_neg, lex_neg, lex_neg, lex_neg]
theorem cmpHead_T3 (x y z : Tm) : T3 (cmpHead x y) (cmpHead y z) (cmpHead x z) := by
 rw [cmpHead_lex, cmpHead_lex, cmpHead_lex]; exact (cmpI_T3 _ _ _).lex fun _ _ => (cmpI_T3 _ _ _).lex fun _ _ => (cmpI_T3 _ _ _).lex fun _ _ => cmpB_T3 _ _ _
mutual
theorem cmpT_neg : ∀ t u : Tm, cmpT t u = -cmpT u t
 | .mk k n s a, .mk k' n' s' a' => by
   rw [cmpT_lex, cmpT_lex, cmpHead_neg, ← lex_neg]; show lex _ (cmpL a a') = lex _ (-cmpL a' a); rw [cmpL_neg a a']
theorem cmpL_neg : ∀ l m : List Tm, cmpL l m = -cmpL m l
 | [], [] => by simp [cmpL]
 | [], _ :: _ => by simp [cmpL]
 | _ :: _, [] => by simp [cmpL]
 | t :: l, u :: m => by rw [cmpL_cons, cmpL_cons, cmpT_neg t u, cmpL_neg l m, lex_neg]
end
mutual
theorem cmpT_T3 : ∀ x y z : Tm, T3 (cmpT x y) (cmpT y z) (cmpT x z)
 | .mk k n s a, y, z => by
   rw [cmpT_lex, cmpT_lex, cmpT_lex]; exact (cmpHead_T3 _ _ _).lex fun h1 h2 => cmpL_T3 a y.args z.args (cmpHead_len h1) (cmpHead_len h2)
theorem cmpL_T3 : ∀ l m n : List Tm, l.length = m.length → m.length = n.length → T3 (cmpL l m) (cmpL m n) (cmpL l n)
 | [], [], [], _, _ => by simp [cmpL, T3]
 | t :: l, u :: m, v :: n, h1, h2 => by
   rw [cmpL_cons, cmpL_cons, cmpL_cons]; exact (cmpT_T3 t u v).lex fun _ _ => cmpL_T3 l m n (by simpa using h1) (by simpa using h2)
 | [], [], _ :: _, _, h => by simp at h
 | [], _ :: _, _, h, _ => by simp at h
 | _ :: _, [], _, h, _ => by simp at h
 | _ :: _, _ :: _, [], _, h => by simp at h
end
mutual
theorem cmpT_same : ∀ t u : Tm, cmpT t u = 0 ↔ sameT t u = true
 | .mk k n s a, .mk k' n' s' a' => by
   rw [cmpT_lex, lex_zero, cmpHead_lex, lex_zero, lex_zero, lex_zero, cmpI_zero, cmpI_zero, cmpI_zero, cmpB_zero]; simp only [Tm.k, Tm.n, Tm.s, Tm.args, sameT, Bool.and_eq_true, beq_iff_eq]; constructor
   ·rintro ⟨⟨h1, h2, h3, h4⟩, h5⟩
    have hs : s = s' := by cases s; cases s'; congr 1; exact Array.toList_inj.1 h4
    have hl : a.length = a'.length := by omega
    exact ⟨h1, h3, by rw [hs], hl, (cmpL_same a a' hl).1 h5⟩
   ·rintro ⟨h1, h2, h3, h4, h5⟩
    have hs : s.data.toList = s'.data.toList := by rw [← bytes_toList, ← bytes_toList, h3]
    exact ⟨⟨h1, by omega, h2, hs⟩, (cmpL_same a a' h4).2 h5⟩
theorem cmpL_same : ∀ l m : List Tm, l.length = m.length → (cmpL l m = 0 ↔ sameL l m = true)
 | [], [], _ => by simp [cmpL, sameL]
 | t :: l, u :: m, h => by
   rw [cmpL_cons, lex_zero, cmpT_same t u, cmpL_same l m (by simpa using h)]
   simp [sameL]
 | [], _ :: _, h => by simp at h
 | _ :: _, [], h => by simp at h
end
def R3 (a : Int) : Prop := a = -1 ∨ a = 0 ∨ a = 1
theorem R3.lex {a b : Int} (ha : R3 a) (hb : R3 b) : R3 (lex a b) := by
 unfold Tms.lex
 split
 ·exact ha
 ·exact hb
theorem cmpI_range (a b : Int) : R3 (cmpI a b) := by unfold R3 cmpI; repeat' split; all_goals omega
theorem cmpB_range : ∀ a b : List UInt8, R3 (Lib.compareBytes a b)
 | [], [] => by simp [R3, Lib.compareBytes]
 | [], _ :: _ => by simp [R3, Lib.compareBytes]
 | _ :: _, [] => by simp [R3, Lib.compareBytes]
 | a :: al, b :: bl => by rw [cmpB_cons]; exact (cmpI_range _ _).lex (cmpB_range al bl)
theorem cmpHead_range (t u : Tm) : R3 (cmpHead t u) := by
 rw [cmpHead_lex]; exact (cmpI_range _ _).lex ((cmpI_range _ _).lex ((cmpI_range _ _).lex (cmpB_range _ _)))
mutual
theorem cmpT_range : ∀ t u : Tm, R3 (cmpT t u)
 | .mk k n s a, u => by rw [cmpT_lex]; exact (cmpHead_range _ _).lex (cmpL_range a u.args)
theorem cmpL_range : ∀ l m : List Tm, R3 (cmpL l m)
 | [], [] => by simp [cmpL, R3]
 | [], _ :: _ => by simp [cmpL, R3]
 | _ :: _, [] => by simp [cmpL, R3]
 | t :: l, u :: m => by rw [cmpL_cons]; exact (cmpT_range t u).lex (cmpL_range l m)
end
mutual
theorem renT_size (φ : Int → Int) : ∀ t : Tm, (renT φ t).size = t.size
 | .mk k n s a => by simp only [renT, Tm.size, renL_size φ a]
theorem renL_size (φ : Int → Int) : ∀ l : List Tm, sizeL (renL φ l) = sizeL l
 | [] => by simp [renL, sizeL]
 | t :: l => by simp only [renL, sizeL, renT_size φ t, renL_size φ l]
end
mutual
theorem renT_deep (φ : Int → Int) : ∀ t : Tm, deepT (renT φ t) = deepT t
 | .mk k n s a => by simp only [renT, deepT, renL_deep φ a]
theorem renL_deep (φ : Int → Int) : ∀ l : List Tm, deepL (renL φ l) = deepL l
 | [] => by simp [renL, deepL]
 | t :: l => by simp only [renL, deepL, renT_deep φ t, renL_deep φ l]
end
mutual
theorem flatT_ren (φ : Int → Int) : ∀ t : Tm, flatT (renT φ t) = (flatT t).map fun p => (renT φ p.1, p.2)
 | .mk k n s a => by simp only [renT, flatT, List.map_cons, flatL_ren φ a]
theorem flatL_ren (φ : Int → Int) : ∀ l : List Tm, flatL (renL φ l) = (flatL l).map fun p => (renT φ p.1, p.2)
 | [] => by simp [renL, flatL]
 | t :: l => by simp only [renL, flatL, List.map_append, flatT_ren φ t, flatL_ren φ l]
end
mutual
theorem renT_fix (φ : Int → Int) : ∀ t : Tm, (∀ p ∈ flatT t, p.1.k = 1 → φ p.1.n = p.1.n) → renT φ t = t
 | .mk k n s a, h => by
   rw [renT, renL_fix φ a fun p hp => h p (by rw [flatT]; exact List.mem_cons_of_mem _ hp)]
   congr 1
   split
   ·rename_i hk
    exact h (.mk k n s a, 0) (by rw [flatT]; exact List.mem_cons_self ..) hk
   ·rfl
theorem renL_fix (φ : Int → Int) : ∀ l : List Tm, (∀ p ∈ flatL l, p.1.k = 1 → φ p.1.n = p.1.n) → renL φ l = l
 | [], _ => by simp [renL]
 | t :: l, h => by
   rw [renL, renT_fix φ t fun p hp => h p (by rw [flatL]; exact List.mem_append_left _ hp), renL_fix φ l fun p hp => h p (by rw [flatL]; exact List.mem_append_right _ hp)]
end
theorem numT_size (t : Tm) : (numT t).size = t.size := renT_size _ t
end Go.Proofs.Ytcbijikalfodnaa.Tms
namespace Go.Proofs.Ytcbijikalfodnaa.Tms
open Go Go.RowKit Go.Proofs.Ytcbijikalfodnaa.Cod
mutual
def occT : Tm → List Int
 | .mk k n _ a => if k = 1 then n :: occL a else occL a
def occL : List Tm → List Int
 | [] => []
 | t :: l => occT t ++ occL l
end
mutual
def patT (one : Int → Bool) (S : List Int) : Tm → List Ins × List Int
 | .mk k n s a =>
   if k = 1 then (if one n = true then ([⟨1, 0, 0, ⟨#[]⟩⟩], S) else match place S n with
    | some p => ([⟨3, (p : Nat), 0, ⟨#[]⟩⟩], S)
    | none => ([⟨2, S.length, 0, ⟨#[]⟩⟩], S ++ [n]))
   else if k = 2 then ([⟨4, 0, n, ⟨#[]⟩⟩], S) else if k = 3 then ([⟨5, 0, 0, s⟩], S)
   else (⟨6, a.length, 0, s⟩ :: (patL one S a).1, (patL one S a).2)
def patL (one : Int → Bool) (S : List Int) : List Tm → List Ins × List Int
 | [] => ([], S)
 | t :: l => ((patT one S t).1 ++ (patL one (patT one S t).2 l).1, (patL one (patT one S t).2 l).2)
end
theorem place_map {φ : Int → Int} {V : Int → Prop} (hφ : ∀ x y, V x → V y → φ x = φ y → x = y) : ∀ (S : List Int) (n : Int), (∀ x ∈ S, V x) → V n → place (S.map φ) (φ n) = place S n
 | [], n, _, _ => rfl
 | x :: S, n, hS, hn => by
   have ih := place_map hφ S n (fun y hy => hS y (List.mem_cons_of_mem _ hy)) hn; simp only [List.map_cons, place, ih]
   by_cases h : n = x
   ·rw [if_pos h, if_pos (by rw [h])]
   ·rw [if_neg h, if_neg fun e => h (hφ n x hn (hS x (by simp)) e)]
mutual
theorem patT_ren {φ : Int → Int} {V : Int → Prop} {one one' : Int → Bool} (hφ : ∀ x y, V x → V y → φ x = φ y → x = y) (h1 : ∀ n, V n → one' (φ n) = one n) :
 ∀ (t : Tm) (S : List Int), (∀ x ∈ S, V x) → (∀ n ∈ occT t, V n) → patT one' (S.map φ) (renT φ t) = ((patT one S t).1, (patT one S t).2.map φ) ∧ ∀ x ∈ (patT one S t).2, V x
 | .mk k n s a, S, hS, ht => by
   by_cases k1 : k = 1
   ·have hn : V n := ht n (by simp [occT, k1])
    have hr : renT φ (.mk k n s a) = .mk k (φ n) s (renL φ a) := by simp [renT, k1]
    rw [hr]; unfold patT; rw [if_pos k1, if_pos k1, h1 n hn, place_map hφ S n hS hn]
    by_cases ho : one n = true
    ·rw [if_pos ho, if_pos ho]; exact ⟨rfl, hS⟩
    ·rw [if_neg ho, if_neg ho]
     cases place S n with
     | some p => exact ⟨rfl, hS⟩
     | none =>
       refine ⟨by simp, fun x hx => ?_⟩; rcases List.mem_append.1 hx with hx | hx
       ·exact hS x hx
       ·rw [List.mem_singleton.1 hx]; exact hn
   ·have hr : renT φ (.mk k n s a) = .mk k n s (renL φ a) := by simp [renT, k1]
    have ho : ∀ m ∈ occL a, V m := fun m hm => ht m (by simp [occT, k1, hm])
    have hl := patL_ren hφ h1 a S hS ho
    have hlen : (renL φ a).length = a.length := by
     have : ∀ l : List Tm, (renL φ l).length = l.length := by
      intro l
      induction l with
      | nil => simp [renL]
      | cons t l ih => simp [renL, ih]
     exact this a
    rw [hr]; unfold patT; rw [if_neg k1, if_neg k1]
    by_cases k2 : k = 2
    ·rw [if_pos k2, if_pos k2]; exact ⟨rfl, hS⟩
    rw [if_neg k2, if_neg k2]
    by_cases k3 : k = 3
    ·rw [if_pos k3, if_pos k3]; exact ⟨rfl, hS⟩
    rw [if_neg k3, if_neg k3, hl.1, hlen]; exact ⟨rfl, hl.2⟩
theorem patL_ren {φ : Int → Int} {V : Int → Prop} {one one' : Int → Bool} (hφ : ∀ x y, V x → V y → φ x = φ y → x = y) (h1 : ∀ n, V n → one' (φ n) = one n) :
 ∀ (l : List Tm) (S : List Int), (∀ x ∈ S, V x) → (∀ n ∈ occL l, V n) → patL one' (S.map φ) (renL φ l) = ((patL one S l).1, (patL one S l).2.map φ) ∧ ∀ x ∈ (patL one S l).2, V x
 | [], S, hS, _ => by simp only [renL, patL]; exact ⟨trivial, hS⟩
 | t :: l, S, hS, hl => by
   have ht := patT_ren hφ h1 t S hS fun n hn => hl n (by simp [occL, hn])
   have hr := patL_ren hφ h1 l (patT one S t).2 ht.2 fun n hn => hl n (by simp [occL, hn])
   simp only [renL, patL, ht.1, hr.1]; exact ⟨trivial, hr.2⟩
end
end Go.Proofs.Ytcbijikalfodnaa.Tms
namespace Go.Proofs.Ytcbijikalfodnaa.Maps
open Go Go.RowKit Go.Instr
def mget : List (Int × Int) → Int → Option Int
 | [], _ => none
 | p :: l, n => if n = p.1 then some p.2 else mget l n
def mset (n v : Int) : List (Int × Int) → List (Int × Int)
 | [] => [(n, v)]
 | p :: l => if n = p.1 then (p.1, v) :: l else p :: mset n v l
def kvE (e : MapEntry) : Value × Value := (e.key, e.val)
def kvI (p : Int × Int) : Value × Value := (.int .i64 p.1, .int .i64 p.2)
def IMap (w : World) (b : Nat) (l : List (Int × Int)) : Prop := ∃ es c, w.heap[b]? = some (.map es c) ∧ es.toList.map kvE = l.map kvI
theorem mget_mset_same (n v : Int) : ∀ l, mget (mset n v l) n = some v
 | [] => by simp [mset, mget]
 | p :: l => by
   unfold mset
   by_cases h : n = p.1
   ·rw [if_pos h]; simp [mget, h]
   ·rw [if_neg h]; simp [mget, h, mget_mset_same n v l]
theorem mget_mset_other (n v m : Int) (hm : m ≠ n) : ∀ l, mget (mset n v l) m = mget l m
 | [] => by simp [mset, mget, hm]
 | p :: l => by
   unfold mset
   by_cases h : n = p.1
   ·rw [if_pos h]; simp only [mget]; rw [if_neg fun e => hm (e.trans h.symm), if_neg fun e => hm (e.trans h.symm)]
   ·rw [if_neg h]; simp only [mget]; by_cases h2 : m = p.1
    ·rw [if_pos h2, if_pos h2]
    ·rw [if_neg h2, if_neg h2, mget_mset_other n v m hm l]
theorem mset_new {n v : Int} : ∀ {l}, mget l n = none → mset n v l = l ++ [(n, v)]
 | [], _ => rfl
 | p :: l, h => by
   simp only [mget] at h
   split at h
   ·cases h
   ·rename_i hne
    simp only [mset, if_neg hne, List.cons_append]; rw [mset_new h]
theorem find_list (k : IntKind) (n : Int) : ∀ (es : List MapEntry) (l : List (Int × Int)) (j : Nat), es.map kvE = l.map kvI →
 (mget l n = none ∧ findNow (.int k) (.int .i64 n) es j = some none) ∨
 ∃ v i, mget l n = some v ∧ findNow (.int k) (.int .i64 n) es j = some (some (j + i, .int .i64 v)) ∧ (es[i]?).map (·.key) = some (.int .i64 n) ∧ ∀ x, (es.modify i fun e => { e with key := .int .i64 n, val := .int .i64 x }).map kvE = (mset n x l).map kvI
 | [], [], j, _ => .inl ⟨rfl, rfl⟩
 | [], _ :: _, _, h => by simp at h
 | _ :: _, [], _, h => by simp at h
 | e :: es, p :: l, j, h => by
   simp only [List.map_cons, List.cons.injEq] at h; obtain ⟨h1, h2⟩ := h; simp only [kvE, kvI, Prod.mk.injEq] at h1; obtain ⟨hk, hv⟩ := h1
   by_cases e1 : n = p.1
   ·right
    refine ⟨p.2, 0, by simp [mget, e1], ?_, by simp [hk, e1], fun x => ?_⟩
    ·simp [findNow, sameNow, hk, hv, e1]
    ·simp only [List.modify_zero_cons, List.map_cons, mset, if_pos e1, h2]
     simp [kvE, kvI, e1]
   ·have hb : (n == p.1) = false := by simpa using e1
    rcases find_list k n es l (j + 1) h2 with ⟨g1, g2⟩ | ⟨v, i, g1, g2, g3, g4⟩
    ·left
     refine ⟨by simp [mget, e1, g1], ?_⟩; simp only [findNow, sameNow, hk, if_true, hb]; exact g2
    ·right
     refine ⟨v, i + 1, by simp [mget, e1, g1], ?_, by simpa using g3, fun x => ?_⟩
     ·simp only [findNow, sameNow, hk, if_true, hb]
      rw [g2, show j + 1 + i = j + (i + 1) by omega]
     ·simp only [List.modify_succ_cons, List.map_cons, mset, if_neg e1, g4 x]
      simp [kvE, kvI, hk, hv]
theorem IMap.below {w w' : World} {b : Nat} {l : List (Int × Int)} (h : IMap w b l) (hk : w'.heap[b]? = w.heap[b]?) : IMap w' b l := by
 obtain ⟨es, c, h1, h2⟩ := h; exact ⟨es, c, hk.trans h1, h2⟩
theorem IMap.lt {w : World} {b : Nat} {l : List (Int × Int)} (h : IMap w b l) : b < w.heap.size := by
 obtain ⟨es, c, h1, h2⟩ := h; exact (Array.getElem?_eq_some_iff.1 h1).1
theorem IMap.made (w : World) : IMap (w.alloc (.map #[] 0)) w.heap.size [] := ⟨#[], 0, heap_alloc_new w _, rfl⟩
theorem wpList_imap_made {P : Program} {w : World} {ops : Array Oper} {rest : List Oper} {o : Oper} {a : Act} {Q : Exit → Act → World → Prop} (hgd : o.guard = none) (t : TypeId) (ho : o.op = .makeMap t none)
 (hK : wpList P ops Q rest (a.put o.dst (.map (some w.heap.size))) (w.alloc (.map #[] 0))) : wpList P ops Q (o :: rest) a w := by
 refine wpList_plain hgd fun K hK' => ?_
 have hrun := run_makeMap (P := P) t w; unfold Oper.wp
 simp [execOp, ho, hrun, Result.andThen]
 exact hK' _ _ hK
theorem wpList_imap_ok {P : Program} {w : World} {ops : Array Oper} {rest : List Oper} {o : Oper} {a : Act} {Q : Exit → Act → World → Prop} (hgd : o.guard = none) (t : TypeId) (m k : Operand) (ho : o.op = .lookup t m k true) (kt et : TypeId) (kk : IntKind)
 (h : P.underlying t = some (.map kt et)) (hk : P.underlying kt = some (.int kk)) (b : Nat) (l : List (Int × Int)) (hm : a.eval m = .map (some b)) (hb : IMap w b l) (n : Int) (hn : a.eval k = .int .i64 n) (hz : ∀ w, (zeroValue et).run P w = .ok (.int .i64 0) w)
 (hK : wpList P ops Q rest (a.put o.dst (.tuple #[.int .i64 ((mget l n).getD 0), .bool (mget l n).isSome])) w) : wpList P ops Q (o :: rest) a w := by
 obtain ⟨es, c, h1, h2⟩ := hb; rcases find_list kk n es.toList l 0 h2 with ⟨g1, g2⟩ | ⟨v, i, g1, g2, -, -⟩
 ·refine wpList_lookup_now hgd t m k ho kt et _ h hk rfl b es c hm h1 none (by rw [hn]; exact g2) (.int .i64 0) hz ?_
  rw [g1] at hK; exact hK
 ·refine wpList_lookup_now hgd t m k ho kt et _ h hk rfl b es c hm h1 (some (0 + i, .int .i64 v)) (by rw [hn]; exact g2) (.int .i64 0) hz ?_
  rw [g1] at hK; exact hK
theorem run_lookup_one {P : Program} (w : World) (t kt et : TypeId) (d : TypeDesc) (h : P.underlying t = some (.map kt et)) (hk : P.underlying kt = some d) (hp : plainKey d = true) (b : Nat) (key : Value) (es : Array MapEntry) (c : Nat)
 (hb : w.heap[b]? = some (.map es c)) (r : Option (Nat × Value)) (hf : findNow d key es.toList 0 = some r) (z : Value) (hz : ∀ w, (zeroValue et).run P w = .ok z w) :
 (Instr.lookup t (.map (some b)) key false).run P w = .ok ((r.map (·.2)).getD z) w := by
 unfold Instr.lookup; simp only [Sem.run_bind, run_underlying h, Result.andThen_ok]; cases r with
 | none => simp [getObj, Sem.run, hb, run_checkKey w _ 9999 kt d hk hp key, run_findKey w kt d hk key es.toList none hf, hz]
 | some r => simp [getObj, Sem.run, hb, run_checkKey w _ 9999 kt d hk hp key, run_findKey w kt d hk key es.toList (some r) hf]
theorem wpList_lookup_one {P : Program} {w : World} {ops : Array Oper} {rest : List Oper} {o : Oper} {a : Act} {Q : Exit → Act → World → Prop} (hgd : o.guard = none) (t : TypeId) (m k : Operand) (ho : o.op = .lookup t m k false) (kt et : TypeId) (d : TypeDesc)
 (h : P.underlying t = some (.map kt et)) (hk : P.underlying kt = some d) (hp : plainKey d = true) (b : Nat) (es : Array MapEntry) (c : Nat) (hm : a.eval m = .map (some b)) (hb : w.heap[b]? = some (.map es c)) (r : Option (Nat × Value))
 (hf : findNow d (a.eval k) es.toList 0 = some r) (z : Value) (hz : ∀ w, (zeroValue et).run P w = .ok z w)
 (hK : wpList P ops Q rest (a.put o.dst ((r.map (·.2)).getD z)) w) : wpList P ops Q (o :: rest) a w := by
 refine wpList_plain hgd fun K hK' => ?_
 have hrun := run_lookup_one (P := P) w t kt et d h hk hp b (a.eval k) es c hb r hf z hz; unfold Oper.wp
 simp [execOp, ho, hm, hrun, Result.andThen]
 exact hK' _ _ hK
theorem wpList_imap_one {P : Program} {w : World} {ops : Array Oper} {rest : List Oper} {o : Oper} {a : Act} {Q : Exit → Act → World → Prop} (hgd : o.guard = none) (t : TypeId) (m k : Operand) (ho : o.op = .lookup t m k false) (kt et : TypeId) (kk : IntKind)
 (h : P.underlying t = some (.map kt et)) (hk : P.underlying kt = some (.int kk)) (b : Nat) (l : List (Int × Int)) (hm : a.eval m = .map (some b)) (hb : IMap w b l) (n : Int) (hn : a.eval k = .int .i64 n) (hz : ∀ w, (zeroValue et).run P w = .ok (.int .i64 0) w)
 (hK : wpList P ops Q rest (a.put o.dst (.int .i64 ((mget l n).getD 0))) w) : wpList P ops Q (o :: rest) a w := by
 obtain ⟨es, c, h1, h2⟩ := hb; rcases find_list kk n es.toList l 0 h2 with ⟨g1, g2⟩ | ⟨v, i, g1, g2, -, -⟩
 ·refine wpList_lookup_one hgd t m k ho kt et _ h hk rfl b es c hm h1 none (by rw [hn]; exact g2) (.int .i64 0) hz ?_
  rw [g1] at hK; exact hK
 ·refine wpList_lookup_one hgd t m k ho kt et _ h hk rfl b es c hm h1 (some (0 + i, .int .i64 v)) (by rw [hn]; exact g2) (.int .i64 0) hz ?_
  rw [g1] at hK; exact hK
theorem run_insert_old {P : Program} (w : World) (t kt et : TypeId) (kk : IntKind) (h : P.underlying t = some (.map kt et)) (hk : P.underlying kt = some (.int kk)) (b : Nat) (n : Int) (val v : Value) (i : Nat) (es : Array MapEntry) (c : Nat)
 (hb : w.heap[b]? = some (.map es c)) (hf : findNow (.int kk) (.int .i64 n) es.toList 0 = some (some (i, v))) (hi : (es[i]?).map (·.key) = some (.int .i64 n)) :
 (Instr.mapUpdate t (.map (some b)) (.int .i64 n) val).run P w = .ok () (World.setObj' w b (.map (es.modify i fun e => { e with key := .int .i64 n, val := val }) c)) := by
 unfold Instr.mapUpdate; simp only [Sem.run_bind, run_underlying h, Result.andThen_ok]; have hs : sameBits 10000 (.int .i64 n) (.int .i64 n) = true := by simp [sameBits]
 simp [getObj, Sem.run, hb, run_checkKey w false 9999 kt _ hk rfl, run_findKey w kt _ hk (.int .i64 n) es.toList (some (i, v)) hf, setObj, World.setObj', hi, keyThatStays, hs]
theorem wpList_imap_set {P : Program} {w : World} {ops : Array Oper} {rest : List Oper} {o : Oper} {a : Act} {Q : Exit → Act → World → Prop} (hgd : o.guard = none) (t : TypeId) (m k x : Operand) (ho : o.op = .mapUpdate t m k x) (kt et : TypeId) (kk : IntKind)
 (h : P.underlying t = some (.map kt et)) (hk : P.underlying kt = some (.int kk)) (b : Nat) (l : List (Int × Int)) (hm : a.eval m = .map (some b)) (hb : IMap w b l) (n : Int) (hn : a.eval k = .int .i64 n) (v : Int) (hv : a.eval x = .int .i64 v)
 (hK : ∀ w', IMap w' b (mset n v l) → w.grownBy w' (some b) → wpList P ops Q rest (a.put o.dst undef) w') : wpList P ops Q (o :: rest) a w := by
 obtain ⟨es, c, h1, h2⟩ := hb; have hlt := (Array.getElem?_eq_some_iff.1 h1).1; refine wpList_plain hgd fun K hK' => ?_
 rcases find_list kk n es.toList l 0 h2 with ⟨g1, g2⟩ | ⟨v0, i, g1, g2, g3, g4⟩
 ·have hrun := run_insert_new (P := P) w t kt et _ h hk rfl b (.int .i64 n) (.int .i64 v) es c h1 g2
  unfold Oper.wp
  simp [execOp, ho, hm, hn, hv, hrun, Result.andThen]
  refine hK' _ _ (hK _ ⟨_, _, setObj'_at _ _ _ hlt, ?_⟩ (setObj'_grown _ _ _)); rw [mset_new g1]
  simp [h2, kvE, kvI]
 ·rw [Nat.zero_add] at g2
  have hrun := run_insert_old (P := P) w t kt et kk h hk b n (.int .i64 v) _ i es c h1 g2 (by simpa using g3); unfold Oper.wp
  simp [execOp, ho, hm, hn, hv, hrun, Result.andThen]
  refine hK' _ _ (hK _ ⟨_, _, setObj'_at _ _ _ hlt, ?_⟩ (setObj'_grown _ _ _)); rw [Array.toList_modify]; exact g4 v
theorem wpList_imap_len {P : Program} {w : World} {ops : Array Oper} {rest : List Oper} {o : Oper} {a : Act} {Q : Exit → Act → World → Prop} (hgd : o.guard = none) (m : Operand) (t : TypeId) (ho : o.op = .call { callee := .builtin .len, args := #[m], argTypes := #[t] })
 (kt et : TypeId) (h : P.underlying t = some (.map kt et)) (b : Nat) (l : List (Int × Int)) (hm : a.eval m = .map (some b)) (hb : IMap w b l)
 (hK : wpList P ops Q rest (a.put o.dst (.int .i64 l.length)) w) : wpList P ops Q (o :: rest) a w := by
 obtain ⟨es, c, h1, h2⟩ := hb; have hsz : es.size = l.length := by have := congrArg List.length h2; simpa using this
 refine wpList_plain hgd fun K hK' => ?_
 have hrun : (Builtin.len_ #[t] o.type #[.map (some b)]).run P w = .ok (.int .i64 l.length) w := by
  unfold Builtin.len_
  simp [Sem.run_bind, run_underlying h, getObj, Sem.run, h1, hsz]
  rfl
 unfold Oper.wp
 simp [execOp, ho, resolve, invoke, builtin, hm, hrun, Result.andThen]
 exact hK' _ _ hK
end Go.Proofs.Ytcbijikalfodnaa.Maps
namespace Go.Proofs.Ytcbijikalfodnaa.Maps
open Go Go.RowKit Go.Instr Go.ChangeMaps
def IMapB (w : World) (b : Nat) (l : List (Int × Int)) : Prop := ∃ es c, w.heap[b]? = some (.map es c) ∧ es.toList.map kvE = l.map kvI ∧ (∀ x ∈ es.toList, x.born < c) ∧ (es.toList.map (·.born)).Nodup
theorem IMapB.imap {w : World} {b : Nat} {l : List (Int × Int)} (h : IMapB w b l) : IMap w b l := let ⟨es, c, h1, h2, _⟩ := h; ⟨es, c, h1, h2⟩
theorem IMapB.below {w w' : World} {b : Nat} {l : List (Int × Int)} (h : IMapB w b l) (hk : w'.heap[b]? = w.heap[b]?) : IMapB w' b l := let ⟨es, c, h1, h2⟩ := h; ⟨es, c, hk.trans h1, h2⟩
theorem IMapB.lt {w : World} {b : Nat} {l : List (Int × Int)} (h : IMapB w b l) : b < w.heap.size := h.imap.lt
theorem IMapB.made (w : World) : IMapB (w.alloc (.map #[] 0)) w.heap.size [] := ⟨#[], 0, heap_alloc_new w _, rfl, by simp, by simp⟩
theorem wpList_imapb_set {P : Program} {w : World} {ops : Array Oper} {rest : List Oper} {o : Oper} {a : Act} {Q : Exit → Act → World → Prop} (hgd : o.guard = none) (t : TypeId) (m k x : Operand) (ho : o.op = .mapUpdate t m k x) (kt et : TypeId) (kk : IntKind)
 (h : P.underlying t = some (.map kt et)) (hk : P.underlying kt = some (.int kk)) (b : Nat) (l : List (Int × Int)) (hm : a.eval m = .map (some b)) (hb : IMapB w b l) (n : Int) (hn : a.eval k = .int .i64 n) (v : Int) (hv : a.eval x = .int .i64 v)
 (hK : ∀ w', IMapB w' b (mset n v l) → w.grownBy w' (some b) → wpList P ops Q rest (a.put o.dst undef) w') : wpList P ops Q (o :: rest) a w := by
 obtain ⟨es, c, h1, h2, h3, h4⟩ := hb; have hlt := (Array.getElem?_eq_some_iff.1 h1).1; refine wpList_plain hgd fun K hK' => ?_
 rcases find_list kk n es.toList l 0 h2 with ⟨g1, g2⟩ | ⟨v0, i, g1, g2, g3, g4⟩
 ·have hrun := run_insert_new (P := P) w t kt et _ h hk rfl b (.int .i64 n) (.int .i64 v) es c h1 g2
  unfold Oper.wp
  simp [execOp, ho, hm, hn, hv, hrun, Result.andThen]
  refine hK' _ _ (hK _ ⟨_, _, setObj'_at _ _ _ hlt, ?_, ?_, ?_⟩ (setObj'_grown _ _ _))
  ·rw [mset_new g1]
   simp [h2, kvE, kvI]
  ·intro x hx
   simp only [Array.toList_push, List.mem_append, List.mem_singleton] at hx; rcases hx with hx | rfl
   ·have := h3 x hx; omega
   ·simp
  ·simp only [Array.toList_push, List.map_append, List.map_cons, List.map_nil]
   refine List.nodup_append.2 ⟨h4, by simp, fun x hx y hy => ?_⟩; simp only [List.mem_map] at hx; obtain ⟨z, hz, rfl⟩ := hx; have := h3 z hz; simp only [List.mem_singleton] at hy; omega
 ·rw [Nat.zero_add] at g2
  have hrun := run_insert_old (P := P) w t kt et kk h hk b n (.int .i64 v) _ i es c h1 g2 (by simpa using g3); unfold Oper.wp
  simp [execOp, ho, hm, hn, hv, hrun, Result.andThen]
  refine hK' _ _ (hK _ ⟨_, _, setObj'_at _ _ _ hlt, ?_, ?_, ?_⟩ (setObj'_grown _ _ _))
  ·rw [Array.toList_modify]
   exact g4 v
  ·rw [Array.toList_modify]
   intro x hx; obtain ⟨j, hj, rfl⟩ := List.mem_iff_getElem.1 hx; rw [List.getElem_modify]; have hj' : j < es.toList.length := by simpa using hj
   have := h3 _ (List.getElem_mem hj')
   split <;> exact this
  ·rw [Array.toList_modify]
   have : (es.toList.modify i fun e => { e with key := .int .i64 n, val := .int .i64 v }).map (·.born) = es.toList.map (·.born) := by
    apply List.ext_getElem (by simp)
    intro j h1 h2; simp only [List.getElem_map, List.getElem_modify]
    split <;> rfl
   rw [this]; exact h4
theorem wpList_imapb_clear {P : Program} {w : World} {ops : Array Oper} {rest : List Oper} {o : Oper} {a : Act} {Q : Exit → Act → World → Prop} (hgd : o.guard = none) (x : Operand) (t kt et : TypeId)
 (ho : o.op = .call { callee := .builtin .clear, args := #[x], argTypes := #[t] }) (h : P.underlying t = some (.map kt et)) (b : Nat) (l : List (Int × Int)) (hx : a.eval x = .map (some b)) (hb : IMapB w b l)
 (hK : ∀ w', IMapB w' b [] → w.grownBy w' (some b) → wpList P ops Q rest (a.put o.dst (.tuple #[])) w') : wpList P ops Q (o :: rest) a w := by
 obtain ⟨es, c, h1, h2, h3, h4⟩ := hb; have hlt := (Array.getElem?_eq_some_iff.1 h1).1; refine wpList_plain hgd fun K' hK' => ?_
 have hrun : (Builtin.clear_ #[t] o.type #[.map (some b)]).run P w = .ok (.tuple #[]) (World.setObj' w b (.map #[] c)) := by
  unfold Builtin.clear_; simp only [List.getElem?_toArray, List.getElem?_cons_zero, Sem.run_bind, run_underlying h, Result.andThen_ok]; rw [Array.getElem?_eq_getElem hlt] at h1; have h1 := Option.some.inj h1
  simp [getObj, Sem.run, setObj, World.setObj', hlt, h1]
 unfold Oper.wp execOp; simp only [ho, resolve, invoke, builtin, Sem.run_bind, Sem.run_pure, Result.andThen_ok, List.map_toArray, List.map_cons, List.map_nil, hx, hrun]; exact hK' _ _ (hK _ ⟨#[], c, setObj'_at _ _ _ hlt, rfl, by simp, by simp⟩ (setObj'_grown _ _ _))
def VMap (w : World) (v : Value) (l : List (Int × Int)) : Prop := (v = .map none ∧ l = []) ∨ ∃ b, v = .map (some b) ∧ IMapB w b l
theorem run_lookup_nil {P : Program} (w : World) (t kt et : TypeId) (d : TypeDesc) (h : P.underlying t = some (.map kt et)) (hk : P.underlying kt = some d) (hp : plainKey d = true) (key : Value) (hf : findNow d key [] 0 = some none) (z : Value) (hz : ∀ w, (zeroValue et).run P w = .ok z w) :
 (Instr.lookup t (.map none) key true).run P w = .ok (.tuple #[z, .bool false]) w := by
 unfold Instr.lookup; simp only [Sem.run_bind, run_underlying h, Result.andThen_ok]
 simp [run_checkKey w _ 9999 kt d hk hp key, run_findKey w kt d hk key [] none hf, hz]
theorem wpList_vmap_ok {P : Program} {w : World} {ops : Array Oper} {rest : List Oper} {o : Oper} {a : Act} {Q : Exit → Act → World → Prop} (hgd : o.guard = none) (t : TypeId) (m k : Operand) (ho : o.op = .lookup t m k true) (kt et : TypeId) (kk : IntKind)
 (h : P.underlying t = some (.map kt et)) (hk : P.underlying kt = some (.int kk)) (v : Value) (l : List (Int × Int)) (hm : a.eval m = v) (hb : VMap w v l) (n : Int) (hn : a.eval k = .int .i64 n) (hz : ∀ w, (zeroValue et).run P w = .ok (.int .i64 0) w)
 (hK : wpList P ops Q rest (a.put o.dst (.tuple #[.int .i64 ((mget l n).getD 0), .bool (mget l n).isSome])) w) : wpList P ops Q (o :: rest) a w := by
 rcases hb with ⟨rfl, rfl⟩ | ⟨b, rfl, hb⟩
 ·refine wpList_plain hgd fun K hK' => ?_
  have hrun := run_lookup_nil (P := P) w t kt et _ h hk rfl (a.eval k) rfl (.int .i64 0) hz; unfold Oper.wp
  simp [execOp, ho, hm, hrun, Result.andThen]
  exact hK' _ _ hK
 ·exact wpList_imap_ok hgd t m k ho kt et kk h hk b l hm hb.imap n hn hz hK
theorem VMap.below {w w' : World} {v : Value} {l : List (Int × Int)} (h : VMap w v l) (hk : ∀ b, v = .map (some b) → w'.heap[b]? = w.heap[b]?) : VMap w' v l := by
 rcases h with h | ⟨b, rfl, h⟩
 ·exact .inl h
 ·exact .inr ⟨b, rfl, h.below (hk b rfl)⟩
/-! ### The range -/
def ItAt (w : World) (r b : Nat) (rest : List (Int × Int)) : Prop := ∃ (es : Array MapEntry) (c : Nat) (seen : Array Nat), w.heap[r]? = some (.mapIter (some b) c seen c) ∧ w.heap[b]? = some (.map es c) ∧ (∀ x ∈ es.toList, x.born < c) ∧ (es.toList.map (·.born)).Nodup ∧ (leftOf es seen).toList.map kvE = rest.map kvI
def ItNow (w : World) (r b : Nat) (p : Int × Int) (rest : List (Int × Int)) : Prop :=
 ∃ (es : Array MapEntry) (c : Nat) (seen : Array Nat) (e : MapEntry), w.heap[r]? = some (.mapIter (some b) c (seen.push e.born) c) ∧ w.heap[b]? = some (.map es c) ∧ (∀ x ∈ es.toList, x.born < c) ∧ (es.toList.map (·.born)).Nodup ∧ (leftOf es (seen.push e.born)).toList.map kvE = rest.map kvI ∧ e ∈ es.toList ∧ kvE e = kvI p
theorem ItNow.at {w : World} {r b : Nat} {p : Int × Int} {rest : List (Int × Int)} (h : ItNow w r b p rest) : ItAt w r b rest := let ⟨es, c, seen, e, h1, h2, h3, h4, h5, _⟩ := h; ⟨es, c, seen.push e.born, h1, h2, h3, h4, h5⟩
theorem ItAt.keep {w w' : World} {r b : Nat} {rest : List (Int × Int)} (h : ItAt w r b rest) (h1 : w'.heap[r]? = w.heap[r]?) (h2 : w'.heap[b]? = w.heap[b]?) : ItAt w' r b rest := let ⟨es, c, seen, g1, g2, g⟩ := h; ⟨es, c, seen, h1.trans g1, h2.trans g2, g⟩
theorem ItNow.keep {w w' : World} {r b : Nat} {p : Int × Int} {rest : List (Int × Int)} (h : ItNow w r b p rest) (h1 : w'.heap[r]? = w.heap[r]?) (h2 : w'.heap[b]? = w.heap[b]?) : ItNow w' r b p rest := let ⟨es, c, seen, e, g1, g2, g⟩ := h; ⟨es, c, seen, e, h1.trans g1, h2.trans g2, g⟩
theorem ItAt.lt {w : World} {r b : Nat} {rest : List (Int × Int)} (h : ItAt w r b rest) : r < w.heap.size ∧ b < w.heap.size ∧ r ≠ b := by
 obtain ⟨es, c, seen, g1, g2, -⟩ := h; refine ⟨(Array.getElem?_eq_some_iff.1 g1).1, (Array.getElem?_eq_some_iff.1 g2).1, fun e => ?_⟩; rw [e, g2] at g1
 simp at g1
theorem left_all (es : Array MapEntry) : leftOf es #[] = es := by simp [leftOf]
theorem wpList_it_range {P : Program} {w : World} {ops : Array Oper} {rest : List Oper} {o : Oper} {a : Act} {Q : Exit → Act → World → Prop} (hgd : o.guard = none) (t kt et : TypeId) (m : Operand) (ho : o.op = .range t m) (h : P.underlying t = some (.map kt et)) (b : Nat) (l : List (Int × Int))
 (hm : a.eval m = .map (some b)) (hb : IMapB w b l) (hK : ∀ w', ItAt w' w.heap.size b l → Below w.heap.size w w' → wpList P ops Q rest (a.put o.dst (.pointer (some ⟨w.heap.size, 0, none⟩))) w') : wpList P ops Q (o :: rest) a w := by
 obtain ⟨es, c, h1, h2, h3, h4⟩ := hb; refine wpList_plain hgd fun K hK' => ?_
 have hrun := run_range_map (P := P) w t kt et b es c h h1; unfold Oper.wp
 simp [execOp, ho, hm, hrun, Result.andThen]
 refine hK' _ _ (hK _ ⟨es, c, #[], heap_alloc_new w _, ?_, h3, h4, by rw [left_all]; exact h2⟩ ((Below.refl _ _).alloc (Nat.le_refl _) _)); rw [heap_alloc_old w _ (Array.getElem?_eq_some_iff.1 h1).1]; exact h1
theorem perm_strike {e : MapEntry} : ∀ {l : List MapEntry}, (l.map (·.born)).Nodup → e ∈ l → l.Perm (e :: l.filter fun x => !(x.born == e.born))
 | [], _, h => by cases h
 | x :: l, hn, h => by
   simp only [List.map_cons, List.nodup_cons] at hn; rcases List.mem_cons.1 h with rfl | h
   ·have hf : l.filter (fun x => !(x.born == e.born)) = l := List.filter_eq_self.2 fun y hy => by
     simp only [Bool.not_eq_true', beq_eq_false_iff_ne, ne_eq]; intro e'; exact hn.1 (List.mem_map.2 ⟨y, hy, e'⟩)
    simp [hf]
   ·have hne : ¬ x.born = e.born := fun e' => hn.1 (List.mem_map.2 ⟨e, h, e'.symm⟩)
    have hx : (!(x.born == e.born)) = true := by simpa using hne
    rw [List.filter_cons_of_pos (by exact hx)]; exact ((perm_strike hn.2 h).cons x).trans (List.Perm.swap _ _ _)
theorem left_push (es : Array MapEntry) (seen : Array Nat) (n : Nat) : (leftOf es (seen.push n)).toList = (leftOf es seen).toList.filter fun x => !(x.born == n) := by
 simp only [leftOf, Array.toList_filter, List.filter_filter]
 apply List.filter_congr
 intro x _; simp only [Array.contains_push]; cases h1 : seen.contains x.born <;> cases h2 : (x.born == n) <;> simp_all
theorem kv_of {L : List MapEntry} {l : List (Int × Int)} (h : L.map kvE = l.map kvI) {e : MapEntry} (he : e ∈ L) : ∃ p, p ∈ l ∧ kvE e = kvI p := by
 have : kvE e ∈ l.map kvI := by rw [← h]; exact List.mem_map.2 ⟨e, he, rfl⟩
 obtain ⟨p, hp, e'⟩ := List.mem_map.1 this; exact ⟨p, hp, e'.symm⟩
theorem kv_all : ∀ {L : List MapEntry} {l : List (Int × Int)}, L.map kvE = l.map kvI → ∀ {M : List MapEntry}, (∀ x ∈ M, x ∈ L) → ∃ m : List (Int × Int), M.map kvE = m.map kvI
 | L, l, h, [], _ => ⟨[], rfl⟩
 | L, l, h, x :: M, hM => by
   obtain ⟨m, hm⟩ := kv_all h (M := M) fun y hy => hM y (List.mem_cons_of_mem _ hy)
   obtain ⟨p, -, hp⟩ := kv_of h (hM x (List.mem_cons_self ..)); exact ⟨p :: m, by simp [hm, hp]⟩
theorem perm_kv {l m : List (Int × Int)} (h : (l.map kvI).Perm (m.map kvI)) : l.Perm m := by
 have hg : ∀ l : List (Int × Int), (l.map kvI).map (fun v => match v with | (.int _ a, .int _ b) => (a, b) | _ => (0, 0)) = l := fun l => by
  rw [List.map_map]; simp [kvI, Function.comp_def]
 have := h.map (fun v : Value × Value => match v with | (.int _ a, .int _ b) => (a, b) | _ => ((0, 0) : Int × Int))
 rwa [hg, hg] at this
theorem run_it_next {P : Program} {w : World} (ty : TypeId) (r b : Nat) (l : List (Int × Int)) (hb : ItAt w r b l) : (l = [] ∧ (Instr.next (.pointer (some ⟨r, 0, none⟩)) false ty).run P w = .ok (.tuple #[.bool false]) w) ∨
 ∃ p l' w', l.Perm (p :: l') ∧ ItNow w' r b p l' ∧ w.grownBy w' (some r) ∧ (Instr.next (.pointer (some ⟨r, 0, none⟩)) false ty).run P w = .ok (.tuple #[.bool true, .int .i64 p.1, .int .i64 p.2]) w' := by
 obtain ⟨es, c, seen, h1, h2, h3, h4, h5⟩ := hb; rcases run_next_at (P := P) w ty r b c c seen es c h1 h2 h3 (Nat.le_refl _) with ⟨g1, g2⟩ | ⟨e, he, w1, hw1, g⟩
 ·have hl : l = [] := by
   have : (leftOf es seen).toList = [] := List.eq_nil_of_length_eq_zero (by simpa using g1); rw [this] at h5
   simpa using h5.symm
  exact .inl ⟨hl, g2⟩
 ·obtain ⟨p, -, hp⟩ := kv_of h5 he
  have hes : e ∈ es.toList := by simp only [leftOf, Array.toList_filter, List.mem_filter] at he; exact he.1
  have hnl : ((leftOf es seen).toList.map (·.born)).Nodup := by
   simp only [leftOf, Array.toList_filter]; exact h4.sublist (List.Sublist.map _ List.filter_sublist)
  have hper := perm_strike hnl he; rw [← left_push] at hper; obtain ⟨l', hl'⟩ := kv_all h5 (M := (leftOf es (seen.push e.born)).toList) fun y hy => hper.symm.mem_iff.1 (List.mem_cons_of_mem _ hy)
  have hpl : l.Perm (p :: l') := by
   have h6 := hper.map kvE; rw [h5, List.map_cons, hl', hp] at h6; exact perm_kv (m := p :: l') h6
  have hke : e.key = .int .i64 p.1 ∧ e.val = .int .i64 p.2 := by simpa [kvE, kvI] using hp
  rw [hke.1, hke.2] at g; have hw1h : w1.heap = w.heap := by rcases hw1 with rfl | rfl <;> rfl
  have hrl := (Array.getElem?_eq_some_iff.1 h1).1; have hrb : r ≠ b := fun e => by rw [e, h2] at h1; simp at h1
  have hoth : ∀ k, k ≠ r → (setBlock w1 r (.mapIter (some b) c (seen.push e.born) c)).heap[k]? = w.heap[k]? := fun k hk => by
   show (w1.heap.setIfInBounds r _)[k]? = _; rw [hw1h, Array.getElem?_setIfInBounds, if_neg fun e => hk e.symm]
  refine .inr ⟨p, l', _, hpl, ⟨es, c, seen, e, ?_, (hoth b fun e => hrb e.symm).trans h2, h3, h4, hl', hes, hp⟩, ⟨?_, ?_, ?_, ?_, fun k _ hk => hoth k fun e => hk (by rw [e])⟩, g⟩
  ·show (w1.heap.setIfInBounds r _)[r]? = _
   rw [hw1h]
   simp [hrl]
  ·rcases hw1 with rfl | rfl <;> rfl
  ·rcases hw1 with rfl | rfl <;> rfl
  ·rcases hw1 with rfl | rfl <;> rfl
  ·show w.heap.size ≤ (w1.heap.setIfInBounds r _).size
   rw [hw1h]; simp
theorem run_it_entry {P : Program} {w : World} (r b : Nat) (p : Int × Int) (l : List (Int × Int)) (hb : ItNow w r b p l) : (Instr.entry (.pointer (some ⟨r, 0, none⟩))).run P w = .ok (.tuple #[.int .i64 p.1, .int .i64 p.2]) w := by
 obtain ⟨es, c, seen, e, h1, h2, h3, h4, h5, h6, h7⟩ := hb; have hrun := run_entry_at (P := P) w r b c seen es c e h1 h2 h6 h4; have hke : e.key = .int .i64 p.1 ∧ e.val = .int .i64 p.2 := by simpa [kvE, kvI] using h7
 rw [hke.1, hke.2] at hrun; exact hrun
end Go.Proofs.Ytcbijikalfodnaa.Maps
