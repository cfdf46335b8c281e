/-
  Layer texts, glued and made small.
-/
import Derived.Test.YtcbijikalfodnaaG15
set_option linter.unusedVariables false
set_option linter.unusedSimpArgs false
set_option maxRecDepth 100000
set_option maxHeartbeats 200000
namespace Go.Proofs.Ytcbijikalfodnaa.Tms
open Go Go.RowKit Go.Proofs.Ytcbijikalfodnaa.Reg Go.Proofs.Ytcbijikalfodnaa.Rws Go.Proofs.Ytcbijikalfodnaa.Cod Go.Proofs.Ytcbijikalfodnaa.Maps
theorem renL_len (φ : Int → Int) : ∀ l : List Tm, (renL φ l).length = l.length
 | [] => by simp [renL]
 | t :: l => by simp [renL, renL_len φ l]
end Go.Proofs.Ytcbijikalfodnaa.Tms
namespace Go.Proofs.Ytcbijikalfodnaa.Tms
open Go Go.RowKit Go.Proofs.Ytcbijikalfodnaa.Cod
mutual
theorem occT_ren (φ : Int → Int) : ∀ t : Tm, occT (renT φ t) = (occT t).map φ
 | .mk k n s a => by
   have h := occL_ren φ a
   by_cases k1 : k = 1
   ·simp [renT, occT, k1, h]
   ·simp [renT, occT, k1, h]
theorem occL_ren (φ : Int → Int) : ∀ l : List Tm, occL (renL φ l) = (occL l).map φ
 | [] => by simp [renL, occL]
 | t :: l => by simp [renL, occL, occT_ren φ t, occL_ren φ l]
end
mutual
theorem occT_ge : ∀ t : Tm, mayT t = true → ∀ n ∈ occT t, 0 ≤ n
 | .mk k n s a, h, m, hm => by
   simp only [mayT, Bool.and_eq_true] at h
   by_cases k1 : k = 1
   ·subst k1
    simp only [occT, if_true, List.mem_cons] at hm; rcases hm with rfl | hm
    ·have := h.1; simp only [mayB, if_true, Bool.and_eq_true] at this; simpa using this.1
    ·exact occL_ge a h.2 m hm
   ·simp only [occT, if_neg k1] at hm
    exact occL_ge a h.2 m hm
theorem occL_ge : ∀ l : List Tm, mayTL l = true → ∀ n ∈ occL l, 0 ≤ n
 | [], _, m, hm => by simp [occL] at hm
 | t :: l, h, m, hm => by
   simp only [mayTL, Bool.and_eq_true] at h; simp only [occL, List.mem_append] at hm; rcases hm with hm | hm
   ·exact occT_ge t h.1 m hm
   ·exact occL_ge l h.2 m hm
end
mutual
theorem mayT_ren (φ : Int → Int) (hφ : ∀ n, 0 ≤ n → 0 ≤ φ n) : ∀ t : Tm, mayT t = true → mayT (renT φ t) = true
 | .mk k n s a, h => by
   simp only [mayT, Bool.and_eq_true] at h; have ha := mayTL_ren φ hφ a h.2; simp only [renT, mayT, Bool.and_eq_true, renL_len]; refine ⟨?_, ha⟩
   by_cases k1 : k = 1
   ·subst k1
    have := h.1; simp only [mayB, if_true, Bool.and_eq_true] at this ⊢; exact ⟨by simpa using hφ n (by simpa using this.1), this.2⟩
   ·simp only [if_neg k1]; exact h.1
theorem mayTL_ren (φ : Int → Int) (hφ : ∀ n, 0 ≤ n → 0 ≤ φ n) : ∀ l : List Tm, mayTL l = true → mayTL (renL φ l) = true
 | [], _ => by simp [renL, mayTL]
 | t :: l, h => by
   simp only [mayTL, Bool.and_eq_true] at h; simp only [renL, mayTL, Bool.and_eq_true]; exact ⟨mayT_ren φ hφ t h.1, mayTL_ren φ hφ l h.2⟩
end
theorem bytes_empty {s : ByteArray} (h : s.toList.isEmpty = true) : s = ⟨#[]⟩ := by
 rw [ByteArray.toList_eq] at h; obtain ⟨⟨l⟩⟩ := s; cases l with
 | nil => rfl
 | cons x l => simp at h
theorem may_form {t : Tm} (h : mayT t = true) : (∃ n, 0 ≤ n ∧ t = varT n) ∨ (∃ n, t = intT n) ∨ (∃ s, s.size ≤ 1000 ∧ t = atomT s) ∨ ∃ s a, s.size ≤ 1000 ∧ 1 ≤ a.length ∧ a.length ≤ 255 ∧ mayTL a = true ∧ t = compT s a := by
 have hk := may_kind h; obtain ⟨k, n, s, a⟩ := t; simp only [Tm.k] at hk; simp only [mayT, Bool.and_eq_true] at h; obtain ⟨hb, ha⟩ := h; rcases hk with rfl | rfl | rfl | rfl
 ·left
  simp only [mayB, if_true, Bool.and_eq_true, decide_eq_true_eq] at hb; obtain ⟨h1, h2, h3⟩ := hb; exact ⟨n, h1, by rw [bytes_empty h2, List.eq_nil_of_length_eq_zero h3]; rfl⟩
 ·right; left
  simp only [mayB, Bool.and_eq_true, decide_eq_true_eq] at hb
  simp at hb
  obtain ⟨h2, h3⟩ := hb; refine ⟨n, ?_⟩; rw [h3, show s = ⟨#[]⟩ from bytes_empty (by simpa using h2)]; rfl
 ·right; right; left
  simp [mayB] at hb
  obtain ⟨h1, h2, h3⟩ := hb; exact ⟨s, h2, by rw [h1, h3]; rfl⟩
 ·right; right; right
  simp [mayB] at hb
  obtain ⟨h1, h2, h3, h4⟩ := hb; exact ⟨s, a, h2, by omega, h4, ha, by rw [h1]; rfl⟩
def stepS (one : Int → Bool) (S : List Int) (n : Int) : List Int := if one n = true then S else numL S n
theorem varP_slots (one : Int → Bool) (S : List Int) (n : Int) : (varP one S n).2 = stepS one S n := by
 unfold varP stepS numL
 split
 ·rfl
 ·cases place S n <;> rfl
theorem patT_var' (one : Int → Bool) (S : List Int) (n : Int) : patT one S (varT n) = varP one S n := patT_var rfl
theorem patT_int' (one : Int → Bool) (S : List Int) (n : Int) : patT one S (intT n) = ([⟨4, 0, n, ⟨#[]⟩⟩], S) := patT_int rfl
theorem patT_atom' (one : Int → Bool) (S : List Int) (s : ByteArray) : patT one S (atomT s) = ([⟨5, 0, 0, s⟩], S) := patT_atom rfl
theorem patT_comp' (one : Int → Bool) (S : List Int) (s : ByteArray) (a : List Tm) : patT one S (compT s a) = (⟨6, a.length, 0, s⟩ :: (patL one S a).1, (patL one S a).2) := patT_comp rfl
theorem mayTL_mem {l : List Tm} (h : mayTL l = true) : ∀ t ∈ l, mayT t = true := by
 induction l with
 | nil => simp
 | cons x l ih =>
   simp only [mayTL, Bool.and_eq_true] at h; intro t ht; rcases List.mem_cons.1 ht with rfl | ht
   ·exact h.1
   ·exact ih h.2 t ht
theorem may_ind {M : Tm → Prop} (hv : ∀ n, 0 ≤ n → M (varT n)) (hi : ∀ n, M (intT n)) (ha : ∀ s, s.size ≤ 1000 → M (atomT s))
 (hc : ∀ s a, s.size ≤ 1000 → 1 ≤ a.length → a.length ≤ 255 → mayTL a = true → (∀ t ∈ a, M t) → M (compT s a)) : ∀ t, mayT t = true → M t := by
 have key : ∀ N, ∀ t : Tm, t.size ≤ N → mayT t = true → M t := by
  intro N
  induction N with
  | zero => intro t h; have := size_pos t; omega
  | succ N ih =>
    intro t hN h; rcases may_form h with ⟨n, h1, rfl⟩ | ⟨n, rfl⟩ | ⟨s, h1, rfl⟩ | ⟨s, a, h1, h2, h3, h4, rfl⟩
    ·exact hv n h1
    ·exact hi n
    ·exact ha s h1
    ·refine hc s a h1 h2 h3 h4 fun t ht => ?_
     have hs : t.size ≤ sizeL a := by
      obtain ⟨i, hi, rfl⟩ := List.getElem_of_mem ht; exact size_mem hi
     simp only [compT, Tm.size] at hN; exact ih t (by omega) (mayTL_mem h4 t ht)
 exact fun t h => key t.size t (Nat.le_refl _) h
theorem patL_slots_of (one : Int → Bool) : ∀ (l : List Tm), (∀ t ∈ l, ∀ S, (patT one S t).2 = (occT t).foldl (stepS one) S ∧ (patT one S t).1.length = t.size) → ∀ S, (patL one S l).2 = (occL l).foldl (stepS one) S ∧ (patL one S l).1.length = sizeL l
 | [], _, S => by simp [patL, occL, sizeL]
 | t :: l, h, S => by
   obtain ⟨h1, h2⟩ := h t (by simp) S; obtain ⟨h3, h4⟩ := patL_slots_of one l (fun x hx => h x (by simp [hx])) (patT one S t).2; simp only [patL, occL, sizeL, List.foldl_append, List.length_append, h2, h4]; rw [h3, h1]; exact ⟨rfl, trivial⟩
theorem patT_slots (one : Int → Bool) : ∀ t, mayT t = true → ∀ S, (patT one S t).2 = (occT t).foldl (stepS one) S ∧ (patT one S t).1.length = t.size := by
 refine may_ind (fun n hn S => ?_) (fun n S => ?_) (fun s hs S => ?_) fun s a h1 h2 h3 h4 ih S => ?_
 ·rw [patT_var', varP_slots, varP_len]
  simp [varT, occT, occL, Tm.size, sizeL]
 ·rw [patT_int']; simp [intT, occT, occL, Tm.size, sizeL]
 ·rw [patT_atom']; simp [atomT, occT, occL, Tm.size, sizeL]
 ·obtain ⟨e1, e2⟩ := patL_slots_of one a ih S
  rw [patT_comp']; simp only [compT, occT, Tm.size, List.length_cons, e2, e1]; rw [if_neg (by decide)]; exact ⟨rfl, trivial⟩
theorem patL_slots (one : Int → Bool) {l : List Tm} (h : mayTL l = true) (S : List Int) : (patL one S l).2 = (occL l).foldl (stepS one) S ∧ (patL one S l).1.length = sizeL l :=
 patL_slots_of one l (fun t ht S => patT_slots one t (mayTL_mem h t ht) S) S
/-! ### What was compiled may be -/
theorem ok_var (one : Int → Bool) (S : List Int) (n : Int) : (varP one S n).1.all Ins.ok = true := by
 unfold varP
 split
 ·simp [Ins.ok, Ins.isAny, nil_empty]
 ·cases place S n <;> simp [Ins.ok, Ins.isSlot, nil_empty]
theorem patT_ok (one : Int → Bool) : ∀ t, mayT t = true → ∀ S, (patT one S t).1.all Ins.ok = true := by
 refine may_ind (fun n hn S => ?_) (fun n S => ?_) (fun s hs S => ?_) fun s a h1 h2 h3 h4 ih S => ?_
 ·rw [patT_var']; exact ok_var one S n
 ·rw [patT_int']; simp [Ins.ok, Ins.isNum, nil_empty]
 ·rw [patT_atom']; simp [Ins.ok, Ins.isName]; omega
 ·rw [patT_comp']
  have key : ∀ (l : List Tm), (∀ t ∈ l, ∀ S, (patT one S t).1.all Ins.ok = true) → ∀ S, (patL one S l).1.all Ins.ok = true := by
   intro l
   induction l with
   | nil => intro _ S; simp [patL]
   | cons x l ihl => intro h S; simp only [patL, List.all_append, h x (by simp) S, ihl (fun t ht => h t (by simp [ht])) _, Bool.and_self]
  simp only [List.all_cons, key a ih S, Bool.and_true]
  simp [Ins.ok, Ins.isComp]
  omega
theorem bad_ok {i : Ins} (h1 : 1 ≤ i.op) (h2 : i.op ≤ 6) (h3 : i.op = 6 → 1 ≤ i.a ∧ i.a ≤ 255) : i.bad = false := by
 simp only [Ins.bad, Bool.or_eq_false_iff, Bool.and_eq_false_iff, decide_eq_false_iff_not, not_or]
 by_cases h : i.op = 6
 ·have := h3 h; omega
 ·omega
theorem patT_sk (one : Int → Bool) : ∀ t, mayT t = true → ∀ S tail n, sk ((patT one S t).1 ++ tail) (n + 1) = (sk tail n).map (· + t.size) := by
 refine may_ind (fun n hn S tail m => ?_) (fun n S tail m => ?_) (fun s hs S tail m => ?_) fun s a h1 h2 h3 h4 ih S tail m => ?_
 ·have : ∃ i : Ins, (varP one S n).1 = [i] ∧ i.bad = false ∧ i.ar = 0 := by
   unfold varP
   split
   ·exact ⟨_, rfl, by decide, rfl⟩
   ·cases place S n
    ·exact ⟨_, rfl, bad_ok (by simp) (by simp) (fun h => by simp at h), rfl⟩
    ·exact ⟨_, rfl, bad_ok (by simp) (by simp) (fun h => by simp at h), rfl⟩
  obtain ⟨i, e, hb, ha⟩ := this; rw [patT_var', e]; simp only [List.singleton_append, sk, hb, ha, Bool.false_eq_true, if_false, Nat.add_zero]; rfl
 ·rw [patT_int']; simp only [List.singleton_append, sk]; rfl
 ·rw [patT_atom']; simp only [List.singleton_append, sk]; rfl
 ·rw [patT_comp']
  have hb : (⟨6, a.length, 0, s⟩ : Ins).bad = false := bad_ok (by simp) (by simp) (fun _ => by simp; omega); have har : (⟨6, a.length, 0, s⟩ : Ins).ar = a.length := by simp [Ins.ar]
  simp only [List.cons_append, sk, hb, har, Bool.false_eq_true, if_false]
  have key : ∀ (l : List Tm), (∀ t ∈ l, ∀ S tail n, sk ((patT one S t).1 ++ tail) (n + 1) = (sk tail n).map (· + t.size)) → ∀ S tail n, sk ((patL one S l).1 ++ tail) (n + l.length) = (sk tail n).map (· + sizeL l) := by
   intro l
   induction l with
   | nil => intro _ S tail n; simp [patL, sizeL]
   | cons x l ihl =>
     intro h S tail n; simp only [patL, List.append_assoc, List.length_cons, sizeL]; rw [← Nat.add_assoc, h x (by simp), ihl fun t ht => h t (by simp [ht])]; cases sk tail n with
     | none => rfl
     | some q => simp; omega
  rw [key a ih S tail m]; simp only [compT, Tm.size]; cases sk tail m with
  | none => rfl
  | some q => simp; omega
theorem patT_slotsN (one : Int → Bool) : ∀ t, mayT t = true → ∀ S tail, slotsN ((patT one S t).1 ++ tail) S.length = slotsN tail (patT one S t).2.length := by
 refine may_ind (fun n hn S tail => ?_) (fun n S tail => ?_) (fun s hs S tail => ?_) fun s a h1 h2 h3 h4 ih S tail => ?_
 ·rw [patT_var']
  unfold varP
  split
  ·simp [slotsN]
  ·cases hp : place S n with
   | none => simp [slotsN]
   | some p =>
     have := place_lt hp; simp only [List.singleton_append, slotsN]; rw [if_neg (by decide), if_neg (by simp; omega)]
 ·rw [patT_int']; simp [slotsN]
 ·rw [patT_atom']; simp [slotsN]
 ·rw [patT_comp']
  have key : ∀ (l : List Tm), (∀ t ∈ l, ∀ S tail, slotsN ((patT one S t).1 ++ tail) S.length = slotsN tail (patT one S t).2.length) → ∀ S tail, slotsN ((patL one S l).1 ++ tail) S.length = slotsN tail (patL one S l).2.length := by
   intro l
   induction l with
   | nil => intro _ S tail; simp [patL]
   | cons x l ihl =>
     intro h S tail; simp only [patL, List.append_assoc]; rw [h x (by simp), ihl fun t ht => h t (by simp [ht])]
  simp only [List.cons_append, slotsN]; rw [if_neg (by decide), if_neg (by simp)]; exact key a ih S tail
theorem patL_pfw (one : Int → Bool) {l : List Tm} (h : mayTL l = true) (S : List Int) (tail : List Ins) : ∀ k, k ≤ l.length → pfw ((patL one S l).1 ++ tail) k = some (sizeL (l.take k))
 | 0, _ => by simp [pfw, sizeL]
 | k + 1, hk => by
   have ih := patL_pfw one h S tail k (by omega); rw [pfw_succ ih]
   have hd : (patL one S l).1 ++ tail = (patL one S (l.take k)).1 ++ ((patT one (patL one S (l.take k)).2 l[k]).1 ++ ((patL one (patL one S (l.take (k + 1))).2 (l.drop (k + 1))).1 ++ tail)) := by
    have e : l = l.take (k + 1) ++ l.drop (k + 1) := (List.take_append_drop _ _).symm
    have happ : ∀ (a b : List Tm) (S : List Int), patL one S (a ++ b) = ((patL one S a).1 ++ (patL one (patL one S a).2 b).1, (patL one (patL one S a).2 b).2) := by
     intro a
     induction a with
     | nil => intro b S; simp [patL]
     | cons x a iha => intro b S; simp only [List.cons_append, patL, iha]; simp
    conv => lhs; rw [e, happ]
    simp only; rw [show (patL one S (l.take (k + 1))).1 = (patL one S (l.take k)).1 ++ (patT one (patL one S (l.take k)).2 l[k]).1 by rw [patL_take one S l k (by omega)]]
    simp
   have hml : mayTL (l.take k) = true := by
    have key : ∀ (l : List Tm) (k : Nat), mayTL l = true → mayTL (l.take k) = true := by
     intro l
     induction l with
     | nil => intro k _; simp [mayTL]
     | cons x l ihl =>
       intro k h; cases k with
       | zero => simp [mayTL]
       | succ k =>
         simp only [mayTL, Bool.and_eq_true, List.take_succ_cons] at h ⊢; exact ⟨h.1, ihl k h.2⟩
    exact key l k h
   have hlen := (patL_slots one hml S).2
   have hsk : sk (((patL one S l).1 ++ tail).drop (sizeL (l.take k))) 1 = some l[k].size := by
    rw [hd, ← hlen, List.drop_left]; rw [patT_sk one l[k] (mayTL_mem h _ (List.getElem_mem _)), sk_zero]
    simp
   have hs : skip ((patL one S l).1 ++ tail) ((sizeL (l.take k) : Nat) : Int) = ((sizeL (l.take k) + l[k].size : Nat) : Int) := by
    rw [skip_nat]; unfold skA; rw [hsk]
    simp
   rw [hs, if_neg (by omega)]; have e : l.take (k + 1) = l.take k ++ [l[k]] := List.take_succ_eq_append_getElem (by omega); rw [e, sizeL_app, Int.toNat_natCast]
   simp [sizeL]
theorem compC_ok {h b : Tm} (mh : mayT h = true) (mb : mayT b = true) (hk : h.k = 3 ∨ h.k = 4) (hs : h.size + b.size ≤ 20000) : check (compC h b) = 0 := by
 have hargs : mayTL h.args = true ∧ h.args.length ≤ 255 ∧ h.s.size ≤ 1000 := by
  rcases may_form mh with ⟨n, h1, rfl⟩ | ⟨n, rfl⟩ | ⟨s, h1, rfl⟩ | ⟨s, a, h1, h2, h3, h4, rfl⟩
  ·simp [varT, Tm.k] at hk
  ·simp [intT, Tm.k] at hk
  ·exact ⟨rfl, by simp [atomT, Tm.args], h1⟩
  ·exact ⟨h4, h3, h1⟩
 have hsz : h.size = sizeL h.args + 1 := by obtain ⟨k, n, s, ar⟩ := h; simp [Tm.size, Tm.args]
 generalize hone : oneB (occT h ++ occT b) = one; obtain ⟨e1, e2⟩ := patL_slots one hargs.1 []; obtain ⟨e3, e4⟩ := patT_slots one b mb (patL one [] h.args).2; have hl : (compC h b).l = (patL one [] h.args).1 ++ (patT one (patL one [] h.args).2 b).1 := by rw [← hone]; rfl
 have hlen : (compC h b).l.length = sizeL h.args + b.size := by rw [hl, List.length_append, e2, e4]
 have hp : pfw (compC h b).l h.args.length = some (sizeL h.args) := by
  rw [hl, patL_pfw one hargs.1 [] _ h.args.length (Nat.le_refl _), List.take_length]
 have ha : (compC h b).args = h.args.length := rfl; have hb : (compC h b).body = (patL one [] h.args).1.length := by rw [← hone]; rfl
 have hsl : (compC h b).slots = (patT one (patL one [] h.args).2 b).2.length := by rw [← hone]; rfl
 have hn : (compC h b).name = h.s := rfl
 have hskip : skip (compC h b).l ((sizeL h.args : Nat) : Int) = (compC h b).l.length := by
  rw [skip_nat]; unfold skA; have hd : (compC h b).l.drop (sizeL h.args) = (patT one (patL one [] h.args).2 b).1 ++ [] := by rw [hl, ← e2, List.drop_left]; simp
  rw [hd, patT_sk one b mb, sk_zero, hlen]
  simp
 have hok : (compC h b).l.all Ins.ok = true := by
  rw [hl, List.all_append, patT_ok one b mb]
  have key : ∀ (l : List Tm) (S : List Int), mayTL l = true → (patL one S l).1.all Ins.ok = true := by
   intro l
   induction l with
   | nil => intro S _; simp [patL]
   | cons x l ihl =>
     intro S h; simp only [mayTL, Bool.and_eq_true] at h; simp only [patL, List.all_append, patT_ok one x h.1, ihl _ h.2, Bool.and_self]
  rw [key _ _ hargs.1]; rfl
 have hslot : slotsOk (compC h b).l (compC h b).slots = true := by
  unfold slotsOk
  have h0 : slotsN (compC h b).l 0 = some (patT one (patL one [] h.args).2 b).2.length := by
   rw [hl]
   have key : ∀ (l : List Tm) (S : List Int) (tail : List Ins), mayTL l = true → slotsN ((patL one S l).1 ++ tail) S.length = slotsN tail (patL one S l).2.length := by
    intro l
    induction l with
    | nil => intro S tail _; simp [patL]
    | cons x l ihl =>
      intro S tail h; simp only [mayTL, Bool.and_eq_true] at h; simp only [patL, List.append_assoc]; rw [patT_slotsN one x h.1, ihl _ _ h.2]
   have h1 := key h.args [] (patT one (patL one [] h.args).2 b).1 hargs.1; have h2 := patT_slotsN one b mb (patL one [] h.args).2 []; rw [List.append_nil] at h2; rw [show (0 : Nat) = ([] : List Int).length from rfl, h1, h2]
   simp [slotsN]
  rw [h0, hsl]
  simp
 unfold check; rw [if_neg (by omega), if_neg (by rw [ha, hn, hsl]; omega)]; have hat : (compC h b).args.toNat = h.args.length := by rw [ha]; simp
 rw [hat, hp]; simp only [tailB, hb, e2, hskip, hok, hslot]
 simp
end Go.Proofs.Ytcbijikalfodnaa.Tms
namespace Go.Proofs.Ytcbijikalfodnaa.Tms
open Go Go.RowKit Go.Proofs.Ytcbijikalfodnaa.Reg Go.Proofs.Ytcbijikalfodnaa.Rws Go.Proofs.Ytcbijikalfodnaa.Maps
open Go.Proofs.Ytcbijikalfodnaa.Cod (Ins Cod sk check slotsN)
mutual
def LdT (S : Sto) (Q : Nat → Prop) (γ : Int → Nat) : Tm → Nat → Prop
 | .mk k n s a, x => if k = 1 then x = γ n else Q x ∧ ∃ c, S.cells[x]? = some c ∧ c.k = k ∧ c.n = n ∧ c.s = s ∧ c.lk = -1 ∧ LdL S Q γ a c.args
def LdL (S : Sto) (Q : Nat → Prop) (γ : Int → Nat) : List Tm → List Int → Prop
 | [], [] => True
 | t :: ts, x :: xs => 0 ≤ x ∧ LdT S Q γ t x.toNat ∧ LdL S Q γ ts xs
 | [], _ :: _ => False
 | _ :: _, [] => False
end
theorem LdL.len {S : Sto} {Q : Nat → Prop} {γ : Int → Nat} : ∀ {ts : List Tm} {xs : List Int}, LdL S Q γ ts xs → xs.length = ts.length
 | [], [], _ => rfl
 | t :: ts, x :: xs, h => by simp only [LdL] at h; simp [LdL.len h.2.2]
 | [], _ :: _, h => by simp [LdL] at h
 | _ :: _, [], h => by simp [LdL] at h
theorem LdL.snoc {S : Sto} {Q : Nat → Prop} {γ : Int → Nat} {t : Tm} {x : Int} (h0 : 0 ≤ x) (ht : LdT S Q γ t x.toNat) : ∀ {ts : List Tm} {xs : List Int}, LdL S Q γ ts xs → LdL S Q γ (ts ++ [t]) (xs ++ [x])
 | [], [], _ => by simp only [List.nil_append, LdL]; exact ⟨h0, ht, trivial⟩
 | u :: ts, y :: xs, h => by
   simp only [LdL] at h; simp only [List.cons_append, LdL]; exact ⟨h.1, h.2.1, LdL.snoc h0 ht h.2.2⟩
 | [], _ :: _, h => by simp [LdL] at h
 | _ :: _, [], h => by simp [LdL] at h
theorem plus_atS {S : Sto} {m : List SCell} {x : Nat} (hx : x < S.cells.length) : (plusS S m).cells[x]? = S.cells[x]? := by
 show (S.cells ++ m)[x]? = _; rw [List.getElem?_append_left hx]
def NvK (S T : Sto) : Prop := ∀ (x : Nat) (c : SCell), S.cells[x]? = some c → c.k ≠ 1 → T.cells[x]? = some c
theorem NvK.trans {S T U : Sto} (h : NvK S T) (h' : NvK T U) : NvK S U := fun x c hc hk => h' x c (h x c hc hk) hk
theorem NvK.plus (S : Sto) (l : List SCell) : NvK S (plusS S l) := fun x c hc _ => by
 rw [plus_atS (List.getElem?_eq_some_iff.1 hc).1]; exact hc
theorem NvK.ext {S T : Sto} (h : Ext S T) : NvK S T := fun x c hc hk => by
 obtain ⟨hx, rfl⟩ := List.getElem?_eq_some_iff.1 hc; rw [h.nv hx hk]; exact hc
mutual
theorem LdT.mono {S T : Sto} {Q Q' : Nat → Prop} {γ γ' : Int → Nat} (hN : NvK S T) (hQ : ∀ x, Q x → Q' x) : ∀ {t : Tm} {x : Nat}, (∀ n ∈ occT t, γ' n = γ n) → LdT S Q γ t x → LdT T Q' γ' t x
 | .mk k n s a, x, hg, h => by
   unfold LdT at h ⊢
   by_cases k1 : k = 1
   ·rw [if_pos k1] at h ⊢
    rw [h, hg n (by simp [occT, k1])]
   ·rw [if_neg k1] at h ⊢
    obtain ⟨hq, c, hc, e1, e2, e3, e4, e5⟩ := h; exact ⟨hQ x hq, c, hN x c hc (by rw [e1]; exact k1), e1, e2, e3, e4, LdL.mono hN hQ (fun m hm => hg m (by simp [occT, k1, hm])) e5⟩
theorem LdL.mono {S T : Sto} {Q Q' : Nat → Prop} {γ γ' : Int → Nat} (hN : NvK S T) (hQ : ∀ x, Q x → Q' x) : ∀ {ts : List Tm} {xs : List Int}, (∀ n ∈ occL ts, γ' n = γ n) → LdL S Q γ ts xs → LdL T Q' γ' ts xs
 | [], [], _, _ => by unfold LdL; trivial
 | t :: ts, x :: xs, hg, h => by
   simp only [LdL] at h ⊢; exact ⟨h.1, LdT.mono hN hQ (fun m hm => hg m (by simp [occL, hm])) h.2.1, LdL.mono hN hQ (fun m hm => hg m (by simp [occL, hm])) h.2.2⟩
 | [], _ :: _, _, h => by simp [LdL] at h
 | _ :: _, [], _, h => by simp [LdL] at h
end
theorem ld_tr {U : Sto} (hU : Inv U) {Q : Nat → Prop} {γ : Int → Nat} : ∀ t, mayT t = true → ∀ x, LdT U Q γ t x → (∀ n ∈ occT t, γ n < U.cells.length ∧ (cellF U (γ n)).k = 1) → Tr U (renT (fun n => ((fol U (γ n) : Nat) : Int)) t) x := by
 refine may_ind (fun n hn x h hv => ?_) (fun n x h hv => ?_) (fun s hs x h hv => ?_) fun s a h1 h2 h3 h4 ih x h hv => ?_
 ·have hx : x = γ n := by simpa [varT, LdT] using h
  subst hx; obtain ⟨v1, v2⟩ := hv n (by simp [varT, occT]); obtain ⟨hl, e, hfr⟩ := hU.root v1; have hc := List.getElem?_eq_getElem hl; have hi := hU.cell _ _ hc; rw [← e] at v2; simp only [varT, renT, renL, if_true]; unfold Tr; refine ⟨_, hc, ?_, ?_⟩
  ·unfold shellC
   rw [if_pos v2]
  ·rw [hi.var v2]; unfold TrL; trivial
 ·simp only [intT, LdT, if_neg (show ¬ (2 : Int) = 1 by decide)] at h
  obtain ⟨-, c, hc, e1, e2, e3, e4, e5⟩ := h; have ha : c.args = [] := List.eq_nil_of_length_eq_zero (by simpa using e5.len); have ef : fol U x = x := fol_root hc e4; simp only [intT, renT, renL, if_neg (show ¬ (2 : Int) = 1 by decide)]; unfold Tr; rw [ef]; refine ⟨c, hc, ?_, by rw [ha]; unfold TrL; trivial⟩; unfold shellC; rw [if_neg (by rw [e1]; decide), e1, e2, e3]
 ·simp only [atomT, LdT, if_neg (show ¬ (3 : Int) = 1 by decide)] at h
  obtain ⟨-, c, hc, e1, e2, e3, e4, e5⟩ := h; have ha : c.args = [] := List.eq_nil_of_length_eq_zero (by simpa using e5.len); have ef : fol U x = x := fol_root hc e4; simp only [atomT, renT, renL, if_neg (show ¬ (3 : Int) = 1 by decide)]; unfold Tr; rw [ef]; refine ⟨c, hc, ?_, by rw [ha]; unfold TrL; trivial⟩; unfold shellC; rw [if_neg (by rw [e1]; decide), e1, e2, e3]
 ·simp only [compT, LdT, if_neg (show ¬ (4 : Int) = 1 by decide)] at h
  obtain ⟨-, c, hc, e1, e2, e3, e4, e5⟩ := h; have ef : fol U x = x := fol_root hc e4; simp only [compT, renT, if_neg (show ¬ (4 : Int) = 1 by decide)]; unfold Tr; rw [ef]; refine ⟨c, hc, ?_, ?_⟩
  ·unfold shellC
   rw [if_neg (by rw [e1]; decide), e1, e2, e3]
  ·have hv' : ∀ n ∈ occL a, γ n < U.cells.length ∧ (cellF U (γ n)).k = 1 := fun n hn => hv n (by simp [compT, occT, hn])
   clear hv h4 h2 h3 e1 e2 e3 e4 hc; generalize c.args = xs at e5
   induction a generalizing xs with
   | nil =>
     cases xs with
     | nil => simp only [renL]; unfold TrL; trivial
     | cons y xs => simp [LdL] at e5
   | cons t a iha =>
     cases xs with
     | nil => simp [LdL] at e5
     | cons y xs =>
       simp only [LdL] at e5; simp only [renL]; unfold TrL; exact ⟨ih t (by simp) _ e5.2.1 fun n hn => hv' n (by simp [occL, hn]), iha (fun t ht => ih t (by simp [ht])) (fun n hn => hv' n (by simp [occL, hn])) xs e5.2.2⟩
/-! ### A term that was put, laid -/
mutual
theorem put_ld {S : Sto} {Q : Nat → Prop} {told : Int → Option Int} {T0 : Int} {V : Int → Nat} {G : List (Int × Int)} (hT : ∀ n, told n = none) (hN : ∀ n v, mget G n = some v → v.toNat = V n ∧ 0 ≤ v) :
 ∀ (t : Tm) (b : Nat) (F : List (Int × Int)), mayT t = true → AgreeAt S b (putT told T0 b F t).2.1 → (∀ x, b ≤ x → x < b + (putT told T0 b F t).2.1.length → Q x) → (∀ n v, mget (putT told T0 b F t).2.2 n = some v → mget G n = some v) → LdT S Q V t (putT told T0 b F t).1.toNat ∧ 0 ≤ (putT told T0 b F t).1 ∧ ∀ n ∈ occT t, (mget (putT told T0 b F t).2.2 n).isSome = true
 | .mk k n s a, b, F, hm, hA, hQ, hG => by
   by_cases k1 : k = 1
   ·have ha : a = [] := may_var hm k1
    subst ha; unfold LdT; rw [if_pos k1]; rw [putT_var (t := .mk k n s []) k1] at hG ⊢; simp only [Tm.n, hT] at hG ⊢; simp only [occT, occL, if_pos k1, List.mem_singleton, forall_eq]; cases h2 : mget F n with
    | some x =>
      rw [h2] at hG; have := hN n x (hG n x h2); exact ⟨this.1, this.2, by rw [h2]; rfl⟩
    | none =>
      rw [h2] at hG; have := hN n b (hG n b (mget_last h2)); exact ⟨this.1, this.2, by rw [mget_last h2]; rfl⟩
   ·unfold LdT
    rw [if_neg k1]
    by_cases k4 : k = 4
    ·rw [putT_comp (t := .mk k n s a) k4] at hA hG hQ ⊢
     obtain ⟨c, hc, e1, e2, e3, e4, e5⟩ := hA.head; have hn : n = 0 := may_n0 hm k4; subst hn; simp only [Tm.args] at hG hQ hA ⊢; obtain ⟨i1, i2⟩ := put_ldL (Q := Q) hT hN a (b + 1) F (may_args hm) hA.tail (fun x h1 h2 => hQ x (by omega) (by simp only [List.length_cons]; omega)) hG; refine ⟨⟨hQ _ (by simp) (by simp), c, by simpa using hc, by rw [e1, k4], e2, e3, e5, ?_⟩, by omega, fun m hm' => i2 m (by simpa [occT, k1] using hm')⟩; rw [e4]; exact i1
    ·rw [putT_leaf (t := .mk k n s a) k1 k4] at hA hG hQ ⊢
     obtain ⟨c, hc, e1, e2, e3, e4, e5⟩ := hA.head; have ha : a = [] := may_leaf hm k1 k4; subst ha; refine ⟨⟨hQ _ (by simp) (by simp), c, by simpa using hc, e1, e2, e3, e5, ?_⟩, by simp, fun m hm' => by simp [occT, k1, occL] at hm'⟩; rw [e4]; unfold LdL; trivial
theorem put_ldL {S : Sto} {Q : Nat → Prop} {told : Int → Option Int} {T0 : Int} {V : Int → Nat} {G : List (Int × Int)} (hT : ∀ n, told n = none) (hN : ∀ n v, mget G n = some v → v.toNat = V n ∧ 0 ≤ v) :
 ∀ (l : List Tm) (b : Nat) (F : List (Int × Int)), (∀ x ∈ l, mayT x = true) → AgreeAt S b (putL told T0 b F l).2.1 → (∀ x, b ≤ x → x < b + (putL told T0 b F l).2.1.length → Q x) → (∀ n v, mget (putL told T0 b F l).2.2 n = some v → mget G n = some v) → LdL S Q V l (putL told T0 b F l).1 ∧ ∀ n ∈ occL l, (mget (putL told T0 b F l).2.2 n).isSome = true
 | [], b, F, hm, hA, hQ, hG => by simp [putL, LdL, occL]
 | t :: l, b, F, hm, hA, hQ, hG => by
   simp only [putL, List.length_append] at hA hG hQ; simp only [putL, LdL, occL]; obtain ⟨i1, i2, i3⟩ := put_ld (Q := Q) hT hN t b F (hm t (by simp)) hA.left (fun x h1 h2 => hQ x h1 (by omega)) fun n v h => hG n v (put_extL l _ _ n v h)
   obtain ⟨j1, j2⟩ := put_ldL (Q := Q) hT hN l _ _ (fun x hx => hm x (List.mem_cons_of_mem _ hx)) hA.right (fun x h1 h2 => hQ x (by omega) (by omega)) hG; refine ⟨⟨i2, i1, j1⟩, fun m hm' => ?_⟩; rcases List.mem_append.1 hm' with h | h
   ·obtain ⟨v, hv⟩ := Option.isSome_iff_exists.1 (i3 m h)
    rw [put_extL l _ _ m v hv]; rfl
   ·exact j2 m h
end
structure Vs (S : Sto) (n0 : Nat) (γ V : Int → Nat) (D : List Int) : Prop where
 inv : Inv S
 lt : n0 ≤ S.cells.length
 v : ∀ n ∈ D, V n < n0 ∧ ∃ c, S.cells[V n]? = some c ∧ c.k = 1 ∧ c.lk = -1
 inj : ∀ n ∈ D, ∀ m ∈ D, γ n = γ m → n = m
 st : ∀ n ∈ D, n0 ≤ γ n ∧ ∃ c, S.cells[γ n]? = some c ∧ c.k = 1 ∧ (c.lk = -1 ∨ c.lk = (V n : Int))
def Bnd (S : Sto) (γ V : Int → Nat) (n : Int) : Prop := ∃ c, S.cells[γ n]? = some c ∧ c.lk = (V n : Int)
structure Ub (S T : Sto) (n0 : Nat) (γ V : Int → Nat) (D E : List Int) : Prop where
 vs : Vs T n0 γ V D
 ext : Ext S T
 done : ∀ n ∈ E, Bnd T γ V n
 keep : ∀ n ∈ D, Bnd S γ V n → Bnd T γ V n
 low : ∀ x, x < n0 → T.cells[x]? = S.cells[x]?
theorem Ub.refl {S : Sto} {n0 : Nat} {γ V : Int → Nat} {D : List Int} (h : Vs S n0 γ V D) : Ub S S n0 γ V D [] := ⟨h, .refl h.inv, fun n hn => by simp at hn, fun _ _ h => h, fun _ _ => rfl⟩
theorem Ub.trans {S T U : Sto} {n0 : Nat} {γ V : Int → Nat} {D E F : List Int} (h : Ub S T n0 γ V D E) (h' : Ub T U n0 γ V D F) (hE : ∀ n ∈ E, n ∈ D) : Ub S U n0 γ V D (E ++ F) := by
 refine ⟨h'.vs, h.ext.trans h'.ext, fun n hn => ?_, fun n hn hb => h'.keep n hn (h.keep n hn hb), fun x hx => (h'.low x hx).trans (h.low x hx)⟩; rcases List.mem_append.1 hn with hn | hn
 ·exact h'.keep n (hE n hn) (h.done n hn)
 ·exact h'.done n hn
theorem Vs.folV {S : Sto} {n0 : Nat} {γ V : Int → Nat} {D : List Int} (h : Vs S n0 γ V D) {n : Int} (hn : n ∈ D) : fol S (V n) = V n := by
 obtain ⟨-, c, hc, -, hl⟩ := h.v n hn; exact fol_root hc hl
theorem Vs.folB {S : Sto} {n0 : Nat} {γ V : Int → Nat} {D : List Int} (h : Vs S n0 γ V D) {n : Int} (hn : n ∈ D) (hb : Bnd S γ V n) : fol S (γ n) = V n := by
 obtain ⟨-, d, hd, -, hdl⟩ := h.v n hn; obtain ⟨c, hc, hl⟩ := hb; obtain ⟨hx, rfl⟩ := List.getElem?_eq_some_iff.1 hc; obtain ⟨hy, rfl⟩ := List.getElem?_eq_some_iff.1 hd; exact fol_eq (f := 1) ⟨hx, V n, hl, hy, by rw [hdl]; decide, rfl⟩
theorem uni_var {S : Sto} {n0 : Nat} {γ V : Int → Nat} {D : List Int} (h : Vs S n0 γ V D) {n : Int} (hn : n ∈ D) (k : Nat) : ∃ T, uniK false (k + 1) S [(γ n, V n)] = (some true, T, k) ∧ Ub S T n0 γ V D [n] := by
 obtain ⟨v1, d, hd, v2, v3⟩ := h.v n hn; obtain ⟨g1, c, hc, g2, g3⟩ := h.st n hn; have fV := h.folV hn; have hgx := (List.getElem?_eq_some_iff.1 hc).1; have hvx := (List.getElem?_eq_some_iff.1 hd).1; have hlt := h.lt; rw [uniK_one]; rcases g3 with g3 | g3
 ·have fG : fol S (γ n) = γ n := fol_root hc g3
  have hne : γ n ≠ V n := by omega
  have ck : (cellF S (γ n)).k = 1 := by unfold cellF; rw [fG, hc]; exact g2
  have e : oneP S false k (γ n) (V n) = ((some true, bindS S (γ n) (V n), k), []) := by
   unfold oneP; rw [fG, fV, if_neg hne, if_pos ck, bindP_plain]
  rw [e]; simp only [if_true]; rw [uniK_nil]; have hcl : (S.cells[γ n]).lk = -1 := by rw [List.getElem?_eq_getElem hgx] at hc; rw [Option.some.inj hc]; exact g3
  have hck : (S.cells[γ n]).k = 1 := by rw [List.getElem?_eq_getElem hgx] at hc; rw [Option.some.inj hc]; exact g2
  have hvl : (S.cells[V n]).lk = -1 := by rw [List.getElem?_eq_getElem hvx] at hd; rw [Option.some.inj hd]; exact v3
  have hext : Ext S (bindS S (γ n) (V n)) := .step _ _ (.refl h.inv) h.inv hgx hvx hcl hvl hck hne; have hg := fun x => bind_get (S := S) (t := V n) hgx x
  refine ⟨_, rfl, ⟨hext.inv, by rw [hext.len]; exact hlt, fun m hm => ?_, h.inj, fun m hm => ?_⟩, hext, fun m hm => ?_, fun m hm hb => ?_, fun x hx => ?_⟩
  ·obtain ⟨a1, a2⟩ := h.v m hm
   refine ⟨a1, ?_⟩; rw [hg, if_neg (by omega)]; exact a2
  ·obtain ⟨a1, c', a2, a3, a4⟩ := h.st m hm
   refine ⟨a1, ?_⟩; rw [hg]
   by_cases e : γ n = γ m
   ·have := h.inj n hn m hm e
    subst this; rw [if_pos rfl]; exact ⟨_, rfl, hck, .inr rfl⟩
   ·rw [if_neg e]; exact ⟨c', a2, a3, a4⟩
  ·simp only [List.mem_singleton] at hm
   subst hm; unfold Bnd; rw [hg, if_pos rfl]; exact ⟨_, rfl, rfl⟩
  ·unfold Bnd
   rw [hg]
   by_cases e : γ n = γ m
   ·have := h.inj n hn m hm e
    subst this; rw [if_pos rfl]; exact ⟨_, rfl, rfl⟩
   ·rw [if_neg e]; exact hb
  ·rw [hg, if_neg (by omega)]
 ·have hb : Bnd S γ V n := ⟨c, hc, g3⟩
  have e : oneP S false k (γ n) (V n) = ((some true, S, k), []) := by
   unfold oneP; rw [if_pos (by rw [fV, h.folB hn hb])]
  rw [e]; simp only [if_true]; rw [uniK_nil]; exact ⟨S, rfl, h, .refl h.inv, fun m hm => by simp only [List.mem_singleton] at hm; subst hm; exact hb, fun _ _ h => h, fun _ _ => rfl⟩
theorem one_same {S : Sto} {p h : Nat} {c d : SCell} (hc : S.cells[p]? = some c) (hd : S.cells[h]? = some d) (hne : p ≠ h) (c1 : c.k ≠ 1) (ek : c.k = d.k) (en : c.n = d.n) (es : c.s = d.s) (cl : c.lk = -1) (dl : d.lk = -1) (ea : c.args.length = d.args.length) (k : Nat) :
 oneP S false k p h = ((some true, S, k), (c.args.map Int.toNat).zip (d.args.map Int.toNat)) := by
 have fp : fol S p = p := fol_root hc cl; have fh : fol S h = h := fol_root hd dl; have cp : cellF S p = c := by unfold cellF; rw [fp, hc]; rfl
 have ch : cellF S h = d := by unfold cellF; rw [fh, hd]; rfl
 unfold oneP argN; rw [fp, fh, cp, ch, if_neg hne, if_neg c1, if_neg (by rw [← ek]; exact c1), if_neg (by rw [ek, en, es, ea]; simp)]
theorem uni_ldL {n0 : Nat} {γ V : Int → Nat} {D : List Int} : ∀ (ts : List Tm), (∀ t ∈ ts, ∀ (k : Nat) (S : Sto) (p h : Nat), t.size ≤ k → Vs S n0 γ V D → (∀ n ∈ occT t, n ∈ D) → LdT S (n0 ≤ ·) γ t p → LdT S (· < n0) V t h → ∃ T k', uniK false k S [(p, h)] = (some true, T, k') ∧ k ≤ k' + t.size ∧ Ub S T n0 γ V D (occT t)) →
 ∀ (ps hs : List Int) (k : Nat) (S : Sto), sizeL ts ≤ k → Vs S n0 γ V D → (∀ n ∈ occL ts, n ∈ D) → LdL S (n0 ≤ ·) γ ts ps → LdL S (· < n0) V ts hs → ∃ T k', uniK false k S ((ps.map Int.toNat).zip (hs.map Int.toNat)) = (some true, T, k') ∧ k ≤ k' + sizeL ts ∧ Ub S T n0 γ V D (occL ts)
 | [], _, [], [], k, S, hk, hv, hD, hp, hh => by
   simp only [List.map_nil, List.zip_nil_right, uniK_nil, sizeL, occL]; exact ⟨S, k, rfl, by omega, Ub.refl hv⟩
 | t :: ts, ih, p :: ps, h :: hs, k, S, hk, hv, hD, hp, hh => by
   simp only [LdL] at hp hh; simp only [sizeL] at hk ⊢; simp only [occL] at hD ⊢; obtain ⟨T, k', h1, h2, h3⟩ := ih t (by simp) k S p.toNat h.toNat (by omega) hv (fun n hn => hD n (by simp [hn])) hp.2.1 hh.2.1; have hN : NvK S T := NvK.ext h3.ext; obtain ⟨U, k'', g1, g2, g3⟩ := uni_ldL ts (fun t ht => ih t (by simp [ht])) ps hs k' T (by omega) h3.vs (fun n hn => hD n (by simp [hn])) (LdL.mono hN (fun _ h => h) (fun _ _ => rfl) hp.2.2) (LdL.mono hN (fun _ h => h) (fun _ _ => rfl) hh.2.2); refine ⟨U, k'', ?_, by omega, h3.trans g3 fun n hn => hD n (by simp [hn])⟩; rw [List.map_cons, List.map_cons, List.zip_cons_cons]; have := uniK_app false ((ps.map Int.toNat).zip (hs.map Int.toNat)) k S [(p.toNat, h.toNat)]; rw [List.singleton_append] at this; rw [this, h1]; simp only [if_true]; exact g1
 | [], _, _ :: _, _, _, _, _, _, _, hp, _ => by simp [LdL] at hp
 | [], _, [], _ :: _, _, _, _, _, _, _, hh => by simp [LdL] at hh
 | _ :: _, _, [], _, _, _, _, _, _, hp, _ => by simp [LdL] at hp
 | _ :: _, _, _ :: _, [], _, _, _, _, _, _, hh => by simp [LdL] at hh
theorem uni_ld {n0 : Nat} {γ V : Int → Nat} {D : List Int} : ∀ t, mayT t = true → ∀ (k : Nat) (S : Sto) (p h : Nat), t.size ≤ k → Vs S n0 γ V D → (∀ n ∈ occT t, n ∈ D) → LdT S (n0 ≤ ·) γ t p → LdT S (· < n0) V t h → ∃ T k', uniK false k S [(p, h)] = (some true, T, k') ∧ k ≤ k' + t.size ∧ Ub S T n0 γ V D (occT t) := by
 refine may_ind (fun n hn k S p h hk hv hD hp hh => ?_) (fun n k S p h hk hv hD hp hh => ?_) (fun s hs k S p h hk hv hD hp hh => ?_) fun s a h1 h2 h3 h4 ih k S p h hk hv hD hp hh => ?_
 ·obtain ⟨k, rfl⟩ : ∃ j, k = j + 1 := ⟨k - 1, by simp [varT, Tm.size, sizeL] at hk; omega⟩
  have e1 : p = γ n := by simpa [varT, LdT] using hp
  have e2 : h = V n := by simpa [varT, LdT] using hh
  subst e1 e2; obtain ⟨T, g1, g2⟩ := uni_var hv (hD n (by simp [varT, occT])) k; exact ⟨T, k, g1, by simp [varT, Tm.size, sizeL], by simpa [varT, occT, occL] using g2⟩
 ·obtain ⟨k, rfl⟩ : ∃ j, k = j + 1 := ⟨k - 1, by simp [intT, Tm.size, sizeL] at hk; omega⟩
  simp only [intT, LdT, if_neg (show ¬ (2 : Int) = 1 by decide)] at hp hh; obtain ⟨q1, c, hc, e1, e2, e3, e4, e5⟩ := hp; obtain ⟨q2, d, hd, f1, f2, f3, f4, f5⟩ := hh; have ca : c.args = [] := List.eq_nil_of_length_eq_zero (by simpa using e5.len); have da : d.args = [] := List.eq_nil_of_length_eq_zero (by simpa using f5.len); rw [uniK_one, one_same hc hd (by omega) (by rw [e1]; decide) (e1.trans f1.symm) (e2.trans f2.symm) (e3.trans f3.symm) e4 f4 (by rw [ca, da]) k, ca, da]; simp only [if_true, List.map_nil, List.zip_nil_right]; rw [uniK_nil]; exact ⟨S, k, rfl, by simp [intT, Tm.size, sizeL], by simpa [intT, occT, occL] using Ub.refl hv⟩
 ·obtain ⟨k, rfl⟩ : ∃ j, k = j + 1 := ⟨k - 1, by simp [atomT, Tm.size, sizeL] at hk; omega⟩
  simp only [atomT, LdT, if_neg (show ¬ (3 : Int) = 1 by decide)] at hp hh; obtain ⟨q1, c, hc, e1, e2, e3, e4, e5⟩ := hp; obtain ⟨q2, d, hd, f1, f2, f3, f4, f5⟩ := hh; have ca : c.args = [] := List.eq_nil_of_length_eq_zero (by simpa using e5.len); have da : d.args = [] := List.eq_nil_of_length_eq_zero (by simpa using f5.len); rw [uniK_one, one_same hc hd (by omega) (by rw [e1]; decide) (e1.trans f1.symm) (e2.trans f2.symm) (e3.trans f3.symm) e4 f4 (by rw [ca, da]) k, ca, da]; simp only [if_true, List.map_nil, List.zip_nil_right]; rw [uniK_nil]; exact ⟨S, k, rfl, by simp [atomT, Tm.size, sizeL], by simpa [atomT, occT, occL] using Ub.refl hv⟩
 ·obtain ⟨k, rfl⟩ : ∃ j, k = j + 1 := ⟨k - 1, by simp [compT, Tm.size] at hk; omega⟩
  simp only [compT, LdT, if_neg (show ¬ (4 : Int) = 1 by decide)] at hp hh; obtain ⟨q1, c, hc, e1, e2, e3, e4, e5⟩ := hp; obtain ⟨q2, d, hd, f1, f2, f3, f4, f5⟩ := hh; rw [uniK_one, one_same hc hd (by omega) (by rw [e1]; decide) (e1.trans f1.symm) (e2.trans f2.symm) (e3.trans f3.symm) e4 f4 (by rw [e5.len, f5.len]) k]; simp only [if_true]; simp only [compT, Tm.size] at hk ⊢; simp only [compT, occT, if_neg (show ¬ (4 : Int) = 1 by decide)] at hD ⊢; obtain ⟨T, k', g1, g2, g3⟩ := uni_ldL a ih c.args d.args k S (by omega) hv hD e5 f5; exact ⟨T, k', g1, by omega, g3⟩
/-! ### A pattern, put piece by piece -/
structure Slo (sn : Nat) (γ : Int → Nat) (Sl sl : List Int) : Prop where
 len : sl.length = sn
 met : ∀ (j : Nat) (n : Int), Sl[j]? = some n → sl[j]? = some ((γ n : Nat) : Int)
 free : ∀ j, Sl.length ≤ j → j < sn → sl[j]? = some (-1)
structure Gm (S : Sto) (one : Int → Bool) (γ : Int → Nat) (D Sl : List Int) : Prop where
 lt : ∀ n ∈ D, γ n < S.cells.length
 inj : ∀ n ∈ D, ∀ m ∈ D, γ n = γ m → n = m
 sub : ∀ n ∈ Sl, n ∈ D
 sup : ∀ n ∈ D, one n = false → n ∈ Sl
structure PL (one : Int → Bool) (sn n0 : Nat) (γ γ' : Int → Nat) (D E Sl' sl' : List Int) (S S' : Sto) (m : Nat) : Prop where
 agree : ∀ n ∈ D, γ' n = γ n
 slo : Slo sn γ' Sl' sl'
 gm : Gm S' one γ' (D ++ E) Sl'
 new : ∀ n ∈ E, n ∉ D → S.cells.length ≤ γ' n ∧ ∃ c, S'.cells[γ' n]? = some c ∧ c.k = 1 ∧ c.lk = -1
 plus : ∃ l, S' = plusS S l ∧ l.length ≤ m
 inv : Inv S'
theorem PL.refl {one : Int → Bool} {sn n0 : Nat} {γ : Int → Nat} {D Sl sl : List Int} {S : Sto} (hs : Slo sn γ Sl sl) (hg : Gm S one γ D Sl) (hI : Inv S) : PL one sn n0 γ γ D [] Sl sl S S 0 :=
 ⟨fun _ _ => rfl, hs, by rw [List.append_nil]; exact hg, fun n hn => by simp at hn, ⟨[], (plus_nil S).symm, by simp⟩, hI⟩
theorem plus_inv1 {S : Sto} (hI : Inv S) {d : SCell} {k n : Int} {s : ByteArray} {args : List Int} (hd : Laid d k n s args) (hr : (S.cells.length : Int) < S.room) (ha : ∀ a ∈ args, 0 ≤ a ∧ a < S.cells.length) (hl : args.length ≤ 255) (hv : k = 1 → args = []) : Inv (plusS S [d]) := by
 obtain ⟨d1, d2, d3, d4, d5⟩ := hd; refine hI.plus [d] (fun c hc => ?_) (by simp; omega); simp only [List.mem_singleton] at hc; subst hc; refine ⟨⟨by rw [d4]; exact hl, fun a h => ?_, .inl d5, fun e => by rw [d4]; exact hv (by rw [← d1]; exact e)⟩, d5⟩; rw [d4] at h; have := ha a h
 simp; omega
theorem plus_last (S : Sto) (d : SCell) : (plusS S [d]).cells[S.cells.length]? = some d := by
 show (S.cells ++ [d])[S.cells.length]? = some d; rw [List.getElem?_append_right (Nat.le_refl _), Nat.sub_self]; rfl
theorem PL.one {one : Int → Bool} {sn n0 : Nat} {γ γ' : Int → Nat} {D E Sl sl : List Int} {S S' : Sto} {m : Nat} (h : PL one sn n0 γ γ' D E Sl sl S S' m) {d : SCell} (hI : Inv (plusS S' [d])) : PL one sn n0 γ γ' D E Sl sl S (plusS S' [d]) (m + 1) := by
 obtain ⟨l, hl, hm⟩ := h.plus; refine ⟨h.agree, h.slo, ⟨fun n hn => by have := h.gm.lt n hn; rw [plus_lenE]; omega, h.gm.inj, h.gm.sub, h.gm.sup⟩, fun n hn hd => ?_, ⟨l ++ [d], by rw [hl, plus_plus], by simp; omega⟩, hI⟩; obtain ⟨a1, c, a2, a3⟩ := h.new n hn hd; exact ⟨a1, c, by rw [plus_atS (List.getElem?_eq_some_iff.1 a2).1]; exact a2, a3⟩
theorem PL.trans {one : Int → Bool} {sn n0 : Nat} {γ γ' γ'' : Int → Nat} {D E F Sl sl Sl' sl' : List Int} {S S' S'' : Sto} {m m' : Nat} (h : PL one sn n0 γ γ' D E Sl sl S S' m) (h' : PL one sn n0 γ' γ'' (D ++ E) F Sl' sl' S' S'' m') : PL one sn n0 γ γ'' D (E ++ F) Sl' sl' S S'' (m + m') := by
 obtain ⟨l, hl, hm⟩ := h.plus; obtain ⟨l', hl', hm'⟩ := h'.plus; refine ⟨fun n hn => (h'.agree n (by simp [hn])).trans (h.agree n hn), h'.slo, by rw [← List.append_assoc]; exact h'.gm, fun n hn hd => ?_, ⟨l ++ l', by rw [hl', hl, plus_plus], by simp; omega⟩, h'.inv⟩
 by_cases he : n ∈ E
 ·obtain ⟨a1, c, a2, a3⟩ := h.new n he hd
  rw [h'.agree n (by simp [he])]; exact ⟨a1, c, by rw [hl', plus_atS (List.getElem?_eq_some_iff.1 a2).1]; exact a2, a3⟩
 ·have hf : n ∈ F := by simpa [he] using hn
  obtain ⟨a1, a2⟩ := h'.new n hf (by simp [he, hd]); refine ⟨?_, a2⟩; have : S'.cells.length = S.cells.length + l.length := by rw [hl]; simp [plusS]
  omega
structure PtL (one : Int → Bool) (sn n0 : Nat) (γ : Int → Nat) (D Sl : List Int) (S : Sto) (t : Tm) (a : Nat) (r : PtR) : Prop where
 err : r.err = 0
 at_ : r.at_ = a + t.size
 pos : 0 ≤ r.cell
 lt : r.cell < r.S.cells.length
 ex : ∃ γ', LdT r.S (n0 ≤ ·) γ' t r.cell.toNat ∧ PL one sn n0 γ γ' D (occT t) (patT one Sl t).2 r.sl S r.S t.size
structure PsL (one : Int → Bool) (sn n0 : Nat) (γ : Int → Nat) (D Sl : List Int) (S : Sto) (ts : List Tm) (a : Nat) (r : PsR) : Prop where
 err : r.err = 0
 at_ : r.at_ = a + sizeL ts
 pos : ∀ x ∈ r.cells, 0 ≤ x ∧ x < r.S.cells.length
 ex : ∃ γ', LdL r.S (n0 ≤ ·) γ' ts r.cells ∧ PL one sn n0 γ γ' D (occL ts) (patL one Sl ts).2 r.sl S r.S (sizeL ts)
structure PtS (L : List Ins) (one : Int → Bool) (sn n0 : Nat) (γ : Int → Nat) (D Sl sl : List Int) (S : Sto) : Prop where
 inv : Inv S
 lt : n0 ≤ S.cells.length
 slo : Slo sn γ Sl sl
 gm : Gm S one γ D Sl
theorem sizeL_takeS (ts : List Tm) (i : Nat) (h : i < ts.length) : sizeL (ts.take (i + 1)) = sizeL (ts.take i) + ts[i].size := by
 rw [List.take_succ_eq_append_getElem h]
 have : ∀ l m : List Tm, sizeL (l ++ m) = sizeL l + sizeL m := by
  intro l m
  induction l with
  | nil => simp [sizeL]
  | cons x l ih => simp only [List.cons_append, sizeL, ih]; omega
 rw [this]; simp [sizeL]
theorem sizeL_drop (ts : List Tm) (i : Nat) : sizeL (ts.take i) ≤ sizeL ts := by
 induction ts generalizing i with
 | nil => simp
 | cons t ts ih =>
   cases i with
   | zero => simp [sizeL]
   | succ i => simp only [List.take_succ_cons, sizeL]; have := ih i; omega
theorem patL_drop (one : Int → Bool) : ∀ (ts : List Tm) (Sl : List Int) (i : Nat) (h : i < ts.length), ∃ rest, (patL one Sl ts).1 = (patL one Sl (ts.take i)).1 ++ ((patT one (patL one Sl (ts.take i)).2 ts[i]).1 ++ rest)
 | [], Sl, i, h => by simp at h
 | t :: ts, Sl, 0, h => ⟨(patL one (patT one Sl t).2 ts).1, by simp only [List.take_zero, patL, List.nil_append, List.getElem_cons_zero]⟩
 | t :: ts, Sl, i + 1, h => by
   obtain ⟨rest, hr⟩ := patL_drop one ts (patT one Sl t).2 i (by simpa using h); exact ⟨rest, by simp only [List.take_succ_cons, patL, List.getElem_cons_succ, hr, List.append_assoc]⟩
theorem stepS_len (one : Int → Bool) : ∀ (l S : List Int), S.length ≤ (l.foldl (stepS one) S).length
 | [], S => Nat.le_refl _
 | n :: l, S => by
   rw [List.foldl_cons]; refine Nat.le_trans ?_ (stepS_len one l _); unfold stepS numL
   split
   ·exact Nat.le_refl _
   ·cases place S n <;> simp
theorem place_some : ∀ {l : List Int} {n : Int} {p : Nat}, place l n = some p → l[p]? = some n
 | [], n, p, h => by simp [place] at h
 | x :: l, n, p, h => by
   unfold place at h
   split at h
   ·rename_i e
    simp only [Option.some.injEq] at h; subst h
    simp [e]
   ·cases hp : place l n with
    | none => rw [hp] at h; cases h
    | some q =>
      rw [hp] at h; simp only [Option.map_some, Option.some.injEq] at h; subst h
      simpa using place_some hp
theorem drop_get {L R : List Ins} {i : Ins} {a : Nat} (h : L.drop a = i :: R) : L[a]? = some i ∧ L.drop (a + 1) = R := by
 have h1 := congrArg List.head? h; have h2 := congrArg List.tail h; rw [List.head?_drop] at h1; rw [List.tail_drop] at h2; exact ⟨by simpa using h1, by simpa using h2⟩
theorem occL_split (ts : List Tm) (i : Nat) : occL ts = occL (ts.take i) ++ occL (ts.drop i) := by rw [← occL_app, List.take_append_drop]
theorem mayTL_takeS {ts : List Tm} (h : mayTL ts = true) (i : Nat) : mayTL (ts.take i) = true := by
 induction ts generalizing i with
 | nil => simpa using h
 | cons t ts ih =>
   cases i with
   | zero => rfl
   | succ i =>
     simp only [mayTL, Bool.and_eq_true] at h; simp only [List.take_succ_cons, mayTL, Bool.and_eq_true]; exact ⟨h.1, ih h.2 i⟩
theorem PL.fresh {one : Int → Bool} {sn n0 : Nat} {γ : Int → Nat} {D Sl sl Sl' sl' : List Int} {S : Sto} (h : PtS [] one sn n0 γ D Sl sl S) (n : Int) (hn : n ∉ D) {d : SCell} (hd : Laid d 1 0 ⟨#[]⟩ []) (hr : (S.cells.length : Int) < S.room)
 (hsl : Slo sn (fun m => if m = n then S.cells.length else γ m) Sl' sl') (hsub : ∀ m ∈ Sl', m ∈ D ++ [n]) (hsup : ∀ m ∈ D ++ [n], one m = false → m ∈ Sl') :
 PL one sn n0 γ (fun m => if m = n then S.cells.length else γ m) D [n] Sl' sl' S (plusS S [d]) 1 := by
 have hI := plus_inv1 h.inv hd hr (by simp) (by simp) (fun _ => rfl); have hl : ∀ m ∈ D, m ≠ n := fun m hm e => hn (by rw [← e]; exact hm)
 refine ⟨fun m hm => by simp [hl m hm], hsl, ⟨fun m hm => ?_, fun m hm k hk e => ?_, hsub, hsup⟩, fun m hm _ => ?_, ⟨[d], rfl, by simp⟩, hI⟩
 ·rw [plus_lenE]
  rcases List.mem_append.1 hm with hm | hm
  ·have := h.gm.lt m hm; simp [hl m hm]; omega
  ·simp only [List.mem_singleton] at hm; simp [hm]
 ·rcases List.mem_append.1 hm with hm | hm <;> rcases List.mem_append.1 hk with hk | hk
  ·simp only [hl m hm, hl k hk, if_false] at e; exact h.gm.inj m hm k hk e
  ·simp only [List.mem_singleton] at hk
   simp only [hl m hm, hk, if_false, if_true] at e; have := h.gm.lt m hm; omega
  ·simp only [List.mem_singleton] at hm
   simp only [hl k hk, hm, if_false, if_true] at e; have := h.gm.lt k hk; omega
  ·simp only [List.mem_singleton] at hm hk; rw [hm, hk]
 ·simp only [List.mem_singleton] at hm
  subst hm; simp only [if_true]; exact ⟨Nat.le_refl _, d, plus_last S d, hd.1, hd.2.2.2.2⟩
theorem patsX_ld {L : List Ins} {one : Int → Bool} {sn N n0 : Nat} {ts : List Tm} (hts : mayTL ts = true)
 (ih : ∀ t ∈ ts, ∀ (a : Nat) (rest : List Ins) (Sl sl : List Int) (γ : Int → Nat) (D : List Int) (S : Sto), t.size ≤ N → L.drop a = (patT one Sl t).1 ++ rest → PtS [] one sn n0 γ D Sl sl S → ((S.cells.length + t.size : Nat) : Int) ≤ S.room → (patT one Sl t).2.length ≤ sn → (∀ n ∈ occT t, one n = true → n ∉ D ∧ (occT t).count n ≤ 1) → PtL one sn n0 γ D Sl S t a (patX L N a S sl)) :
 ∀ (i : Nat) (a : Nat) (rest : List Ins) (Sl sl : List Int) (γ : Int → Nat) (D : List Int) (S : Sto), i ≤ ts.length → sizeL ts ≤ N → L.drop a = (patL one Sl ts).1 ++ rest → PtS [] one sn n0 γ D Sl sl S → ((S.cells.length + sizeL ts : Nat) : Int) ≤ S.room → (patL one Sl ts).2.length ≤ sn → (∀ n ∈ occL ts, one n = true → n ∉ D ∧ (occL ts).count n ≤ 1) → PsL one sn n0 γ D Sl S (ts.take i) a (patsX (patX L N) i a S sl)
 | 0, a, rest, Sl, sl, γ, D, S, hi, hN, hL, hp, hr, hsn, hone => by
   refine ⟨rfl, by simp [patsX, sizeL], by simp [patsX], γ, ?_, ?_⟩
   ·simp [patsX, LdL]
   ·simp only [patsX, List.take_zero, occL, patL, sizeL]
    exact PL.refl hp.slo hp.gm hp.inv
 | i + 1, a, rest, Sl, sl, γ, D, S, hi, hN, hL, hp, hr, hsn, hone => by
   have hq := patsX_ld hts ih i a rest Sl sl γ D S (by omega) hN hL hp hr hsn hone; obtain ⟨Q, hQ⟩ : ∃ Q, patsX (patX L N) i a S sl = Q := ⟨_, rfl⟩; rw [patsX_one hQ (by rw [← hQ]; exact hq.err)]; rw [hQ] at hq; obtain ⟨q1, q2, q3, γ', q4, q5⟩ := hq; have hit : i < ts.length := by omega
   have hm := mayTL_mem hts ts[i] (List.getElem_mem hit); have hsz := sizeL_takeS ts i hit; have hle := sizeL_drop ts (i + 1); have hpl : (patL one Sl (ts.take i)).1.length = sizeL (ts.take i) := (patL_slots one (mayTL_takeS hts i) Sl).2; obtain ⟨rest', hr'⟩ := patL_drop one ts Sl i hit; obtain ⟨l, hl, hlm⟩ := q5.plus; have hlen : Q.S.cells.length = S.cells.length + l.length := by rw [hl]; simp [plusS]
   have hroom : Q.S.room = S.room := by rw [hl]; rfl
   have hdrop : L.drop Q.at_ = (patT one (patL one Sl (ts.take i)).2 ts[i]).1 ++ (rest' ++ rest) := by
    rw [q2, ← hpl, ← List.drop_drop, hL, hr', List.append_assoc, List.drop_left, List.append_assoc]
   have hocc : occL (ts.take (i + 1)) = occL (ts.take i) ++ occT ts[i] := occL_take ts i hit; have hall : occL ts = occL (ts.take i) ++ (occT ts[i] ++ occL (ts.drop (i + 1))) := by rw [occL_split ts (i + 1), hocc, List.append_assoc]
   have hpt := ih ts[i] (List.getElem_mem hit) Q.at_ (rest' ++ rest) (patL one Sl (ts.take i)).2 Q.sl γ' (D ++ occL (ts.take i)) Q.S (by omega) hdrop ⟨q5.inv, by rw [hlen]; have := hp.lt; omega, q5.slo, q5.gm⟩ (by rw [hlen, hroom]; omega) (by
    have e1 := (patL_slots one (mayTL_takeS hts (i + 1)) Sl).1; have e2 := (patL_slots one hts Sl).1; have e3 : (patL one Sl (ts.take (i + 1))).2 = (patT one (patL one Sl (ts.take i)).2 ts[i]).2 := by rw [patL_take one Sl ts i hit]
    rw [occL_split ts (i + 1), List.foldl_append, ← e1] at e2; have := stepS_len one (occL (ts.drop (i + 1))) (patL one Sl (ts.take (i + 1))).2; rw [← e2] at this; rw [← e3]; omega) (fun n hn ho => by
    obtain ⟨g1, g2⟩ := hone n (by rw [hall]; simp [hn]) ho; rw [hall, List.count_append, List.count_append] at g2; have h1 : 0 < (occT ts[i]).count n := List.count_pos_iff.2 hn; refine ⟨fun e => ?_, by omega⟩; rcases List.mem_append.1 e with e | e
    ·exact g1 e
    ·have := List.count_pos_iff.2 e; omega)
   obtain ⟨p1, p2, p3, p4, γ'', p5, p6⟩ := hpt; obtain ⟨l', hl', hlm'⟩ := p6.plus; rw [if_neg (by rw [p1]; decide)]; refine ⟨rfl, ?_, fun x hx => ?_, γ'', ?_, ?_⟩
   ·show (patX L N Q.at_ Q.S Q.sl).at_ = _
    rw [p2, q2, hsz]; omega
   ·show 0 ≤ x ∧ x < ((patX L N Q.at_ Q.S Q.sl).S.cells.length : Int)
    have hx : x ∈ Q.cells ++ [(patX L N Q.at_ Q.S Q.sl).cell] := hx; rcases List.mem_append.1 hx with hx | hx
    ·have := q3 x hx
     have e : (patX L N Q.at_ Q.S Q.sl).S.cells.length = Q.S.cells.length + l'.length := by rw [hl']; simp [plusS]
     omega
    ·simp only [List.mem_singleton] at hx; subst hx; exact ⟨p3, p4⟩
   ·show LdL (patX L N Q.at_ Q.S Q.sl).S _ γ'' (ts.take (i + 1)) (Q.cells ++ [(patX L N Q.at_ Q.S Q.sl).cell])
    rw [List.take_succ_eq_append_getElem hit]; refine LdL.snoc p3 p5 (LdL.mono ?_ (fun _ h => h) (fun n hn => p6.agree n (by simp [hn])) q4); rw [hl']; exact NvK.plus _ _
   ·show PL one sn n0 γ γ'' D _ _ (patX L N Q.at_ Q.S Q.sl).sl S (patX L N Q.at_ Q.S Q.sl).S _
    rw [hocc, hsz, patL_take one Sl ts i hit]; exact q5.trans p6
theorem patX_ld {L : List Ins} {one : Int → Bool} {sn n0 : Nat} : ∀ t, mayT t = true → ∀ (N : Nat) (a : Nat) (rest : List Ins) (Sl sl : List Int) (γ : Int → Nat) (D : List Int) (S : Sto), t.size ≤ N → L.drop a = (patT one Sl t).1 ++ rest → PtS [] one sn n0 γ D Sl sl S → ((S.cells.length + t.size : Nat) : Int) ≤ S.room → (patT one Sl t).2.length ≤ sn → (∀ n ∈ occT t, one n = true → n ∉ D ∧ (occT t).count n ≤ 1) → PtL one sn n0 γ D Sl S t a (patX L N a S sl) := by
 refine may_ind (fun n hn N a rest Sl sl γ D S hN hL hp hr hsn hone => ?_) (fun n N a rest Sl sl γ D S hN hL hp hr hsn hone => ?_) (fun s hs N a rest Sl sl γ D S hN hL hp hr hsn hone => ?_) fun s ar h1 h2 h3 h4 ih N a rest Sl sl γ D S hN hL hp hr hsn hone => ?_
 ·obtain ⟨N, rfl⟩ : ∃ j, N = j + 1 := ⟨N - 1, by simp [varT, Tm.size, sizeL] at hN; omega⟩
  have ho : occT (varT n) = [n] := by simp [varT, occT, occL]
  have hsz : (varT n).size = 1 := by simp [varT, Tm.size, sizeL]
  rw [hsz] at hr; rw [patT_var'] at hL hsn; have hr1 : (S.cells.length : Int) < S.room := by omega
  have hlt := hp.lt
  by_cases h1 : one n = true
  ·have hv : varP one Sl n = ([⟨1, 0, 0, ⟨#[]⟩⟩], Sl) := by unfold varP; rw [if_pos h1]
   rw [hv] at hL; obtain ⟨hg, -⟩ := drop_get hL; obtain ⟨hnD, -⟩ := hone n (by rw [ho]; simp) h1; obtain ⟨e1, d, e2, hd⟩ := fresh_laid hr1
   have hX : patX L (N + 1) a S sl = ⟨(S.cells.length : Int), 0, a + 1, plusS S [d], sl⟩ := by
    unfold patX; rw [hg]; simp only []; rw [if_pos trivial, e1, e2]
   rw [hX]; refine ⟨rfl, by rw [hsz], by simp, by simp [plusS]; omega, fun m => if m = n then S.cells.length else γ m, by simp [varT, LdT], ?_⟩; rw [ho, hsz, patT_var', hv]; have hSn : n ∉ Sl := fun h => hnD (hp.gm.sub n h)
   refine PL.fresh hp n hnD hd hr1 ⟨hp.slo.len, fun j m hj => ?_, hp.slo.free⟩ (fun m hm => by simp [hp.gm.sub m hm]) (fun m hm h0 => ?_)
   ·have : m ≠ n := fun e => hSn (by rw [← e]; exact List.mem_of_getElem? hj)
    rw [if_neg this]; exact hp.slo.met j m hj
   ·rcases List.mem_append.1 hm with hm | hm
    ·exact hp.gm.sup m hm h0
    ·simp only [List.mem_singleton] at hm; rw [hm, h1] at h0; cases h0
  ·have h1' : one n = false := by simpa using h1
   cases hpl : place Sl n with
   | some j =>
     have hv : varP one Sl n = ([⟨3, (j : Nat), 0, ⟨#[]⟩⟩], Sl) := by unfold varP; rw [if_neg h1, hpl]
     rw [hv] at hL; obtain ⟨hg, -⟩ := drop_get hL; have hSn : n ∈ Sl := place_mem.1 (by rw [hpl]; rfl); have hD : n ∈ D := hp.gm.sub n hSn; have hjn : Sl[j]? = some n := place_some hpl; have hsj := hp.slo.met j n hjn
     have hX : patX L (N + 1) a S sl = ⟨((γ n : Nat) : Int), 0, a + 1, S, sl⟩ := by
      unfold patX; rw [hg]; simp only []; rw [if_neg (by decide), if_pos (by simp)]
      unfold slotX; simp only [Int.toNat_natCast, List.getD, hsj, Option.getD_some]; rw [if_neg (by omega)]
     rw [hX]; have hlt := hp.gm.lt n hD; refine ⟨rfl, by rw [hsz], by simp, by simp; omega, γ, by simp [varT, LdT], ?_⟩; rw [ho, hsz, patT_var', hv]; refine ⟨fun _ _ => rfl, hp.slo, ⟨fun m hm => ?_, fun m hm k hk => ?_, fun m hm => by simp [hp.gm.sub m hm], fun m hm h0 => ?_⟩, fun m hm hmD => ?_, ⟨[], (plus_nil S).symm, by simp⟩, hp.inv⟩
     ·rcases List.mem_append.1 hm with hm | hm
      ·exact hp.gm.lt m hm
      ·simp only [List.mem_singleton] at hm; rw [hm]; exact hlt
     ·exact hp.gm.inj m (by rcases List.mem_append.1 hm with hm | hm; exact hm; simp only [List.mem_singleton] at hm; rw [hm]; exact hD) k (by rcases List.mem_append.1 hk with hk | hk; exact hk; simp only [List.mem_singleton] at hk; rw [hk]; exact hD)
     ·rcases List.mem_append.1 hm with hm | hm
      ·exact hp.gm.sup m hm h0
      ·simp only [List.mem_singleton] at hm; rw [hm]; exact hSn
     ·simp only [List.mem_singleton] at hm; exact absurd (by rw [hm]; exact hD) hmD
   | none =>
     have hv : varP one Sl n = ([⟨2, Sl.length, 0, ⟨#[]⟩⟩], Sl ++ [n]) := by unfold varP; rw [if_neg h1, hpl]
     rw [hv] at hL hsn; obtain ⟨hg, -⟩ := drop_get hL; have hSn : n ∉ Sl := fun h => by have := place_mem.2 h; rw [hpl] at this; cases this
     have hnD : n ∉ D := fun h => hSn (hp.gm.sup n h h1')
     have hsn' : Sl.length < sn := by simp only [List.length_append, List.length_singleton] at hsn; omega
     have hfr := hp.slo.free Sl.length (Nat.le_refl _) hsn'; obtain ⟨e1, d, e2, hd⟩ := fresh_laid hr1
     have hX : patX L (N + 1) a S sl = ⟨(S.cells.length : Int), 0, a + 1, plusS S [d], sl.set Sl.length (S.cells.length : Int)⟩ := by
      unfold patX; rw [hg]; simp only []; rw [if_neg (by decide), if_pos (by simp)]
      unfold slotX; simp only [Int.toNat_natCast, List.getD, hfr, Option.getD_some]; rw [if_pos (by decide), e1, e2]
      simp
     rw [hX]; refine ⟨rfl, by rw [hsz], by simp, by simp [plusS]; omega, fun m => if m = n then S.cells.length else γ m, by simp [varT, LdT], ?_⟩; rw [ho, hsz, patT_var', hv]; refine PL.fresh hp n hnD hd hr1 ⟨by simp [hp.slo.len], fun j m hj => ?_, fun j h1 h2 => ?_⟩ (fun m hm => ?_) (fun m hm h0 => ?_)
     ·by_cases hj' : j < Sl.length
      ·rw [List.getElem?_append_left hj'] at hj
       have : m ≠ n := fun e => hSn (by rw [← e]; exact List.mem_of_getElem? hj)
       rw [if_neg this, List.getElem?_set_ne (by omega)]; exact hp.slo.met j m hj
      ·have hjl : j = Sl.length := by
        have := (List.getElem?_eq_some_iff.1 hj).1
        simp at this; omega
       subst hjl; rw [List.getElem?_append_right (Nat.le_refl _), Nat.sub_self] at hj; simp only [List.getElem?_cons_zero, Option.some.injEq] at hj; rw [if_pos hj.symm, List.getElem?_set_self (by rw [hp.slo.len]; exact hsn')]
     ·simp only [List.length_append, List.length_singleton] at h1
      rw [List.getElem?_set_ne (by omega)]; exact hp.slo.free j (by omega) h2
     ·rcases List.mem_append.1 hm with hm | hm
      ·simp [hp.gm.sub m hm]
      ·simp [hm]
     ·rcases List.mem_append.1 hm with hm | hm
      ·simp [hp.gm.sup m hm h0]
      ·simp [hm]
 ·obtain ⟨N, rfl⟩ : ∃ j, N = j + 1 := ⟨N - 1, by simp [intT, Tm.size, sizeL] at hN; omega⟩
  have ho : occT (intT n) = [] := by simp [intT, occT, occL]
  have hsz : (intT n).size = 1 := by simp [intT, Tm.size, sizeL]
  rw [hsz] at hr; rw [patT_int'] at hL hsn; obtain ⟨hg, -⟩ := drop_get hL; have hr1 : (S.cells.length : Int) < S.room := by omega
  obtain ⟨d, e1, hd⟩ := int_laid hr1 n (a + 1) sl
  have hX : patX L (N + 1) a S sl = ⟨(S.cells.length : Int), 0, a + 1, plusS S [d], sl⟩ := by
   unfold patX; rw [hg]; simp only []; rw [if_neg (by decide), if_neg (by decide), if_pos trivial, e1]
  rw [hX]; have hlt := hp.lt; refine ⟨rfl, by rw [hsz], by simp, by simp [plusS]; omega, γ, ?_, ?_⟩
  ·simp only [intT, LdT, if_neg (show ¬ (2 : Int) = 1 by decide)]
   refine ⟨by simpa using hlt, d, by simpa using plus_last S d, hd.1, hd.2.1, hd.2.2.1, hd.2.2.2.2, ?_⟩; rw [hd.2.2.2.1]; unfold LdL; trivial
  ·rw [ho, hsz, patT_int']
   exact (PL.refl hp.slo hp.gm hp.inv).one (plus_inv1 hp.inv hd hr1 (by simp) (by simp) (fun _ => rfl))
 ·obtain ⟨N, rfl⟩ : ∃ j, N = j + 1 := ⟨N - 1, by simp [atomT, Tm.size, sizeL] at hN; omega⟩
  have ho : occT (atomT s) = [] := by simp [atomT, occT, occL]
  have hsz : (atomT s).size = 1 := by simp [atomT, Tm.size, sizeL]
  rw [hsz] at hr; rw [patT_atom'] at hL hsn; obtain ⟨hg, -⟩ := drop_get hL; have hr1 : (S.cells.length : Int) < S.room := by omega
  obtain ⟨d, e1, hd⟩ := atom_laid hr1 hs (a + 1) sl
  have hX : patX L (N + 1) a S sl = ⟨(S.cells.length : Int), 0, a + 1, plusS S [d], sl⟩ := by
   unfold patX; rw [hg]; simp only []; rw [if_neg (by decide), if_neg (by decide), if_neg (by decide), if_pos trivial, e1]
  rw [hX]; have hlt := hp.lt; refine ⟨rfl, by rw [hsz], by simp, by simp [plusS]; omega, γ, ?_, ?_⟩
  ·simp only [atomT, LdT, if_neg (show ¬ (3 : Int) = 1 by decide)]
   refine ⟨by simpa using hlt, d, by simpa using plus_last S d, hd.1, hd.2.1, hd.2.2.1, hd.2.2.2.2, ?_⟩; rw [hd.2.2.2.1]; unfold LdL; trivial
  ·rw [ho, hsz, patT_atom']
   exact (PL.refl hp.slo hp.gm hp.inv).one (plus_inv1 hp.inv hd hr1 (by simp) (by simp) (fun _ => rfl))
 ·obtain ⟨N, rfl⟩ : ∃ j, N = j + 1 := ⟨N - 1, by simp [compT, Tm.size] at hN; omega⟩
  have ho : occT (compT s ar) = occL ar := by simp [compT, occT]
  have hsz : (compT s ar).size = sizeL ar + 1 := by simp [compT, Tm.size]
  rw [hsz] at hr hN; rw [patT_comp'] at hL hsn; rw [ho] at hone; obtain ⟨hg, hd1⟩ := drop_get hL; have hq := patsX_ld (N := N) (n0 := n0) h4 (fun t ht a rest Sl sl γ D S => ih t ht N a rest Sl sl γ D S) ar.length (a + 1) rest Sl sl γ D S (Nat.le_refl _) (by omega) hd1 hp (by omega) hsn hone; rw [List.take_length] at hq; obtain ⟨Q, hQ⟩ : ∃ Q, patsX (patX L N) ar.length (a + 1) S sl = Q := ⟨_, rfl⟩; rw [hQ] at hq; obtain ⟨q1, q2, q3, γ', q4, q5⟩ := hq; obtain ⟨l, hl, hlm⟩ := q5.plus; have hlen : Q.S.cells.length = S.cells.length + l.length := by rw [hl]; simp [plusS]
  have hroom : Q.S.room = S.room := by rw [hl]; rfl
  have hr1 : (Q.S.cells.length : Int) < Q.S.room := by rw [hroom]; omega
  obtain ⟨d, e1, hd⟩ := comp_laid hr1 h1 q3 q4.len h2 h3 Q.at_ Q.sl
  have hX : patX L (N + 1) a S sl = ⟨(Q.S.cells.length : Int), 0, Q.at_, plusS Q.S [d], Q.sl⟩ := by
   unfold patX; rw [hg]; simp only []; rw [if_neg (by decide), if_neg (by decide), if_neg (by decide), if_neg (by decide)]
   unfold compX; simp only [Int.toNat_natCast]; rw [hQ, if_neg (by rw [q1]; decide)]; exact e1
  rw [hX]; have hlt := hp.lt; refine ⟨rfl, by show Q.at_ = _; rw [q2, hsz]; omega, by simp, by simp [plusS]; omega, γ', ?_, ?_⟩
  ·simp only [compT, LdT, if_neg (show ¬ (4 : Int) = 1 by decide)]
   refine ⟨by simp; omega, d, by simpa using plus_last Q.S d, hd.1, hd.2.1, hd.2.2.1, hd.2.2.2.2, ?_⟩; rw [hd.2.2.2.1]; exact LdL.mono (NvK.plus _ _) (fun _ h => h) (fun _ _ => rfl) q4
  ·rw [ho, hsz, patT_comp']
   exact q5.one (plus_inv1 q5.inv hd hr1 q3 (by rw [q4.len]; exact h3) (fun e => by cases e))
structure Mh (one : Int → Bool) (sn n0 : Nat) (γ V : Int → Nat) (D Sl sl : List Int) (S : Sto) : Prop where
 vs : Vs S n0 γ V D
 slo : Slo sn γ Sl sl
 gm : Gm S one γ D Sl
 bnd : ∀ n ∈ D, Bnd S γ V n
theorem mat_ld {L : List Ins} {one : Int → Bool} {sn N n0 : Nat} {V : Int → Nat} : ∀ (ts : List Tm) (xs : List Int) (a : Nat) (rest : List Ins) (Sl sl : List Int) (γ : Int → Nat) (D : List Int) (S : Sto) (k : Nat), mayTL ts = true → sizeL ts ≤ N → sizeL ts ≤ k → L.drop a = (patL one Sl ts).1 ++ rest → Mh one sn n0 γ V D Sl sl S → ((S.cells.length + sizeL ts : Nat) : Int) ≤ S.room → (patL one Sl ts).2.length ≤ sn → (∀ n ∈ occL ts, one n = true → n ∉ D ∧ (occL ts).count n ≤ 1) → LdL S (· < n0) V ts xs → (∀ n ∈ occL ts, V n < n0 ∧ ∃ c, S.cells[V n]? = some c ∧ c.k = 1 ∧ c.lk = -1) →
 ∃ γ' T sl', matX (patX L N) xs a S sl k = ⟨true, 0, T, sl'⟩ ∧ Mh one sn n0 γ' V (D ++ occL ts) (patL one Sl ts).2 sl' T ∧ (∀ x, x < n0 → T.cells[x]? = S.cells[x]?) ∧ T.cells.length ≤ S.cells.length + sizeL ts ∧ T.room = S.room
 | [], [], a, rest, Sl, sl, γ, D, S, k, _, _, _, _, hM, _, _, _, _, _ => by
   refine ⟨γ, S, sl, rfl, ?_, fun _ _ => rfl, by simp, rfl⟩
   simpa [occL, patL] using hM
 | t :: ts, x :: xs, a, rest, Sl, sl, γ, D, S, k, hm, hN, hk, hL, hM, hr, hsn, hone, hld, hV => by
   simp only [mayTL, Bool.and_eq_true] at hm; simp only [sizeL] at hN hk hr; simp only [patL, List.append_assoc] at hL; simp only [LdL] at hld
   have hpt := patX_ld (n0 := n0) t hm.1 N a _ Sl sl γ D S (by omega) hL ⟨hM.vs.inv, hM.vs.lt, hM.slo, hM.gm⟩ (by omega) (by
    have e1 := (patL_slots one hm.2 (patT one Sl t).2).1; have := stepS_len one (occL ts) (patT one Sl t).2; rw [← e1] at this; simp only [patL] at hsn; omega) (fun n hn ho => by
    obtain ⟨g1, g2⟩ := hone n (by simp [occL, hn]) ho; simp only [occL, List.count_append] at g2; exact ⟨g1, by omega⟩)
   obtain ⟨r, hrr⟩ : ∃ r, patX L N a S sl = r := ⟨_, rfl⟩; rw [hrr] at hpt; obtain ⟨p1, p2, p3, p4, γ', p5, p6⟩ := hpt; obtain ⟨l, hl, hlm⟩ := p6.plus; have hlen : r.S.cells.length = S.cells.length + l.length := by rw [hl]; simp [plusS]
   have hroom : r.S.room = S.room := by rw [hl]; rfl
   have hlt := hM.vs.lt; have hold : ∀ x, x < S.cells.length → r.S.cells[x]? = S.cells[x]? := fun x hx => by rw [hl]; exact plus_atS hx
   have hvs : Vs r.S n0 γ' V (D ++ occT t) := by
    refine ⟨p6.inv, by omega, fun n hn => ?_, p6.gm.inj, fun n hn => ?_⟩
    ·rcases List.mem_append.1 hn with hn | hn
     ·obtain ⟨a1, c, a2, a3⟩ := hM.vs.v n hn
      exact ⟨a1, c, by rw [hold _ (List.getElem?_eq_some_iff.1 a2).1]; exact a2, a3⟩
     ·obtain ⟨a1, c, a2, a3⟩ := hV n (by simp [occL, hn])
      exact ⟨a1, c, by rw [hold _ (List.getElem?_eq_some_iff.1 a2).1]; exact a2, a3⟩
    ·by_cases hD : n ∈ D
     ·obtain ⟨a1, c, a2, a3⟩ := hM.vs.st n hD
      rw [p6.agree n hD]; exact ⟨a1, c, by rw [hold _ (List.getElem?_eq_some_iff.1 a2).1]; exact a2, a3⟩
     ·have hE : n ∈ occT t := by simpa [hD] using hn
      obtain ⟨a1, c, a2, a3, a4⟩ := p6.new n hE hD; exact ⟨by omega, c, a2, a3, .inl a4⟩
   have hbd : ∀ n ∈ D, Bnd r.S γ' V n := fun n hn => by
    obtain ⟨c, b1, b2⟩ := hM.bnd n hn; refine ⟨c, ?_, b2⟩; rw [p6.agree n hn, hold _ (List.getElem?_eq_some_iff.1 b1).1]; exact b1
   have hNv : NvK S r.S := by rw [hl]; exact NvK.plus _ _
   obtain ⟨T, k', u1, u2, u3⟩ := uni_ld (n0 := n0) (γ := γ') (V := V) (D := D ++ occT t) t hm.1 k r.S r.cell.toNat x.toNat (by omega) hvs (fun n hn => by simp [hn]) p5 (LdT.mono hNv (fun _ h => h) (fun _ _ => rfl) hld.2.1); have hTl := u3.ext.len; have hTr := u3.ext.room
   have hM' : Mh one sn n0 γ' V (D ++ occT t) (patT one Sl t).2 r.sl T := ⟨u3.vs, p6.slo, ⟨fun n hn => by rw [hTl]; exact p6.gm.lt n hn, p6.gm.inj, p6.gm.sub, p6.gm.sup⟩, fun n hn => by
    rcases List.mem_append.1 hn with h | h
    ·exact u3.keep n hn (hbd n h)
    ·exact u3.done n h⟩
   have hdr : L.drop r.at_ = (patL one (patT one Sl t).2 ts).1 ++ rest := by
    rw [p2, ← (patT_slots one t hm.1 Sl).2, ← List.drop_drop, hL, List.drop_left]
   obtain ⟨γ'', U, sl', v1, v2, v3, v4, v5⟩ := mat_ld (N := N) ts xs r.at_ rest (patT one Sl t).2 r.sl γ' (D ++ occT t) T k' hm.2 (by omega) (by omega) hdr hM' (by rw [hTr, hroom, hTl, hlen]; omega) (by simpa [patL] using hsn) (fun n hn ho => by
    obtain ⟨g1, g2⟩ := hone n (by simp [occL, hn]) ho; simp only [occL, List.count_append] at g2; have h1 := List.count_pos_iff.2 hn; refine ⟨fun e => ?_, by omega⟩; rcases List.mem_append.1 e with e | e
    ·exact g1 e
    ·have := List.count_pos_iff.2 e; omega)
    (LdL.mono (hNv.trans (NvK.ext u3.ext)) (fun _ h => h) (fun _ _ => rfl) hld.2.2) (fun n hn => by
      obtain ⟨a1, a2⟩ := hV n (by simp [occL, hn]); refine ⟨a1, ?_⟩; rw [u3.low _ a1, hold _ (by omega)]; exact a2)
   refine ⟨γ'', U, sl', ?_, ?_, fun x hx => ?_, ?_, ?_⟩
   ·rw [matX_consE hrr p1, u1]
    simp only [if_true]; exact v1
   ·simpa [occL, patL, List.append_assoc] using v2
   ·rw [v3 x hx, u3.low x hx, hold x (by omega)]
   ·simp only [sizeL]; omega
   ·rw [v5, hTr, hroom]
 | [], _ :: _, _, _, _, _, _, _, _, _, _, _, _, _, _, _, _, _, h, _ => by simp [LdL] at h
 | _ :: _, [], _, _, _, _, _, _, _, _, _, _, _, _, _, _, _, _, h, _ => by simp [LdL] at h
theorem got_of_tr {S : Sto} {t : Tm} {x : Nat} (h : Tr S t x) (hs : t.size ≤ 2000) : getT S x = t ∧ getE S x = 0 := by
 have := get_of_tr h hs; unfold getT getE; rw [this]
 simp
mutual
theorem vc_occ : ∀ t, vcT t = occT t
 | .mk k n s a => by simp only [vcT, occT, vc_occL a]
theorem vc_occL : ∀ l, vcL l = occL l
 | [] => rfl
 | t :: l => by simp only [vcL, occL, vc_occ t, vc_occL l]
end
structure SelfOk (c : Cod) (S : Sto) (nm : ByteArray) (head body : Tm) (R : MtR) (r : PtR) : Prop where
 alen : ((cellF S 0).args.length : Int) = c.args
 ok : R.ok = true ∧ R.err = 0
 inv : Inv R.S
 are : areB R.S R.sl true = true
 len : (R.sl.length : Int) = c.slots
 err : r.err = 0 ∧ 0 ≤ r.cell ∧ r.cell < r.S.cells.length
 inv' : Inv r.S
 size : S.cells.length ≤ r.S.cells.length
 get : getE r.S 0 = 0 ∧ getE r.S r.cell.toNat = 0
 num : numT (compT nm [getT r.S 0, getT r.S r.cell.toNat]) = numT (compT nm [head, body])
theorem self_ok {head body : Tm} (mh : mayT head = true) (mb : mayT body = true) (hk : head.k = 3 ∨ head.k = 4) (hsz : head.size + body.size ≤ 900) (nm : ByteArray) :
 SelfOk (compC head body) (putS ⟨2000, [], []⟩ [] head) nm head body (matX (patX (compC head body).l (compC head body).l.length) (cellF (putS ⟨2000, [], []⟩ [] head) 0).args 0 (putS ⟨2000, [], []⟩ [] head) (List.replicate (compC head body).slots.toNat (-1)) 20000)
  (rndB (compC head body) (matX (patX (compC head body).l (compC head body).l.length) (cellF (putS ⟨2000, [], []⟩ [] head) 0).args 0 (putS ⟨2000, [], []⟩ [] head) (List.replicate (compC head body).slots.toNat (-1)) 20000)) := by
 obtain ⟨S0, hS0⟩ : ∃ S0 : Sto, S0 = ⟨2000, [], []⟩ := ⟨_, rfl⟩; have h00 : S0.cells.length = 0 := by rw [hS0]; rfl
 have hr0 : S0.room = 2000 := by rw [hS0]
 have hI0 : Inv S0 := by rw [hS0]; exact Inv.new 2000 (by decide) (by decide)
 rw [← hS0]; have hsp := size_pos head; have hsb := size_pos body; have hck : checkT head = 0 := check_zero mh (by omega); have hmp : MayPut S0 [] head := may_put0 hck (by rw [h00, hr0]; omega); obtain ⟨S, hS⟩ : ∃ S, S = putS S0 [] head := ⟨_, rfl⟩; have hI : Inv S := by rw [hS]; exact hI0.put hmp
 have hlenS : S.cells.length = (putR S0 [] head).2.1.length := by rw [hS, putS_len, h00, Nat.zero_add]
 have hroomS : S.room = 2000 := by rw [hS]; exact hr0
 have hA : AgreeAt S 0 (putR S0 [] head).2.1 := by have := agree_put S0 head; rw [h00] at this; rw [hS]; exact this
 have hlenle : S.cells.length ≤ head.size := by
  have h1 := (cnt_put (lastTop S0.cells) head 0 S0.cells.length [] [] mh rfl hmp.cnt).1; have h2 := cntT_le (fun n => mget [] n) S0.cells.length head 0 []; unfold putR at hlenS; omega
 rw [← hS]; have hinj := put_inj (T0 := lastTop S0.cells) head 0 [] (FInj.nil _); have hGe : (putR S0 [] head).2.2 = (putT (fun n => mget [] n) (lastTop S0.cells) 0 [] head).2.2 := by unfold putR; rw [h00]
 obtain ⟨G, hG⟩ : ∃ G, G = (putR S0 [] head).2.2 := ⟨_, rfl⟩; rw [← hGe, ← hG] at hinj; obtain ⟨V, hVd⟩ : ∃ V : Int → Nat, V = fun n => ((mget G n).getD 0).toNat := ⟨_, rfl⟩
 have hVg : ∀ n v, mget G n = some v → v.toNat = V n ∧ 0 ≤ v := fun n v h => by
  have := hinj.1.2 n v h; rw [hVd]; simp only [h, Option.getD_some]; exact ⟨trivial, this.1⟩
 have hput := put_ld (S := S) (Q := (· < S.cells.length)) (told := fun n => mget [] n) (T0 := lastTop S0.cells) (V := V) (G := G) (fun n => rfl) hVg head 0 [] mh (by have := hA; unfold putR at this; rwa [h00] at this) (fun x _ hx => by
  have e : (putT (fun n => mget [] n) (lastTop S0.cells) 0 [] head).2.1.length = S.cells.length := by rw [hlenS]; unfold putR; rw [h00]
  show x < S.cells.length; omega) (fun n v h => by rw [hG, hGe]; exact h)
 obtain ⟨hld, -, -⟩ := hput; rw [put_base, Int.natCast_zero, Int.toNat_zero] at hld
 have hVin : ∀ n ∈ occT head, V n < S.cells.length ∧ ∃ c, S.cells[V n]? = some c ∧ c.k = 1 ∧ c.lk = -1 := fun n hn => by
  obtain ⟨v, hv⟩ := hinj.2 n (by rw [vc_occ]; exact hn) mh; have hv' := hVg n v hv; rcases put_new (told := fun n => mget [] n) (T0 := lastTop S0.cells) head 0 [] (n, v) (mget_some (by rw [← hGe, ← hG]; exact hv)) with h1 | ⟨i, d, h1, h2, h3, h4, h5⟩
  ·simp at h1
  ·obtain ⟨c, hc, e1, e2, e3, e4, e5⟩ := hA i d (by unfold putR; rw [h00]; exact h1)
   have : V n = i := by rw [← hv'.1]; simp only at h2; omega
   rw [this]; rw [Nat.zero_add] at hc; exact ⟨(List.getElem?_eq_some_iff.1 hc).1, c, hc, e1.trans h3, e5.trans h4⟩
 have hVinj : ∀ m n, m ∈ occT head → n ∈ occT head → V m = V n → m = n := fun m n hm hn e => by
  obtain ⟨v, hv⟩ := hinj.2 m (by rw [vc_occ]; exact hm) mh; obtain ⟨u, hu⟩ := hinj.2 n (by rw [vc_occ]; exact hn) mh; have a1 := hVg m v hv; have a2 := hVg n u hu; have : v = u := by omega
  subst this; exact hinj.1.1 m n v hv hu
 obtain ⟨kh, nh, sh, ah⟩ := head; simp only [Tm.k] at hk; have hk1 : kh ≠ 1 := by omega
 have hocc : occT (.mk kh nh sh ah) = occL ah := by simp [occT, hk1]
 have hargs : mayTL ah = true := by simp only [mayT, Bool.and_eq_true] at mh; exact mh.2
 have hszh : (Tm.mk kh nh sh ah).size = sizeL ah + 1 := by simp only [Tm.size]
 have hld' := hld; unfold LdT at hld'; rw [if_neg hk1] at hld'; obtain ⟨-, c0, hc0, b1, b2, b3, b4, hldL⟩ := hld'; have hcF : cellF S 0 = c0 := by unfold cellF; rw [fol_root hc0 b4, hc0]; rfl
 rw [hcF]; obtain ⟨one, hone⟩ : ∃ one, one = oneB (occT (.mk kh nh sh ah) ++ occT body) := ⟨_, rfl⟩; obtain ⟨C, hC⟩ : ∃ C, C = compC (.mk kh nh sh ah) body := ⟨_, rfl⟩; have hCl : C.l = (patL one [] ah).1 ++ (patT one (patL one [] ah).2 body).1 := by rw [hC, hone]; rfl
 have hCb : C.body.toNat = (patL one [] ah).1.length := by rw [hC, hone]; rfl
 have hCs : C.slots.toNat = (patT one (patL one [] ah).2 body).2.length := by rw [hC, hone]; rfl
 have hCs' : C.slots = ((patT one (patL one [] ah).2 body).2.length : Int) := by rw [hC, hone]; rfl
 rw [← hC]; obtain ⟨e1, e2⟩ := patL_slots one hargs []; obtain ⟨e3, e4⟩ := patT_slots one body mb (patL one [] ah).2; have hCN : C.l.length = sizeL ah + body.size := by rw [hCl, List.length_append, e2, e4]
 have hcnt : ∀ n, one n = true → (occL ah).count n + (occT body).count n = 1 := fun n h => by
  rw [hone] at h; unfold oneB at h; rw [beq_iff_eq, List.count_append, hocc] at h; exact h
 have hsl0 : Slo C.slots.toNat V [] (List.replicate C.slots.toNat (-1)) := ⟨List.length_replicate, fun j n h => by simp at h, fun j _ h => by rw [List.getElem?_replicate, if_pos h]⟩; have hM0 : Mh one C.slots.toNat S.cells.length V V [] [] (List.replicate C.slots.toNat (-1)) S := ⟨⟨hI, Nat.le_refl _, fun n h => by simp at h, fun n h => by simp at h, fun n h => by simp at h⟩, hsl0, ⟨fun n h => by simp at h, fun n h => by simp at h, fun n h => by simp at h, fun n h => by simp at h⟩, fun n h => by simp at h⟩; have hms := stepS_len one (occT body) (patL one [] ah).2; rw [← e3] at hms
 obtain ⟨γ, T, sl, m1, m2, m3, m4, m5⟩ := mat_ld (L := C.l) (one := one) (sn := C.slots.toNat) (N := C.l.length) (n0 := S.cells.length) (V := V) ah c0.args 0 (patT one (patL one [] ah).2 body).1 [] (List.replicate C.slots.toNat (-1)) V [] S 20000 hargs (by omega) (by omega) (by rw [List.drop_zero, hCl]) hM0 (by rw [hroomS]; omega) (by rw [hCs]; exact hms) (fun n hn ho => by
  have := hcnt n ho; exact ⟨by simp, by omega⟩) hldL (fun n hn => hVin n (by rw [hocc]; exact hn))
 rw [List.nil_append] at m2; rw [m1]; have hdrop : C.l.drop C.body.toNat = (patT one (patL one [] ah).2 body).1 ++ [] := by rw [hCb, hCl, List.drop_left, List.append_nil]
 have hb := patX_ld (L := C.l) (one := one) (sn := C.slots.toNat) (n0 := S.cells.length) body mb C.l.length C.body.toNat [] (patL one [] ah).2 sl γ (occL ah) T (by omega) hdrop ⟨m2.vs.inv, m2.vs.lt, m2.slo, m2.gm⟩ (by rw [m5, hroomS]; omega) (by rw [hCs]; exact Nat.le_refl _) (fun n hn ho => by
  have h1 := hcnt n ho; have h2 := List.count_pos_iff.2 hn; refine ⟨fun e => ?_, by omega⟩; have := List.count_pos_iff.2 e; omega)
 have hB : rndB C ⟨true, 0, T, sl⟩ = patX C.l C.l.length C.body.toNat T sl := rfl; rw [hB]; obtain ⟨r, hr⟩ : ∃ r, patX C.l C.l.length C.body.toNat T sl = r := ⟨_, rfl⟩; rw [hr] at hb ⊢; obtain ⟨r1, r2, r3, r4, γ', r5, r6⟩ := hb; obtain ⟨l, hl, hlm⟩ := r6.plus; have hrl : r.S.cells.length = T.cells.length + l.length := by rw [hl]; simp [plusS]
 have hTn := m2.vs.lt; have hold : ∀ x, x < T.cells.length → r.S.cells[x]? = T.cells[x]? := fun x hx => by rw [hl]; exact plus_atS hx
 have hVU : ∀ n ∈ occL ah, fol r.S (V n) = V n ∧ V n < r.S.cells.length ∧ (cellF r.S (V n)).k = 1 := fun n hn => by
  obtain ⟨a1, c, a2, a3, a4⟩ := m2.vs.v n hn; have hc : r.S.cells[V n]? = some c := by rw [hold _ (by omega)]; exact a2
  have hf := fol_root hc a4; refine ⟨hf, by omega, ?_⟩; unfold cellF; rw [hf, hc]; exact a3
 have hBU : ∀ n ∈ occL ah, fol r.S (γ' n) = V n := fun n hn => by
  obtain ⟨c, a2, a3⟩ := m2.bnd n hn; obtain ⟨b1, d, b2, b3, b4⟩ := m2.vs.v n hn; rw [r6.agree n hn]; have hx := (List.getElem?_eq_some_iff.1 a2).1; have hc : r.S.cells[γ n]? = some c := by rw [hold _ hx]; exact a2
  have hd : r.S.cells[V n]? = some d := by rw [hold _ (by omega)]; exact b2
  obtain ⟨hx, rfl⟩ := List.getElem?_eq_some_iff.1 hc; obtain ⟨hy, rfl⟩ := List.getElem?_eq_some_iff.1 hd; exact fol_eq (f := 1) ⟨hx, V n, a3, hy, by rw [b4]; decide, rfl⟩
 have hgl : ∀ n ∈ occL ah ++ occT body, γ' n < r.S.cells.length := fun n hn => r6.gm.lt n hn
 have hnew : ∀ n ∈ occT body, n ∉ occL ah → fol r.S (γ' n) = γ' n ∧ (cellF r.S (γ' n)).k = 1 ∧ T.cells.length ≤ γ' n := fun n hn hD => by
  obtain ⟨a1, c, a2, a3, a4⟩ := r6.new n hn hD; have hf := fol_root a2 a4; refine ⟨hf, ?_, a1⟩; unfold cellF; rw [hf, a2]; exact a3
 obtain ⟨β, hβ⟩ : ∃ β : Int → Int, β = fun n => if n ∈ occL ah then ((V n : Nat) : Int) else ((γ' n : Nat) : Int) := ⟨_, rfl⟩
 have hldU : LdT r.S (· < S.cells.length) V (.mk kh nh sh ah) 0 := LdT.mono (S := S) (fun x c hc hk => by
  have hx := (List.getElem?_eq_some_iff.1 hc).1; rw [hold x (by omega), m3 x hx]; exact hc) (fun _ h => h) (fun _ _ => rfl) hld
 have tr1 := ld_tr r6.inv _ mh 0 hldU (fun n hn => by rw [hocc] at hn; have := hVU n hn; exact ⟨this.2.1, this.2.2⟩)
 have tr2 := ld_tr r6.inv _ mb _ r5 (fun n hn => ⟨hgl n (by simp [hn]), by
  by_cases hD : n ∈ occL ah
  ·have h1 := hBU n hD
   have h2 := hVU n hD; have : cellF r.S (γ' n) = cellF r.S (V n) := by unfold cellF; rw [h1, h2.1]
   rw [this]; exact h2.2.2
  ·exact (hnew n hn hD).2.1⟩)
 have c1 : renT (fun n => ((fol r.S (V n) : Nat) : Int)) (.mk kh nh sh ah) = renT β (.mk kh nh sh ah) := renT_congrv _ fun n hn => by
  rw [vc_occ, hocc] at hn; rw [hβ]; simp only [if_pos hn, (hVU n hn).1]
 have c2 : renT (fun n => ((fol r.S (γ' n) : Nat) : Int)) body = renT β body := renT_congrv _ fun n hn => by
  rw [vc_occ] at hn; rw [hβ]
  by_cases hD : n ∈ occL ah
  ·simp only [if_pos hD, hBU n hD]
  ·simp only [if_neg hD, (hnew n hn hD).1]
 rw [c1] at tr1; rw [c2] at tr2; have g1 := got_of_tr tr1 (by rw [renT_size]; omega); have g2 := got_of_tr tr2 (by rw [renT_size]; omega); refine ⟨by rw [hcF, hldL.len, hC]; rfl, ⟨rfl, rfl⟩, m2.vs.inv, are_slots fun x hx => ?_, by show (sl.length : Int) = _; rw [m2.slo.len, hCs, hCs'], ⟨r1, r3, r4⟩, r6.inv, by omega, ⟨g1.2, g2.2⟩, ?_⟩
 ·obtain ⟨j, hj, rfl⟩ := List.getElem_of_mem hx
  have hgj := List.getElem?_eq_getElem hj
  by_cases hlt : j < (patL one [] ah).2.length
  ·have := m2.slo.met j _ (List.getElem?_eq_getElem hlt)
   rw [hgj] at this
   right
   rw [Option.some.inj this]; have h2 := m2.gm.lt _ (m2.gm.sub _ (List.getElem_mem hlt)); show 0 ≤ ((γ _ : Nat) : Int) ∧ ((γ _ : Nat) : Int) < (T.cells.length : Int); omega
  ·have := m2.slo.free j (by omega) (by rw [← m2.slo.len]; exact hj)
   rw [hgj] at this
   left
   exact Option.some.inj this
 ·rw [g1.1, g2.1]
  have : compT nm [renT β (.mk kh nh sh ah), renT β body] = renT β (compT nm [.mk kh nh sh ah, body]) := by
   simp only [compT, renT, renL, if_neg (show ¬ (4 : Int) = 1 by decide)]
  rw [this]; refine numT_renv _ fun m n hm hn e => ?_
  rw [vc_occ] at hm hn
  have ho : occT (compT nm [.mk kh nh sh ah, body]) = occL ah ++ occT body := by
   simp only [compT, occT, occL, if_neg (show ¬ (4 : Int) = 1 by decide), List.append_nil, if_neg hk1]
  rw [ho] at hm hn; rw [hβ] at e; simp only at e
  by_cases h1 : m ∈ occL ah
  ·by_cases h2 : n ∈ occL ah
   ·rw [if_pos h1, if_pos h2] at e
    exact hVinj m n (by rw [hocc]; exact h1) (by rw [hocc]; exact h2) (by omega)
   ·rw [if_pos h1, if_neg h2] at e
    have a1 := (m2.vs.v m h1).1; have a2 := (hnew n (by simpa [h2] using hn) h2).2.2; omega
  ·by_cases h2 : n ∈ occL ah
   ·rw [if_neg h1, if_pos h2] at e
    have a1 := (m2.vs.v n h2).1; have a2 := (hnew m (by simpa [h1] using hm) h1).2.2; omega
   ·rw [if_neg h1, if_neg h2] at e
    exact r6.gm.inj m hm n hn (by omega)
end Go.Proofs.Ytcbijikalfodnaa.Tms
