
/-
  Layer 19, plain: what was compiled may be, and is told back as the same clause, but for its variables' numbers. No program stands here.
-/
import Derived.Test.YtibjcfbilkkmkaaBak
import Derived.Test.YtibjcfbilkkmkaaPla
namespace Go.Proofs.Ytibjcfbilkkmkaa.Tms
open Go Go.RowKit Go.Proofs.Ytibjcfbilkkmkaa.Cod
set_option linter.unusedVariables false
set_option linter.unusedSimpArgs false

theorem bytes_empty {s : ByteArray} (h : s.toList.isEmpty = true) : s = ⟨#[]⟩ := by
  rw [ByteArray.toList_eq] at h
  obtain ⟨⟨l⟩⟩ := s
  cases l with
  | nil => rfl
  | cons x l => simp at h
theorem may_form {t : Tm} (h : mayT t = true) : (∃ n, 0 ≤ n ∧ t = varT n) ∨ (∃ n, t = intT n) ∨ (∃ s, s.size ≤ 1000 ∧ t = atomT s) ∨ ∃ s a, s.size ≤ 1000 ∧ 1 ≤ a.length ∧ a.length ≤ 255 ∧ mayTL a = true ∧ t = compT s a := by
  have hk := may_kind h
  obtain ⟨k, n, s, a⟩ := t
  simp only [Tm.k] at hk
  simp only [mayT, Bool.and_eq_true] at h
  obtain ⟨hb, ha⟩ := h
  rcases hk with rfl | rfl | rfl | rfl
  · left
    simp only [mayB, if_true, Bool.and_eq_true, decide_eq_true_eq] at hb
    obtain ⟨h1, h2, h3⟩ := hb
    exact ⟨n, h1, by rw [bytes_empty h2, List.eq_nil_of_length_eq_zero h3]; rfl⟩
  · right; left
    simp only [mayB, Bool.and_eq_true, decide_eq_true_eq] at hb
    simp at hb
    obtain ⟨h2, h3⟩ := hb
    refine ⟨n, ?_⟩
    rw [h3, show s = ⟨#[]⟩ from bytes_empty (by simpa using h2)]; rfl
  · right; right; left
    simp [mayB] at hb
    obtain ⟨h1, h2, h3⟩ := hb
    exact ⟨s, h2, by rw [h1, h3]; rfl⟩
  · right; right; right
    simp [mayB] at hb
    obtain ⟨h1, h2, h3, h4⟩ := hb
    exact ⟨s, a, h2, by omega, h4, ha, by rw [h1]; rfl⟩

/-- the slots that were met, number by number -/
def stepS (one : Int → Bool) (S : List Int) (n : Int) : List Int := if one n = true then S else numL S n
theorem varP_slots (one : Int → Bool) (S : List Int) (n : Int) : (varP one S n).2 = stepS one S n := by
  unfold varP stepS numL
  split
  · rfl
  · cases place S n <;> rfl
/-- by how a term that may be is made up -/
theorem patT_var' (one : Int → Bool) (S : List Int) (n : Int) : patT one S (varT n) = varP one S n := patT_var rfl
theorem patT_int' (one : Int → Bool) (S : List Int) (n : Int) : patT one S (intT n) = ([⟨4, 0, n, ⟨#[]⟩⟩], S) := patT_int rfl
theorem patT_atom' (one : Int → Bool) (S : List Int) (s : ByteArray) : patT one S (atomT s) = ([⟨5, 0, 0, s⟩], S) := patT_atom rfl
theorem patT_comp' (one : Int → Bool) (S : List Int) (s : ByteArray) (a : List Tm) : patT one S (compT s a) = (⟨6, a.length, 0, s⟩ :: (patL one S a).1, (patL one S a).2) := patT_comp rfl
theorem mayTL_mem {l : List Tm} (h : mayTL l = true) : ∀ t ∈ l, mayT t = true := by
  induction l with
  | nil => simp
  | cons x l ih =>
    simp only [mayTL, Bool.and_eq_true] at h
    intro t ht
    rcases List.mem_cons.1 ht with rfl | ht
    · exact h.1
    · exact ih h.2 t ht
/-- what holds of the four ways a term may be made up holds of all terms that may be -/
theorem may_ind {M : Tm → Prop} (hv : ∀ n, 0 ≤ n → M (varT n)) (hi : ∀ n, M (intT n)) (ha : ∀ s, s.size ≤ 1000 → M (atomT s))
    (hc : ∀ s a, s.size ≤ 1000 → 1 ≤ a.length → a.length ≤ 255 → mayTL a = true → (∀ t ∈ a, M t) → M (compT s a)) : ∀ t, mayT t = true → M t := by
  have key : ∀ N, ∀ t : Tm, t.size ≤ N → mayT t = true → M t := by
    intro N
    induction N with
    | zero => intro t h; have := size_pos t; omega
    | succ N ih =>
      intro t hN h
      rcases may_form h with ⟨n, h1, rfl⟩ | ⟨n, rfl⟩ | ⟨s, h1, rfl⟩ | ⟨s, a, h1, h2, h3, h4, rfl⟩
      · exact hv n h1
      · exact hi n
      · exact ha s h1
      · refine hc s a h1 h2 h3 h4 fun t ht => ?_
        have hs : t.size ≤ sizeL a := by
          obtain ⟨i, hi, rfl⟩ := List.getElem_of_mem ht
          exact size_mem hi
        simp only [compT, Tm.size] at hN
        exact ih t (by omega) (mayTL_mem h4 t ht)
  exact fun t h => key t.size t (Nat.le_refl _) h

/-- the slots behind a term, and how many instructions it takes -/
theorem patL_slots_of (one : Int → Bool) : ∀ (l : List Tm), (∀ t ∈ l, ∀ S, (patT one S t).2 = (occT t).foldl (stepS one) S ∧ (patT one S t).1.length = t.size) → ∀ S, (patL one S l).2 = (occL l).foldl (stepS one) S ∧ (patL one S l).1.length = sizeL l
  | [], _, S => by simp [patL, occL, sizeL]
  | t :: l, h, S => by
    obtain ⟨h1, h2⟩ := h t (by simp) S
    obtain ⟨h3, h4⟩ := patL_slots_of one l (fun x hx => h x (by simp [hx])) (patT one S t).2
    simp only [patL, occL, sizeL, List.foldl_append, List.length_append, h2, h4]
    rw [h3, h1]
    exact ⟨rfl, trivial⟩
theorem patT_slots (one : Int → Bool) : ∀ t, mayT t = true → ∀ S, (patT one S t).2 = (occT t).foldl (stepS one) S ∧ (patT one S t).1.length = t.size := by
  refine may_ind (fun n hn S => ?_) (fun n S => ?_) (fun s hs S => ?_) fun s a h1 h2 h3 h4 ih S => ?_
  · rw [patT_var', varP_slots, varP_len]
    simp [varT, occT, occL, Tm.size, sizeL]
  · rw [patT_int']; simp [intT, occT, occL, Tm.size, sizeL]
  · rw [patT_atom']; simp [atomT, occT, occL, Tm.size, sizeL]
  · obtain ⟨e1, e2⟩ := patL_slots_of one a ih S
    rw [patT_comp']
    simp only [compT, occT, Tm.size, List.length_cons, e2, e1]
    rw [if_neg (by decide)]
    exact ⟨rfl, trivial⟩
theorem patL_slots (one : Int → Bool) {l : List Tm} (h : mayTL l = true) (S : List Int) : (patL one S l).2 = (occL l).foldl (stepS one) S ∧ (patL one S l).1.length = sizeL l :=
  patL_slots_of one l (fun t ht S => patT_slots one t (mayTL_mem h t ht) S) S
theorem step_app (one : Int → Bool) : ∀ (D S : List Int), ∃ M, D.foldl (stepS one) S = S ++ M
  | [], S => ⟨[], by simp⟩
  | n :: D, S => by
    obtain ⟨M, h⟩ := step_app one D (stepS one S n)
    rw [List.foldl_cons, h]
    unfold stepS numL
    split
    · exact ⟨M, rfl⟩
    · split
      · exact ⟨M, rfl⟩
      · exact ⟨[n] ++ M, by simp⟩

/-! ### What was compiled may be -/
theorem ok_var (one : Int → Bool) (S : List Int) (n : Int) : (varP one S n).1.all Ins.ok = true := by
  unfold varP
  split
  · simp [Ins.ok, Ins.isAny, nil_empty]
  · cases place S n <;> simp [Ins.ok, Ins.isSlot, nil_empty]
theorem patT_ok (one : Int → Bool) : ∀ t, mayT t = true → ∀ S, (patT one S t).1.all Ins.ok = true := by
  refine may_ind (fun n hn S => ?_) (fun n S => ?_) (fun s hs S => ?_) fun s a h1 h2 h3 h4 ih S => ?_
  · rw [patT_var']; exact ok_var one S n
  · rw [patT_int']; simp [Ins.ok, Ins.isNum, nil_empty]
  · rw [patT_atom']; simp [Ins.ok, Ins.isName]; omega
  · rw [patT_comp']
    have key : ∀ (l : List Tm), (∀ t ∈ l, ∀ S, (patT one S t).1.all Ins.ok = true) → ∀ S, (patL one S l).1.all Ins.ok = true := by
      intro l
      induction l with
      | nil => intro _ S; simp [patL]
      | cons x l ihl => intro h S; simp only [patL, List.all_append, h x (by simp) S, ihl (fun t ht => h t (by simp [ht])) _, Bool.and_self]
    simp only [List.all_cons, key a ih S, Bool.and_true]
    simp [Ins.ok, Ins.isComp]
    omega
theorem bad_ok {i : Ins} (h1 : 1 ≤ i.op) (h2 : i.op ≤ 6) (h3 : i.op = 6 → 1 ≤ i.a ∧ i.a ≤ 255) : i.bad = false := by
  simp only [Ins.bad, Bool.or_eq_false_iff, Bool.and_eq_false_iff, decide_eq_false_iff_not, not_or]
  by_cases h : i.op = 6
  · have := h3 h; omega
  · omega
/-- a term's instructions are one pattern -/
theorem patT_sk (one : Int → Bool) : ∀ t, mayT t = true → ∀ S tail n, sk ((patT one S t).1 ++ tail) (n + 1) = (sk tail n).map (· + t.size) := by
  refine may_ind (fun n hn S tail m => ?_) (fun n S tail m => ?_) (fun s hs S tail m => ?_) fun s a h1 h2 h3 h4 ih S tail m => ?_
  · have : ∃ i : Ins, (varP one S n).1 = [i] ∧ i.bad = false ∧ i.ar = 0 := by
      unfold varP
      split
      · exact ⟨_, rfl, by decide, rfl⟩
      · cases place S n
        · exact ⟨_, rfl, bad_ok (by simp) (by simp) (fun h => by simp at h), rfl⟩
        · exact ⟨_, rfl, bad_ok (by simp) (by simp) (fun h => by simp at h), rfl⟩
    obtain ⟨i, e, hb, ha⟩ := this
    rw [patT_var', e]
    simp only [List.singleton_append, sk, hb, ha, Bool.false_eq_true, if_false, Nat.add_zero]
    rfl
  · rw [patT_int']; simp only [List.singleton_append, sk]; rfl
  · rw [patT_atom']; simp only [List.singleton_append, sk]; rfl
  · rw [patT_comp']
    have hb : (⟨6, a.length, 0, s⟩ : Ins).bad = false := bad_ok (by simp) (by simp) (fun _ => by simp; omega)
    have har : (⟨6, a.length, 0, s⟩ : Ins).ar = a.length := by simp [Ins.ar]
    simp only [List.cons_append, sk, hb, har, Bool.false_eq_true, if_false]
    have key : ∀ (l : List Tm), (∀ t ∈ l, ∀ S tail n, sk ((patT one S t).1 ++ tail) (n + 1) = (sk tail n).map (· + t.size)) → ∀ S tail n, sk ((patL one S l).1 ++ tail) (n + l.length) = (sk tail n).map (· + sizeL l) := by
      intro l
      induction l with
      | nil => intro _ S tail n; simp [patL, sizeL]
      | cons x l ihl =>
        intro h S tail n
        simp only [patL, List.append_assoc, List.length_cons, sizeL]
        rw [← Nat.add_assoc, h x (by simp), ihl fun t ht => h t (by simp [ht])]
        cases sk tail n with
        | none => rfl
        | some q => simp; omega
    rw [key a ih S tail m]
    simp only [compT, Tm.size]
    cases sk tail m with
    | none => rfl
    | some q => simp; omega
theorem patT_slotsN (one : Int → Bool) : ∀ t, mayT t = true → ∀ S tail, slotsN ((patT one S t).1 ++ tail) S.length = slotsN tail (patT one S t).2.length := by
  refine may_ind (fun n hn S tail => ?_) (fun n S tail => ?_) (fun s hs S tail => ?_) fun s a h1 h2 h3 h4 ih S tail => ?_
  · rw [patT_var']
    unfold varP
    split
    · simp [slotsN]
    · cases hp : place S n with
      | none => simp [slotsN]
      | some p =>
        have := place_lt hp
        simp only [List.singleton_append, slotsN]
        rw [if_neg (by decide), if_neg (by simp; omega)]
  · rw [patT_int']; simp [slotsN]
  · rw [patT_atom']; simp [slotsN]
  · rw [patT_comp']
    have key : ∀ (l : List Tm), (∀ t ∈ l, ∀ S tail, slotsN ((patT one S t).1 ++ tail) S.length = slotsN tail (patT one S t).2.length) → ∀ S tail, slotsN ((patL one S l).1 ++ tail) S.length = slotsN tail (patL one S l).2.length := by
      intro l
      induction l with
      | nil => intro _ S tail; simp [patL]
      | cons x l ihl =>
        intro h S tail
        simp only [patL, List.append_assoc]
        rw [h x (by simp), ihl fun t ht => h t (by simp [ht])]
    simp only [List.cons_append, slotsN]
    rw [if_neg (by decide), if_neg (by simp)]
    exact key a ih S tail

/-- how far so many patterns of a list of terms reach -/
theorem patL_pfw (one : Int → Bool) {l : List Tm} (h : mayTL l = true) (S : List Int) (tail : List Ins) : ∀ k, k ≤ l.length → pfw ((patL one S l).1 ++ tail) k = some (sizeL (l.take k))
  | 0, _ => by simp [pfw, sizeL]
  | k + 1, hk => by
    have ih := patL_pfw one h S tail k (by omega)
    rw [pfw_succ ih]
    have hd : (patL one S l).1 ++ tail = (patL one S (l.take k)).1 ++ ((patT one (patL one S (l.take k)).2 l[k]).1 ++ ((patL one (patL one S (l.take (k + 1))).2 (l.drop (k + 1))).1 ++ tail)) := by
      have e : l = l.take (k + 1) ++ l.drop (k + 1) := (List.take_append_drop _ _).symm
      have happ : ∀ (a b : List Tm) (S : List Int), patL one S (a ++ b) = ((patL one S a).1 ++ (patL one (patL one S a).2 b).1, (patL one (patL one S a).2 b).2) := by
        intro a
        induction a with
        | nil => intro b S; simp [patL]
        | cons x a iha => intro b S; simp only [List.cons_append, patL, iha]; simp
      conv => lhs; rw [e, happ]
      simp only
      rw [show (patL one S (l.take (k + 1))).1 = (patL one S (l.take k)).1 ++ (patT one (patL one S (l.take k)).2 l[k]).1 by rw [patL_take one S l k (by omega)]]
      simp
    have hml : mayTL (l.take k) = true := by
      have key : ∀ (l : List Tm) (k : Nat), mayTL l = true → mayTL (l.take k) = true := by
        intro l
        induction l with
        | nil => intro k _; simp [mayTL]
        | cons x l ihl =>
          intro k h
          cases k with
          | zero => simp [mayTL]
          | succ k =>
            simp only [mayTL, Bool.and_eq_true, List.take_succ_cons] at h ⊢
            exact ⟨h.1, ihl k h.2⟩
      exact key l k h
    have hlen := (patL_slots one hml S).2
    have hsk : sk (((patL one S l).1 ++ tail).drop (sizeL (l.take k))) 1 = some l[k].size := by
      rw [hd, ← hlen, List.drop_left]
      rw [patT_sk one l[k] (mayTL_mem h _ (List.getElem_mem _)), sk_zero]
      simp
    have hs : skip ((patL one S l).1 ++ tail) ((sizeL (l.take k) : Nat) : Int) = ((sizeL (l.take k) + l[k].size : Nat) : Int) := by
      rw [skip_nat]
      unfold skA
      rw [hsk]
      simp
    rw [hs, if_neg (by omega)]
    have e : l.take (k + 1) = l.take k ++ [l[k]] := List.take_succ_eq_append_getElem (by omega)
    rw [e, sizeL_app, Int.toNat_natCast]
    simp [sizeL]
theorem compC_ok {h b : Tm} (mh : mayT h = true) (mb : mayT b = true) (hk : h.k = 3 ∨ h.k = 4) (hs : h.size + b.size ≤ 20000) : check (compC h b) = 0 := by
  have hargs : mayTL h.args = true ∧ h.args.length ≤ 255 ∧ h.s.size ≤ 1000 := by
    rcases may_form mh with ⟨n, h1, rfl⟩ | ⟨n, rfl⟩ | ⟨s, h1, rfl⟩ | ⟨s, a, h1, h2, h3, h4, rfl⟩
    · simp [varT, Tm.k] at hk
    · simp [intT, Tm.k] at hk
    · exact ⟨rfl, by simp [atomT, Tm.args], h1⟩
    · exact ⟨h4, h3, h1⟩
  have hsz : h.size = sizeL h.args + 1 := by obtain ⟨k, n, s, ar⟩ := h; simp [Tm.size, Tm.args]
  generalize hone : oneB (occT h ++ occT b) = one
  obtain ⟨e1, e2⟩ := patL_slots one hargs.1 []
  obtain ⟨e3, e4⟩ := patT_slots one b mb (patL one [] h.args).2
  have hl : (compC h b).l = (patL one [] h.args).1 ++ (patT one (patL one [] h.args).2 b).1 := by rw [← hone]; rfl
  have hlen : (compC h b).l.length = sizeL h.args + b.size := by rw [hl, List.length_append, e2, e4]
  have hp : pfw (compC h b).l h.args.length = some (sizeL h.args) := by
    rw [hl, patL_pfw one hargs.1 [] _ h.args.length (Nat.le_refl _), List.take_length]
  have ha : (compC h b).args = h.args.length := rfl
  have hb : (compC h b).body = (patL one [] h.args).1.length := by rw [← hone]; rfl
  have hsl : (compC h b).slots = (patT one (patL one [] h.args).2 b).2.length := by rw [← hone]; rfl
  have hn : (compC h b).name = h.s := rfl
  have hskip : skip (compC h b).l ((sizeL h.args : Nat) : Int) = (compC h b).l.length := by
    rw [skip_nat]
    unfold skA
    have hd : (compC h b).l.drop (sizeL h.args) = (patT one (patL one [] h.args).2 b).1 ++ [] := by rw [hl, ← e2, List.drop_left]; simp
    rw [hd, patT_sk one b mb, sk_zero, hlen]
    simp
  have hok : (compC h b).l.all Ins.ok = true := by
    rw [hl, List.all_append, patT_ok one b mb]
    have key : ∀ (l : List Tm) (S : List Int), mayTL l = true → (patL one S l).1.all Ins.ok = true := by
      intro l
      induction l with
      | nil => intro S _; simp [patL]
      | cons x l ihl =>
        intro S h
        simp only [mayTL, Bool.and_eq_true] at h
        simp only [patL, List.all_append, patT_ok one x h.1, ihl _ h.2, Bool.and_self]
    rw [key _ _ hargs.1]
    rfl
  have hslot : slotsOk (compC h b).l (compC h b).slots = true := by
    unfold slotsOk
    have h0 : slotsN (compC h b).l 0 = some (patT one (patL one [] h.args).2 b).2.length := by
      rw [hl]
      have key : ∀ (l : List Tm) (S : List Int) (tail : List Ins), mayTL l = true → slotsN ((patL one S l).1 ++ tail) S.length = slotsN tail (patL one S l).2.length := by
        intro l
        induction l with
        | nil => intro S tail _; simp [patL]
        | cons x l ihl =>
          intro S tail h
          simp only [mayTL, Bool.and_eq_true] at h
          simp only [patL, List.append_assoc]
          rw [patT_slotsN one x h.1, ihl _ _ h.2]
      have h1 := key h.args [] (patT one (patL one [] h.args).2 b).1 hargs.1
      have h2 := patT_slotsN one b mb (patL one [] h.args).2 []
      rw [List.append_nil] at h2
      rw [show (0 : Nat) = ([] : List Int).length from rfl, h1, h2]
      simp [slotsN]
    rw [h0, hsl]
    simp
  unfold check
  rw [if_neg (by omega), if_neg (by rw [ha, hn, hsl]; omega)]
  have hat : (compC h b).args.toNat = h.args.length := by rw [ha]; simp
  rw [hat, hp]
  simp only [tailB, hb, e2, hskip, hok, hslot]
  simp
end Go.Proofs.Ytibjcfbilkkmkaa.Tms
