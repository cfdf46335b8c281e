
/-
  Layer 19, plain: a code that may be, told back and compiled, is the same, if each of its slots comes again; else just as long, with as many slots as come again. No program stands here.
-/
import Derived.Test.YtibjcfbilkkmkaaBak
import Derived.Test.YtibjcfbilkkmkaaPlb
import Derived.Test.YtibjcfbilkkmkaaBmp
namespace Go.Proofs.Ytibjcfbilkkmkaa.Tms
open Go Go.RowKit Go.Proofs.Ytibjcfbilkkmkaa.Cod
set_option linter.unusedVariables false
set_option linter.unusedSimpArgs false

/-- the instructions that the terms told by instructions are compiled to; the slots' variables -/
def recL (one : Int → Bool) : List Ins → List Int → List Ins × List Int
  | [], S => ([], S)
  | i :: l, S => if i.op = 2 ∨ i.op = 3 then ((varP one S i.a).1 ++ (recL one l (varP one S i.a).2).1, (recL one l (varP one S i.a).2).2) else (i :: (recL one l S).1, (recL one l S).2)
theorem recL_app (one : Int → Bool) : ∀ (l m : List Ins) (S : List Int), recL one (l ++ m) S = ((recL one l S).1 ++ (recL one m (recL one l S).2).1, (recL one m (recL one l S).2).2)
  | [], m, S => rfl
  | i :: l, m, S => by
    simp only [List.cons_append, recL]
    split
    · rw [recL_app one l m]; simp
    · rw [recL_app one l m]; simp
theorem recL_len (one : Int → Bool) : ∀ (l : List Ins) (S : List Int), (recL one l S).1.length = l.length
  | [], S => rfl
  | i :: l, S => by
    simp only [recL]
    split
    · have : (varP one S i.a).1.length = 1 := by unfold varP; split; rfl; split <;> rfl
      simp [recL_len one l, this]; omega
    · simp [recL_len one l]
theorem place_end : ∀ {A : List Int} {n : Int}, n ∉ A → place (A ++ [n]) n = some A.length
  | [], n, _ => by simp [place]
  | x :: A, n, h => by
    simp only [List.mem_cons, not_or] at h
    simp only [List.cons_append, place, if_neg h.1, place_end h.2, Option.map_some, List.length_cons]
/-- how many new variables there are -/
def anyN (l : List Ins) : Nat := (l.filter fun i => decide (i.op = 1)).length
theorem anyN_app (l m : List Ins) : anyN (l ++ m) = anyN l + anyN m := by simp [anyN]
theorem anyN_cons (i : Ins) (l : List Ins) : anyN (i :: l) = (if i.op = 1 then 1 else 0) + anyN l := by
  unfold anyN
  by_cases h : i.op = 1
  · simp [List.filter_cons, h]; omega
  · simp [List.filter_cons, h]
/-- the variables that the instructions tell -/
def occI : List Ins → Int → List Int
  | [], _ => []
  | i :: l, x => if i.op = 1 then x :: occI l (x + 1) else if i.op = 2 ∨ i.op = 3 then i.a :: occI l x else occI l x
theorem occI_app : ∀ (l m : List Ins) (x : Int), occI (l ++ m) x = occI l x ++ occI m (x + anyN l)
  | [], m, x => by simp [occI, anyN]
  | i :: l, m, x => by
    simp only [List.cons_append, occI, anyN_cons]
    by_cases h1 : i.op = 1
    · simp only [if_pos h1, List.cons_append]
      rw [occI_app l m]
      congr 2
      congr 1
      omega
    · simp only [if_neg h1]
      split
      · rw [occI_app l m]; simp
      · rw [occI_app l m]; simp
theorem recL_one (one : Int → Bool) (i : Ins) (S : List Int) : recL one [i] S = if i.op = 2 ∨ i.op = 3 then varP one S i.a else ([i], S) := by
  simp only [recL]
  split <;> simp
theorem ok_1 {i : Ins} (h : i.op = 1) (ho : i.ok = true) : i = ⟨1, 0, 0, ⟨#[]⟩⟩ := by
  obtain ⟨o, a, n, s⟩ := i
  simp only at h
  subst h
  simp [Ins.ok, Ins.isAny] at ho
  obtain ⟨ha, hn, hs⟩ := ho
  rw [ha, hn, bytes_empty (s := s) (by simpa using hs)]
theorem ok_s {i : Ins} (h : i.op = 2 ∨ i.op = 3) (ho : i.ok = true) : i = ⟨i.op, i.a, 0, ⟨#[]⟩⟩ := by
  obtain ⟨o, a, n, s⟩ := i
  simp only at h
  unfold Ins.ok at ho
  rw [if_neg (by show ¬ o = 1; omega), if_pos h] at ho
  simp [Ins.isSlot] at ho
  obtain ⟨hn, hs⟩ := ho
  rw [hn, bytes_empty (s := s) (by simpa using hs)]
theorem ok_4 {i : Ins} (h : i.op = 4) (ho : i.ok = true) : i = ⟨4, 0, i.n, ⟨#[]⟩⟩ := by
  obtain ⟨o, a, n, s⟩ := i
  simp only at h
  subst h
  simp [Ins.ok, Ins.isNum] at ho
  obtain ⟨ha, hs⟩ := ho
  rw [ha, bytes_empty (s := s) (by simpa using hs)]
theorem ok_5 {i : Ins} (h : i.op = 5) (ho : i.ok = true) : i = ⟨5, 0, 0, i.s⟩ ∧ i.s.size ≤ 1000 := by
  obtain ⟨o, a, n, s⟩ := i
  simp only at h
  subst h
  simp [Ins.ok, Ins.isName] at ho
  obtain ⟨ha, hn, hs⟩ := ho
  rw [ha, hn]
  exact ⟨rfl, by show s.size ≤ 1000; omega⟩
theorem ok_6 {i : Ins} (h : i.op = 6) (ho : i.ok = true) : i = ⟨6, i.a, 0, i.s⟩ ∧ i.s.size ≤ 1000 := by
  obtain ⟨o, a, n, s⟩ := i
  simp only at h
  subst h
  simp [Ins.ok, Ins.isComp] at ho
  obtain ⟨hn, hs⟩ := ho
  rw [hn]
  exact ⟨rfl, by show s.size ≤ 1000; omega⟩
theorem take_size9 (N : Nat) : (∀ l x j, sk l 1 = some j → j ≤ N → (takeT N l x).1.size ≤ j) ∧ ∀ n l x j, sk l n = some j → j ≤ N → sizeL (takeN (takeT N) n l x).1 ≤ j := by
  induction N with
  | zero =>
    refine ⟨fun l x j h hj => ?_, fun n l x j h hj => ?_⟩
    · obtain ⟨i, l', q, -, -, -, e⟩ := sk_one h; omega
    · cases n with
      | zero => rw [sk_zero] at h; cases h; simp [takeN, sizeL]
      | succ n => have := sk_pos l n j h; omega
  | succ N ih =>
    have h1 : ∀ l x j, sk l 1 = some j → j ≤ N + 1 → (takeT (N + 1) l x).1.size ≤ j := fun l x j h hj => by
      obtain ⟨i, l', q, rfl, hb, hq, rfl⟩ := sk_one h
      have hn := not_bad hb
      by_cases o6 : i.op = 6
      · have har : i.ar = i.a.toNat := by simp [Ins.ar, o6]
        rw [har] at hq
        simp only [takeT]
        rw [if_neg (by omega), if_neg (by omega), if_neg (by omega), if_neg (by omega)]
        have a := ih.2 _ _ x _ hq (by omega)
        simp only [compT, Tm.size]
        omega
      · simp only [takeT]
        split
        · simp only [varT, Tm.size, sizeL]; omega
        · split
          · simp only [varT, Tm.size, sizeL]; omega
          · split
            · simp only [intT, Tm.size, sizeL]; omega
            · split
              · simp only [atomT, Tm.size, sizeL]; omega
              · omega
    refine ⟨h1, fun n => ?_⟩
    induction n with
    | zero => intro l x j h hj; rw [sk_zero] at h; cases h; simp [takeN, sizeL]
    | succ n ihn =>
      intro l x j h hj
      obtain ⟨a, b, ha, hb, rfl⟩ := sk_split l 1 n j (by rw [Nat.add_comm]; exact h)
      have hr := (take_rest (N + 1)).1 l x a ha (by omega)
      have p1 := h1 l x a ha (by omega)
      have q1 := ihn (l.drop a) (takeT (N + 1) l x).2.2 b hb (by omega)
      simp only [takeN, hr]
      simp only [sizeL]
      omega
theorem take_occ (N : Nat) : (∀ l x j, sk l 1 = some j → j ≤ N → occT (takeT N l x).1 = occI (l.take j) x ∧ (takeT N l x).2.2 = x + anyN (l.take j)) ∧
    ∀ n l x j, sk l n = some j → j ≤ N → occL (takeN (takeT N) n l x).1 = occI (l.take j) x ∧ (takeN (takeT N) n l x).2.2 = x + anyN (l.take j) := by
  have hu : ∀ (k n : Int) (s : ByteArray) (a : List Tm), occT (.mk k n s a) = if k = 1 then n :: occL a else occL a := fun _ _ _ _ => by rw [occT]
  induction N with
  | zero =>
    refine ⟨fun l x j h hj => ?_, fun n l x j h hj => ?_⟩
    · obtain ⟨i, l', q, -, -, -, e⟩ := sk_one h; omega
    · cases n with
      | zero => rw [sk_zero] at h; cases h; simp [takeN, occL, occI, anyN]
      | succ n => have := sk_pos l n j h; omega
  | succ N ih =>
    have h1 : ∀ l x j, sk l 1 = some j → j ≤ N + 1 → occT (takeT (N + 1) l x).1 = occI (l.take j) x ∧ (takeT (N + 1) l x).2.2 = x + anyN (l.take j) := fun l x j h hj => by
      obtain ⟨i, l', q, rfl, hb, hq, rfl⟩ := sk_one h
      have hn := not_bad hb
      rw [List.take_succ_cons]
      by_cases o6 : i.op = 6
      · have har : i.ar = i.a.toNat := by simp [Ins.ar, o6]
        rw [har] at hq
        simp only [takeT]
        rw [if_neg (by omega), if_neg (by omega), if_neg (by omega), if_neg (by omega)]
        obtain ⟨e1, e2⟩ := ih.2 _ _ x _ hq (by omega)
        simp only [occI, anyN_cons]
        rw [if_neg (by omega), if_neg (by omega), if_neg (by omega)]
        refine ⟨?_, by simp only [e2]; omega⟩
        show occT (.mk 4 0 i.s _) = _
        rw [hu, if_neg (by decide)]
        exact e1
      · have har : i.ar = 0 := by simp [Ins.ar, o6]
        rw [har, sk_zero] at hq
        cases hq
        simp only [takeT, List.take_zero, occI, anyN_cons]
        by_cases o1 : i.op = 1
        · simp only [if_pos o1]
          exact ⟨by show occT (.mk 1 x _ []) = _; rw [hu, if_pos rfl]; simp [occL], by simp [anyN]⟩
        · simp only [if_neg o1]
          by_cases o2 : i.op = 2 ∨ i.op = 3
          · simp only [if_pos o2]
            exact ⟨by show occT (.mk 1 i.a _ []) = _; rw [hu, if_pos rfl]; simp [occL], by simp [anyN]⟩
          · simp only [if_neg o2]
            by_cases o4 : i.op = 4
            · simp only [if_pos o4]
              exact ⟨by show occT (.mk 2 i.n _ []) = _; rw [hu, if_neg (by decide)]; simp [occL], by simp [anyN]⟩
            · have o5 : i.op = 5 := by omega
              simp only [if_neg o4, if_pos o5]
              exact ⟨by show occT (.mk 3 0 i.s []) = _; rw [hu, if_neg (by decide)]; simp [occL], by simp [anyN]⟩
    refine ⟨h1, fun n => ?_⟩
    induction n with
    | zero => intro l x j h hj; rw [sk_zero] at h; cases h; simp [takeN, occL, occI, anyN]
    | succ n ihn =>
      intro l x j h hj
      obtain ⟨a, b, ha, hb, rfl⟩ := sk_split l 1 n j (by rw [Nat.add_comm]; exact h)
      have hr := (take_rest (N + 1)).1 l x a ha (by omega)
      obtain ⟨p1, p2⟩ := h1 l x a ha (by omega)
      obtain ⟨q1, q2⟩ := ihn (l.drop a) (takeT (N + 1) l x).2.2 b hb (by omega)
      simp only [takeN, hr, occL]
      rw [q1, q2, p1, p2, List.take_add, occI_app, anyN_app]
      exact ⟨rfl, by omega⟩
theorem take_pat (one : Int → Bool) (N : Nat) : (∀ l x j S, sk l 1 = some j → j ≤ N → (∀ i ∈ l.take j, i.ok = true) → (∀ y, x ≤ y → y < (takeT N l x).2.2 → one y = true) → patT one S (takeT N l x).1 = recL one (l.take j) S) ∧
    ∀ n l x j S, sk l n = some j → j ≤ N → (∀ i ∈ l.take j, i.ok = true) → (∀ y, x ≤ y → y < (takeN (takeT N) n l x).2.2 → one y = true) → patL one S (takeN (takeT N) n l x).1 = recL one (l.take j) S := by
  induction N with
  | zero =>
    refine ⟨fun l x j S h hj => ?_, fun n l x j S h hj => ?_⟩
    · obtain ⟨i, l', q, -, -, -, e⟩ := sk_one h; omega
    · cases n with
      | zero => rw [sk_zero] at h; cases h; intro _ _; simp [takeN, patL, recL]
      | succ n => have := sk_pos l n j h; omega
  | succ N ih =>
    have h1 : ∀ l x j S, sk l 1 = some j → j ≤ N + 1 → (∀ i ∈ l.take j, i.ok = true) → (∀ y, x ≤ y → y < (takeT (N + 1) l x).2.2 → one y = true) → patT one S (takeT (N + 1) l x).1 = recL one (l.take j) S := fun l x j S h hj hok hone => by
      obtain ⟨i, l', q, rfl, hb, hq, rfl⟩ := sk_one h
      have hn := not_bad hb
      rw [List.take_succ_cons] at hok ⊢
      have hoi := hok i (by simp)
      by_cases o6 : i.op = 6
      · have har : i.ar = i.a.toNat := by simp [Ins.ar, o6]
        rw [har] at hq
        simp only [takeT] at hone ⊢
        rw [if_neg (by omega), if_neg (by omega), if_neg (by omega), if_neg (by omega)] at hone ⊢
        have e1 := ih.2 _ _ x _ S hq (by omega) (fun i' hi' => hok i' (by simp [hi'])) hone
        simp only [recL]
        rw [if_neg (by omega), patT_comp', e1, takeN_len]
        have e2 := (ok_6 o6 hoi).1
        have e3 : ((i.a.toNat : Nat) : Int) = i.a := by have := hn.2.2 o6; omega
        rw [e3]
        refine Prod.ext ?_ rfl
        show (⟨6, i.a, 0, i.s⟩ : Ins) :: _ = i :: _
        rw [← e2]
      · have har : i.ar = 0 := by simp [Ins.ar, o6]
        rw [har, sk_zero] at hq
        cases hq
        simp only [takeT, List.take_zero, recL] at hone ⊢
        by_cases o1 : i.op = 1
        · simp only [if_pos o1] at hone ⊢
          rw [if_neg (by omega), patT_var']
          unfold varP
          rw [if_pos (hone x (by omega) (by omega)), ok_1 o1 hoi]
        · simp only [if_neg o1] at hone ⊢
          by_cases o2 : i.op = 2 ∨ i.op = 3
          · simp only [if_pos o2] at hone ⊢
            rw [patT_var']
            simp
          · simp only [if_neg o2] at hone ⊢
            by_cases o4 : i.op = 4
            · simp only [if_pos o4]
              rw [patT_int', ← ok_4 o4 hoi]
            · have o5 : i.op = 5 := by omega
              simp only [if_neg o4, if_pos o5]
              rw [patT_atom', ← (ok_5 o5 hoi).1]
    refine ⟨h1, fun n => ?_⟩
    induction n with
    | zero => intro l x j S h hj _ _; rw [sk_zero] at h; cases h; simp [takeN, patL, recL]
    | succ n ihn =>
      intro l x j S h hj hok hone
      obtain ⟨a, b, ha, hb, rfl⟩ := sk_split l 1 n j (by rw [Nat.add_comm]; exact h)
      have hr := (take_rest (N + 1)).1 l x a ha (by omega)
      have f1 := (take_facts (N + 1)).1 l x a ha (by omega)
      have f2 := (take_facts (N + 1)).2 n (l.drop a) (takeT (N + 1) l x).2.2 b hb (by omega)
      rw [List.take_add] at hok
      simp only [takeN, hr] at hone
      have p1 := h1 l x a S ha (by omega) (fun i hi => hok i (by simp [hi])) (fun y y1 y2 => hone y y1 (by omega))
      have q1 := ihn (l.drop a) (takeT (N + 1) l x).2.2 b (recL one (l.take a) S).2 hb (by omega) (fun i hi => hok i (by simp [hi])) (fun y y1 y2 => hone y (by omega) y2)
      simp only [takeN, hr, patL]
      rw [p1, q1, List.take_add, recL_app]
theorem var_may {n : Int} (h : 0 ≤ n) : mayT (varT n) = true := by simp [varT, mayT, mayTL, mayB, h]
theorem take_may (N : Nat) : (∀ l x j, sk l 1 = some j → j ≤ N → 0 ≤ x → (∀ i ∈ l.take j, i.ok = true ∧ (i.op = 2 ∨ i.op = 3 → 0 ≤ i.a)) → mayT (takeT N l x).1 = true) ∧
    ∀ n l x j, sk l n = some j → j ≤ N → 0 ≤ x → (∀ i ∈ l.take j, i.ok = true ∧ (i.op = 2 ∨ i.op = 3 → 0 ≤ i.a)) → mayTL (takeN (takeT N) n l x).1 = true := by
  induction N with
  | zero =>
    refine ⟨fun l x j h hj => ?_, fun n l x j h hj => ?_⟩
    · obtain ⟨i, l', q, -, -, -, e⟩ := sk_one h; omega
    · cases n with
      | zero => rw [sk_zero] at h; cases h; intro _ _; simp [takeN, mayTL]
      | succ n => have := sk_pos l n j h; omega
  | succ N ih =>
    have h1 : ∀ l x j, sk l 1 = some j → j ≤ N + 1 → 0 ≤ x → (∀ i ∈ l.take j, i.ok = true ∧ (i.op = 2 ∨ i.op = 3 → 0 ≤ i.a)) → mayT (takeT (N + 1) l x).1 = true := fun l x j h hj hx hok => by
      obtain ⟨i, l', q, rfl, hb, hq, rfl⟩ := sk_one h
      have hn := not_bad hb
      rw [List.take_succ_cons] at hok
      have hoi := hok i (by simp)
      by_cases o6 : i.op = 6
      · have har : i.ar = i.a.toNat := by simp [Ins.ar, o6]
        rw [har] at hq
        simp only [takeT]
        rw [if_neg (by omega), if_neg (by omega), if_neg (by omega), if_neg (by omega)]
        have e1 := ih.2 _ _ x _ hq (by omega) hx (fun i' hi' => hok i' (by simp [hi']))
        have hl := takeN_len (takeT N) i.a.toNat l' x
        exact comp_may (ok_6 o6 hoi.1).2 (fun e => by rw [e] at hl; have := hn.2.2 o6; simp at hl; omega) (by rw [hl]; have := hn.2.2 o6; omega) e1
      · simp only [takeT]
        by_cases o1 : i.op = 1
        · rw [if_pos o1]; exact var_may hx
        · rw [if_neg o1]
          by_cases o2 : i.op = 2 ∨ i.op = 3
          · rw [if_pos o2]; exact var_may (hoi.2 o2)
          · rw [if_neg o2]
            by_cases o4 : i.op = 4
            · rw [if_pos o4]; exact int_may _
            · have o5 : i.op = 5 := by omega
              rw [if_neg o4, if_pos o5]; exact atom_may (ok_5 o5 hoi.1).2
    refine ⟨h1, fun n => ?_⟩
    induction n with
    | zero => intro l x j h hj _ _; rw [sk_zero] at h; cases h; simp [takeN, mayTL]
    | succ n ihn =>
      intro l x j h hj hx hok
      obtain ⟨a, b, ha, hb, rfl⟩ := sk_split l 1 n j (by rw [Nat.add_comm]; exact h)
      have hr := (take_rest (N + 1)).1 l x a ha (by omega)
      have f1 := (take_facts (N + 1)).1 l x a ha (by omega)
      rw [List.take_add] at hok
      have p1 := h1 l x a ha (by omega) hx (fun i hi => hok i (by simp [hi]))
      have q1 := ihn (l.drop a) (takeT (N + 1) l x).2.2 b hb (by omega) (by omega) (fun i hi => hok i (by simp [hi]))
      simp only [takeN, hr, mayTL, p1, q1, Bool.and_self]

def fI (l : List Ins) : List Int := (l.filter fun i => decide (i.op = 2)).map (·.a)
def gI (l : List Ins) : List Int := (l.filter fun i => decide (i.op = 3)).map (·.a)
theorem fI_cons (i : Ins) (l : List Ins) : fI (i :: l) = if i.op = 2 then i.a :: fI l else fI l := by
  unfold fI
  by_cases h : i.op = 2 <;> simp [List.filter_cons, h]
theorem gI_cons (i : Ins) (l : List Ins) : gI (i :: l) = if i.op = 3 then i.a :: gI l else gI l := by
  unfold gI
  by_cases h : i.op = 3 <;> simp [List.filter_cons, h]
theorem slots_facts : ∀ (l : List Ins) (m s : Nat), slotsN l m = some s → m ≤ s ∧ (∀ i ∈ l, (i.op = 2 → (m : Int) ≤ i.a ∧ i.a < s) ∧ (i.op = 3 → 0 ≤ i.a ∧ i.a < s)) ∧ ∀ k : Int, (fI l).count k = if (m : Int) ≤ k ∧ k < s then 1 else 0
  | [], m, s, h => by
    simp only [slotsN, Option.some.injEq] at h
    subst h
    refine ⟨Nat.le_refl _, fun i hi => by simp at hi, fun k => ?_⟩
    rw [if_neg (by omega)]
    rfl
  | i :: l, m, s, h => by
    simp only [slotsN] at h
    by_cases o2 : i.op = 2
    · rw [if_pos o2] at h
      by_cases ha : i.a = m
      · rw [if_pos ha] at h
        obtain ⟨h1, h2, h3⟩ := slots_facts l (m + 1) s h
        refine ⟨by omega, fun i' hi' => ?_, fun k => ?_⟩
        · rcases List.mem_cons.1 hi' with rfl | hi'
          · exact ⟨fun _ => by omega, fun e => by omega⟩
          · exact ⟨fun e => by have := (h2 i' hi').1 e; omega, (h2 i' hi').2⟩
        · rw [fI_cons, if_pos o2, List.count_cons, h3 k, ha]
          simp only [beq_iff_eq]
          split <;> split <;> split <;> omega
      · rw [if_neg ha] at h; cases h
    · rw [if_neg o2] at h
      by_cases o3 : i.op = 3 ∧ (i.a < 0 ∨ (m : Int) ≤ i.a)
      · rw [if_pos o3] at h; cases h
      · rw [if_neg o3] at h
        obtain ⟨h1, h2, h3⟩ := slots_facts l m s h
        refine ⟨h1, fun i' hi' => ?_, fun k => ?_⟩
        · rcases List.mem_cons.1 hi' with rfl | hi'
          · exact ⟨fun e => absurd e o2, fun e => by omega⟩
          · exact h2 i' hi'
        · rw [fI_cons, if_neg o2]; exact h3 k
theorem occ_old (k : Int) : ∀ (l : List Ins) (x : Int), k < x → (occI l x).count k = (fI l).count k + (gI l).count k
  | [], x, _ => rfl
  | i :: l, x, h => by
    simp only [occI, fI_cons, gI_cons]
    by_cases o1 : i.op = 1
    · rw [if_pos o1, if_neg (by omega), if_neg (by omega), List.count_cons, occ_old k l (x + 1) (by omega)]
      have : (x == k) = false := by simp; omega
      simp [this]
    · rw [if_neg o1]
      by_cases o2 : i.op = 2
      · rw [if_pos (.inl o2), if_pos o2, if_neg (by omega), List.count_cons, List.count_cons, occ_old k l x h]; omega
      · by_cases o3 : i.op = 3
        · rw [if_pos (.inr o3), if_neg o2, if_pos o3, List.count_cons, List.count_cons, occ_old k l x h]; omega
        · rw [if_neg (by omega), if_neg o2, if_neg o3, occ_old k l x h]
theorem occ_new (y : Int) : ∀ (l : List Ins) (x : Int), (∀ i ∈ l, i.op = 2 ∨ i.op = 3 → i.a < y) → (occI l x).count y = if x ≤ y ∧ y < x + anyN l then 1 else 0
  | [], x, _ => by simp [occI, anyN]
  | i :: l, x, h => by
    have hl := fun x => occ_new y l x (fun i' hi' => h i' (by simp [hi']))
    simp only [occI, anyN_cons]
    by_cases o1 : i.op = 1
    · simp only [if_pos o1]
      rw [List.count_cons, hl]
      simp only [beq_iff_eq]
      split <;> split <;> split <;> omega
    · simp only [if_neg o1, Nat.zero_add]
      by_cases o2 : i.op = 2 ∨ i.op = 3
      · rw [if_pos o2, List.count_cons, hl]
        have : (i.a == y) = false := by have := h i (by simp) o2; simp; omega
        rw [this]
        simp
      · rw [if_neg o2, hl]
/-- the first slots that come again -/
def sL (one : Int → Bool) (m : Nat) : List Int := ((List.range m).map fun k : Nat => (k : Int)).filter fun k => !one k
theorem sL_succ (one : Int → Bool) (m : Nat) : sL one (m + 1) = sL one m ++ (if one m = true then [] else [(m : Int)]) := by
  unfold sL
  rw [List.range_succ, List.map_append, List.filter_append]
  congr 1
  cases h : one m <;> simp [h]
theorem sL_mem (one : Int → Bool) (m : Nat) (k : Int) : k ∈ sL one m ↔ (0 ≤ k ∧ k < m) ∧ one k = false := by
  unfold sL
  rw [List.mem_filter]
  simp only [List.mem_map, List.mem_range, Bool.not_eq_true']
  constructor
  · rintro ⟨⟨a, ha, rfl⟩, h⟩; exact ⟨by omega, h⟩
  · rintro ⟨⟨h1, h2⟩, h⟩; exact ⟨⟨k.toNat, by omega, by omega⟩, h⟩
theorem place_none {l : List Int} {n : Int} (h : n ∉ l) : place l n = none := by
  cases hp : place l n with
  | none => rfl
  | some p => exact absurd (place_mem.1 (by rw [hp]; rfl)) h
theorem sL_place (one : Int → Bool) : ∀ (m : Nat), (∀ k : Int, 0 ≤ k → k < m → one k = false) → (sL one m).length = m ∧ ∀ k : Nat, k < m → place (sL one m) k = some k
  | 0, _ => ⟨rfl, fun k hk => by omega⟩
  | m + 1, h => by
    obtain ⟨h1, h2⟩ := sL_place one m (fun k a b => h k a (by omega))
    have hm : one m = false := h m (by omega) (by omega)
    rw [sL_succ, if_neg (by rw [hm]; decide)]
    refine ⟨by simp [h1], fun k hk => ?_⟩
    by_cases e : k < m
    · exact place_app _ (h2 k e)
    · obtain rfl : k = m := by omega
      have := place_end (A := sL one k) (n := (k : Int)) (fun hk => by have := ((sL_mem one k k).1 hk).1.2; omega)
      rw [this, h1]
theorem recL_slots (one : Int → Bool) : ∀ (l : List Ins) (m s : Nat), slotsN l m = some s → (∀ i ∈ l, i.ok = true) → (∀ i ∈ l, i.op = 3 → one i.a = false) →
    (recL one l (sL one m)).2 = sL one s ∧ (recL one l (sL one m)).1.length = l.length ∧ ((∀ k : Int, 0 ≤ k → k < s → one k = false) → (recL one l (sL one m)).1 = l)
  | [], m, s, h, _, _ => by
    simp only [slotsN, Option.some.injEq] at h
    subst h
    exact ⟨rfl, rfl, fun _ => rfl⟩
  | i :: l, m, s, h, hok, h3 => by
    have hms := (slots_facts _ _ _ h).1
    simp only [slotsN] at h
    simp only [recL]
    have hoi := hok i (by simp)
    have hok' := fun i' hi' => hok i' (List.mem_cons_of_mem i hi')
    have h3' := fun i' hi' => h3 i' (List.mem_cons_of_mem i hi')
    by_cases o2 : i.op = 2
    · rw [if_pos o2] at h
      by_cases ha : i.a = m
      · rw [if_pos ha] at h
        have hms := (slots_facts _ _ _ h).1
        obtain ⟨r1, r2, r3⟩ := recL_slots one l (m + 1) s h hok' h3'
        rw [if_pos (.inl o2)]
        have hv : (varP one (sL one m) i.a).2 = sL one (m + 1) ∧ (varP one (sL one m) i.a).1.length = 1 ∧ (one i.a = false → (varP one (sL one m) i.a).1 = [⟨2, ((sL one m).length : Nat), 0, ⟨#[]⟩⟩]) := by
          rw [ha, sL_succ]
          unfold varP
          cases ho : one m with
          | true => simp
          | false =>
            rw [place_none (fun hk => by have := ((sL_mem one m m).1 hk).1.2; omega)]
            simp
        obtain ⟨v1, v2, v3⟩ := hv
        rw [v1, r1]
        refine ⟨rfl, by simp [v2, r2]; omega, fun hall => ?_⟩
        have hs := (sL_place one m (fun k a b => hall k a (by omega))).1
        rw [v3 (by rw [ha]; exact hall m (by omega) (by omega)), r3 hall, hs]
        have e := ok_s (.inl o2) hoi
        rw [o2, ha] at e
        rw [e]
        rfl
      · rw [if_neg ha] at h; cases h
    · rw [if_neg o2] at h
      by_cases o3 : i.op = 3 ∧ (i.a < 0 ∨ (m : Int) ≤ i.a)
      · rw [if_pos o3] at h; cases h
      · rw [if_neg o3] at h
        obtain ⟨r1, r2, r3⟩ := recL_slots one l m s h hok' h3'
        by_cases e3 : i.op = 3
        · rw [if_pos (.inr e3)]
          have hone := h3 i (by simp) e3
          have hmem : i.a ∈ sL one m := (sL_mem one m i.a).2 ⟨by omega, hone⟩
          obtain ⟨p, hp⟩ := Option.isSome_iff_exists.1 (place_mem.2 hmem)
          have hv : varP one (sL one m) i.a = ([⟨3, (p : Nat), 0, ⟨#[]⟩⟩], sL one m) := by
            unfold varP
            rw [if_neg (by rw [hone]; decide), hp]
          rw [hv]
          simp only
          refine ⟨r1, by simp [r2], fun hall => ?_⟩
          have hk := (sL_place one m (fun k a b => hall k a (by have := (slots_facts _ _ _ h).1; omega))).2 i.a.toNat (by omega)
          have ek : ((i.a.toNat : Nat) : Int) = i.a := by omega
          rw [ek, hp] at hk
          have hk := Option.some.inj hk
          rw [r3 hall, hk, ek]
          have e := ok_s (.inr e3) hoi
          rw [e3] at e
          rw [← e]
          rfl
        · rw [if_neg (by omega)]
          exact ⟨r1, by simp [r2], fun hall => by rw [r3 hall]⟩
/-- the numbers that come again, each once -/
abbrev addK := Maps.addB
def keysL (l : List Ins) : List Int := (gI l).foldl addK []
theorem addK_facts : ∀ (g ks : List Int), ks.Nodup → (g.foldl addK ks).Nodup ∧ ∀ k, k ∈ g.foldl addK ks ↔ k ∈ ks ∨ k ∈ g
  | [], ks, h => ⟨h, fun k => by simp⟩
  | x :: g, ks, h => by
    simp only [List.foldl_cons]
    have hn : (addK ks x).Nodup := by

      unfold addK Maps.addB
      split
      · exact h
      · rename_i hx
        rw [List.nodup_append]
        exact ⟨h, by simp, fun a ha b hb => by simp at hb; subst hb; exact fun e => hx (e ▸ ha)⟩
    obtain ⟨h1, h2⟩ := addK_facts g (addK ks x) hn
    refine ⟨h1, fun k => ?_⟩
    rw [h2 k]
    have : k ∈ addK ks x ↔ k ∈ ks ∨ k = x := by

      unfold addK Maps.addB
      split
      · rename_i hx
        exact ⟨.inl, fun e => e.elim id fun e => e ▸ hx⟩
      · simp
    rw [this]
    simp only [List.mem_cons]
    constructor
    · rintro ((h | h) | h)
      · exact .inl h
      · exact .inr (.inl h)
      · exact .inr (.inr h)
    · rintro (h | h | h)
      · exact .inl (.inl h)
      · exact .inl (.inr h)
      · exact .inr h
theorem nodup_le : ∀ {l m : List Int}, l.Nodup → (∀ x ∈ l, x ∈ m) → l.length ≤ m.length
  | [], _, _, _ => Nat.zero_le _
  | x :: l, m, h, hs => by
    rw [List.nodup_cons] at h
    have hx := hs x (by simp)
    have := nodup_le (l := l) (m := m.erase x) h.2 fun y hy => (List.mem_erase_of_ne fun e => h.1 (by rw [← e]; exact hy)).2 (hs y (by simp [hy]))
    rw [List.length_erase_of_mem hx] at this
    have := List.length_pos_of_mem hx
    simp only [List.length_cons]
    omega
theorem sL_nodup (one : Int → Bool) : ∀ m, (sL one m).Nodup
  | 0 => by simp [sL]
  | m + 1 => by
    rw [sL_succ, List.nodup_append]
    refine ⟨sL_nodup one m, by split <;> simp, fun a ha b hb e => ?_⟩
    subst e
    have := ((sL_mem one m a).1 ha).1.2
    split at hb
    · simp at hb
    · simp at hb; omega
theorem sL_le (one : Int → Bool) (m : Nat) : (sL one m).length ≤ m := by
  unfold sL
  refine Nat.le_trans (List.length_filter_le _ _) ?_
  simp
theorem sL_full (one : Int → Bool) (m : Nat) (h : ¬ (sL one m).length < m) : ∀ k : Int, 0 ≤ k → k < m → one k = false := by
  intro k h0 h1
  cases ho : one k with
  | false => rfl
  | true =>
    exfalso
    have hm : k ∈ (List.range m).map fun k : Nat => (k : Int) := List.mem_map.2 ⟨k.toNat, List.mem_range.2 (by omega), by omega⟩
    have hsub := nodup_le (l := k :: sL one m) (m := (List.range m).map fun k : Nat => (k : Int)) (List.nodup_cons.2 ⟨(fun hk => by have := ((sL_mem one m k).1 hk).2; rw [ho] at this; cases this), sL_nodup one m⟩) fun x hx => by
      rcases List.mem_cons.1 hx with rfl | hx
      · exact hm
      · unfold sL at hx; exact (List.mem_filter.1 hx).1
    simp at hsub
    omega
/-- a code that may be, told back and compiled -/
theorem code_again (c : Cod) (h : check c = 0) (hl : c.l.length ≤ 1000) : ∃ c', compE (bkH c) (bkB c) = (c', 0) ∧ c'.l.length = c.l.length ∧ c'.body = c.body ∧ c'.args = c.args ∧ c'.name = c.name ∧ c'.slots = ((keysL c.l).length : Nat) ∧
    (¬ ((keysL c.l).length : Int) < c.slots → c' = c) := by
  obtain ⟨A, j, s, hok⟩ := check_facts h
  have hall := hok.all
  obtain ⟨hsl, hse⟩ := hok.slots
  have hi : ∀ i ∈ c.l, i.ok = true := by have := hok.ok; simpa [List.all_eq_true] using this
  obtain ⟨f1, f2, f3⟩ := slots_facts _ _ _ hsl
  have hskA := hok.sk
  have hskB := hok.rest
  have t1 := (take_occ c.l.length).2 c.args.toNat c.l c.slots A hskA (by omega)
  have hrA := (take_rest c.l.length).2 c.args.toNat c.l c.slots A hskA (by omega)
  have t2 := (take_occ c.l.length).1 (c.l.drop A) (c.slots + anyN (c.l.take A)) j hskB (by omega)
  have htk : (c.l.drop A).take j = c.l.drop A := by rw [List.take_of_length_le (by simp; omega)]
  rw [htk] at t2
  have hA1 : (bkA c).1 = (takeN (takeT c.l.length) c.args.toNat c.l c.slots).1 := rfl
  have hlen : (bkA c).1.length = c.args.toNat := takeN_len _ _ _ _
  have hargs : (bkH c).args = (bkA c).1 := by
    unfold bkH
    split
    · rfl
    · have e0 : (bkA c).1 = [] := List.eq_nil_of_length_eq_zero (by rw [hlen]; omega)
      rw [e0]; rfl
  have hB : bkB c = (takeT c.l.length (c.l.drop A) (c.slots + anyN (c.l.take A))).1 := by
    unfold bkB
    have e1 : (bkA c).2.1 = c.l.drop A := hrA
    have e2 : (bkA c).2.2 = c.slots + anyN (c.l.take A) := t1.2
    rw [e1, e2]
  have hu : ∀ (k n : Int) (s : ByteArray) (a : List Tm), occT (.mk k n s a) = if k = 1 then n :: occL a else occL a := fun _ _ _ _ => by rw [occT]
  have hoH : occT (bkH c) = occL (bkA c).1 := by
    rw [← hargs]
    unfold bkH
    split
    · show occT (.mk 4 0 _ _) = _; rw [hu, if_neg (by decide)]; rfl
    · show occT (.mk 3 0 _ _) = _; rw [hu, if_neg (by decide)]; rfl
  have hD : occT (bkH c) ++ occT (bkB c) = occI c.l c.slots := by
    rw [hoH, hA1, t1.1, hB, t2.1, ← occI_app, List.take_append_drop]
  have hany : anyN (c.l.take A) + anyN (c.l.drop A) = anyN c.l := by rw [← anyN_app, List.take_append_drop]
  have hnew : ∀ y, c.slots ≤ y → y < c.slots + anyN c.l → oneB (occI c.l c.slots) y = true := fun y y1 y2 => by
    unfold oneB
    rw [occ_new y c.l c.slots (fun i hm ho => by have := f2 i hm; rcases ho with o | o; have := this.1 o; omega; have := this.2 o; omega), if_pos ⟨y1, y2⟩]
    rfl
  have hcnt : ∀ k : Int, 0 ≤ k → k < s → (oneB (occI c.l c.slots) k = true ↔ k ∉ gI c.l) := fun k k0 k1 => by
    unfold oneB
    rw [occ_old k c.l c.slots (by omega), f3 k, if_pos (by omega)]
    constructor
    · intro e hk
      have := List.count_pos_iff.2 hk
      simp at e
      omega
    · intro hk
      rw [List.count_eq_zero.2 hk]
      rfl
  have hag : ∀ i ∈ c.l, i.op = 3 → oneB (occI c.l c.slots) i.a = false := fun i hm ho => by
    obtain ⟨q1, q2⟩ := (f2 i hm).2 ho
    cases e : oneB (occI c.l c.slots) i.a with
    | false => rfl
    | true => exact absurd (List.mem_map.2 ⟨i, List.mem_filter.2 ⟨hm, by simpa using ho⟩, rfl⟩) ((hcnt i.a q1 q2).1 e)
  have p1 := (take_pat (oneB (occI c.l c.slots)) c.l.length).2 c.args.toNat c.l c.slots A [] hskA (by omega) (fun i hi' => hi i (List.mem_of_mem_take hi')) (fun y y1 y2 => hnew y y1 (by rw [t1.2] at y2; omega))
  have p2 := (take_pat (oneB (occI c.l c.slots)) c.l.length).1 (c.l.drop A) (c.slots + anyN (c.l.take A)) j (recL (oneB (occI c.l c.slots)) (c.l.take A) []).2 hskB (by omega) (fun i hi' => hi i (List.mem_of_mem_drop (List.mem_of_mem_take hi'))) (fun y y1 y2 => hnew y (by omega) (by rw [t2.2] at y2; omega))
  rw [htk] at p2
  have hrec := recL_app (oneB (occI c.l c.slots)) (c.l.take A) (c.l.drop A) []
  rw [List.take_append_drop] at hrec
  have hs0 : sL (oneB (occI c.l c.slots)) 0 = [] := rfl
  obtain ⟨r1, r2, r3⟩ := recL_slots (oneB (occI c.l c.slots)) c.l 0 s hsl hi hag
  rw [hs0] at r1 r2 r3
  have hcomp : compC (bkH c) (bkB c) = ⟨c.name, c.args, ((sL (oneB (occI c.l c.slots)) s).length : Nat), c.body, (recL (oneB (occI c.l c.slots)) c.l []).1⟩ := by
    unfold compC
    rw [hD, hargs, hA1, p1, hB, p2, hrec]
    have e1 : (bkH c).s = c.name := by unfold bkH; split <;> rfl
    have e2 : (((takeN (takeT c.l.length) c.args.toNat c.l c.slots).1.length : Nat) : Int) = c.args := by
      rw [takeN_len]; have := hok.args; omega
    have e3 : (recL (oneB (occI c.l c.slots)) (c.l.take A) []).1.length = A := by
      have h2 := congrArg (fun r => r.1.length) hrec
      simp only [List.length_append] at h2
      have h3 := (recL_len (oneB (occI c.l c.slots)) (c.l.take A) []).trans (List.length_take ..)
      omega
    rw [e1, e2, e3, hok.body, ← r1, hrec]
  have hkeys : (keysL c.l).length = (sL (oneB (occI c.l c.slots)) s).length := by
    obtain ⟨n1, n2⟩ := addK_facts (gI c.l) [] (by simp)
    have hg : ∀ k ∈ gI c.l, 0 ≤ k ∧ k < s := fun k hk => by
      obtain ⟨i, hm, rfl⟩ := List.mem_map.1 hk
      obtain ⟨hm, ho⟩ := List.mem_filter.1 hm
      exact (f2 i hm).2 (by simpa using ho)
    have iff : ∀ k, k ∈ keysL c.l ↔ k ∈ sL (oneB (occI c.l c.slots)) s := fun k => by
      rw [sL_mem]
      unfold keysL
      rw [n2 k]
      simp only [List.not_mem_nil, false_or]
      constructor
      · intro hk
        refine ⟨hg k hk, ?_⟩
        cases e : oneB (occI c.l c.slots) k with
        | false => rfl
        | true => exact absurd hk ((hcnt k (hg k hk).1 (hg k hk).2).1 e)
      · rintro ⟨hk, ho⟩
        exact Decidable.byContradiction fun hn => by rw [(hcnt k hk.1 hk.2).2 hn] at ho; cases ho
    exact Nat.le_antisymm (nodup_le n1 fun x hx => (iff x).1 hx) (nodup_le (sL_nodup _ _) fun x hx => (iff x).2 hx)
  have hmA : mayTL (bkA c).1 = true := (take_may c.l.length).2 c.args.toNat c.l c.slots A hskA (by omega) (by omega) fun i hi' => ⟨hi i (List.mem_of_mem_take hi'), fun o => by have := f2 i (List.mem_of_mem_take hi'); rcases o with o | o; have := this.1 o; omega; exact (this.2 o).1⟩
  have hmB : mayT (bkB c) = true := by
    rw [hB]
    exact (take_may c.l.length).1 (c.l.drop A) (c.slots + anyN (c.l.take A)) j hskB (by omega) (by omega) fun i hi' => ⟨hi i (List.mem_of_mem_drop (List.mem_of_mem_take hi')), fun o => by have := f2 i (List.mem_of_mem_drop (List.mem_of_mem_take hi')); rcases o with o | o; have := this.1 o; omega; exact (this.2 o).1⟩
  have hmH : mayT (bkH c) = true := by
    unfold bkH
    split
    · exact comp_may hok.name (fun e => by rw [e] at hlen; simp at hlen; omega) (by rw [hlen]; have := hok.args; omega) hmA
    · exact atom_may hok.name
  have zH : (bkH c).size ≤ 1001 ∧ (bkB c).size ≤ 1000 := by
    have s1 : sizeL (bkA c).1 ≤ A := (take_size9 c.l.length).2 c.args.toNat c.l c.slots A hskA (by omega)
    have s2 := (take_size9 c.l.length).1 (c.l.drop A) (c.slots + anyN (c.l.take A)) j hskB (by omega)
    rw [← hB] at s2
    refine ⟨?_, by omega⟩
    unfold bkH
    split
    · simp only [compT, Tm.size]; omega
    · simp [atomT, Tm.size, sizeL]
  have hk34 : (bkH c).k = 3 ∨ (bkH c).k = 4 := by unfold bkH; split; exact .inr rfl; exact .inl rfl
  refine ⟨compC (bkH c) (bkB c), ?_, ?_⟩
  · unfold compE
    rw [if_neg (by rw [check_zero hmH (by omega)]; simp), if_neg (by rw [check_zero hmB (by omega)]; simp), if_neg (fun e => hk34.elim e.1 e.2), if_neg (by omega)]
  · rw [hcomp, hkeys]
    refine ⟨r2, rfl, rfl, rfl, rfl, fun hn => ?_⟩
    have hfull := sL_full (oneB (occI c.l c.slots)) s (by omega)
    have hs := (sL_place (oneB (occI c.l c.slots)) s hfull).1
    rw [r3 hfull, hs, hse]
end Go.Proofs.Ytibjcfbilkkmkaa.Tms
