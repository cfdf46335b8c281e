
/-
  Layer 19: comp's taker's method take, walked over the program.
-/
import Derived.Test.YtibjcfbilkkmkaaFil
import Derived.Test.YtibjcfbilkkmkaaChd
import Derived.Lib.MinMax
namespace Go.Proofs.Ytibjcfbilkkmkaa.Tms
open Go Go.RowKit Go.Proofs.Ytibjcfbilkkmkaa.Reg Go.Proofs.Ytibjcfbilkkmkaa.Rws Go.Proofs.Ytibjcfbilkkmkaa.Cod
set_option linter.unusedVariables false
set_option linter.unusedSimpArgs false

theorem not_bad {i : Ins} (h : i.bad = false) : 1 ≤ i.op ∧ i.op ≤ 6 ∧ (i.op = 6 → 1 ≤ i.a ∧ i.a ≤ 255) := by
  simp [Ins.bad] at h
  omega
theorem sk_one {l : List Ins} {j : Nat} (h : sk l 1 = some j) : ∃ i l' q, l = i :: l' ∧ i.bad = false ∧ sk l' i.ar = some q ∧ j = q + 1 := by
  cases l with
  | nil => simp [sk] at h
  | cons i l =>
    simp only [sk] at h
    cases hb : i.bad with
    | true => rw [hb] at h; simp at h
    | false =>
      rw [hb] at h
      simp only [Bool.false_eq_true, if_false, Nat.zero_add] at h
      cases h1 : sk l i.ar with
      | none => rw [h1] at h; simp at h
      | some q => rw [h1] at h; simp at h; exact ⟨i, l, q, rfl, hb, h1, h.symm⟩
theorem take_rest (N : Nat) : (∀ l x j, sk l 1 = some j → j ≤ N → (takeT N l x).2.1 = l.drop j) ∧ ∀ n l x j, sk l n = some j → j ≤ N → (takeN (takeT N) n l x).2.1 = l.drop j := by
  induction N with
  | zero =>
    refine ⟨fun l x j h hj => ?_, fun n l x j h hj => ?_⟩
    · obtain ⟨i, l', q, -, -, -, e⟩ := sk_one h; omega
    · cases n with
      | zero => rw [sk_zero] at h; cases h; simp [takeN]
      | succ n => have := sk_pos l n j h; omega
  | succ N ih =>
    have h1 : ∀ l x j, sk l 1 = some j → j ≤ N + 1 → (takeT (N + 1) l x).2.1 = l.drop j := fun l x j h hj => by
      obtain ⟨i, l', q, rfl, hb, hq, rfl⟩ := sk_one h
      have hn := not_bad hb
      rw [List.drop_succ_cons]
      by_cases o6 : i.op = 6
      · have har : i.ar = i.a.toNat := by simp [Ins.ar, o6]
        rw [har] at hq
        simp only [takeT]
        rw [if_neg (by omega), if_neg (by omega), if_neg (by omega), if_neg (by omega)]
        exact ih.2 _ _ _ _ hq (by omega)
      · have har : i.ar = 0 := by simp [Ins.ar, o6]
        rw [har, sk_zero] at hq
        cases hq
        simp only [takeT]
        split
        · rfl
        · split
          · rfl
          · split
            · rfl
            · split
              · rfl
              · omega
    refine ⟨h1, fun n => ?_⟩
    induction n with
    | zero => intro l x j h hj; rw [sk_zero] at h; cases h; simp [takeN]
    | succ n ihn =>
      intro l x j h hj
      obtain ⟨a, b, ha, hb, rfl⟩ := sk_split l 1 n j (by rw [Nat.add_comm]; exact h)
      simp only [takeN]
      rw [h1 l x a ha (by omega), ihn _ _ b hb (by omega), List.drop_drop]
theorem deepL_app : ∀ (l m : List Tm), deepL (l ++ m) = max (deepL l) (deepL m)
  | [], m => by simp [deepL]
  | x :: l, m => by simp only [List.cons_append, deepL, deepL_app l m]; omega
theorem deepT_pos (t : Tm) : 1 ≤ deepT t := by obtain ⟨k, n, s, a⟩ := t; simp [deepT]
theorem take_facts (N : Nat) : (∀ l x j, sk l 1 = some j → j ≤ N → x ≤ (takeT N l x).2.2 ∧ (takeT N l x).2.2 ≤ x + j ∧ deepT (takeT N l x).1 ≤ j) ∧ ∀ n l x j, sk l n = some j → j ≤ N → x ≤ (takeN (takeT N) n l x).2.2 ∧ (takeN (takeT N) n l x).2.2 ≤ x + j ∧ deepL (takeN (takeT N) n l x).1 ≤ j := by
  induction N with
  | zero =>
    refine ⟨fun l x j h hj => ?_, fun n l x j h hj => ?_⟩
    · obtain ⟨i, l', q, -, -, -, e⟩ := sk_one h; omega
    · cases n with
      | zero => rw [sk_zero] at h; cases h; simp [takeN, deepL]
      | succ n => have := sk_pos l n j h; omega
  | succ N ih =>
    have h1 : ∀ l x j, sk l 1 = some j → j ≤ N + 1 → x ≤ (takeT (N + 1) l x).2.2 ∧ (takeT (N + 1) l x).2.2 ≤ x + j ∧ deepT (takeT (N + 1) l x).1 ≤ j := fun l x j h hj => by
      obtain ⟨i, l', q, rfl, hb, hq, rfl⟩ := sk_one h
      have hn := not_bad hb
      by_cases o6 : i.op = 6
      · have har : i.ar = i.a.toNat := by simp [Ins.ar, o6]
        rw [har] at hq
        simp only [takeT]
        rw [if_neg (by omega), if_neg (by omega), if_neg (by omega), if_neg (by omega)]
        obtain ⟨a, b, c⟩ := ih.2 _ _ x _ hq (by omega)
        refine ⟨a, by simp only; omega, ?_⟩
        show deepL _ + 1 ≤ _
        omega
      · simp only [takeT]
        split
        · exact ⟨by simp only; omega, by simp only; omega, by simp only [varT, deepT, deepL]; omega⟩
        · split
          · exact ⟨by simp only; omega, by simp only; omega, by simp only [varT, deepT, deepL]; omega⟩
          · split
            · exact ⟨by simp only; omega, by simp only; omega, by simp only [intT, deepT, deepL]; omega⟩
            · split
              · exact ⟨by simp only; omega, by simp only; omega, by simp only [atomT, deepT, deepL]; omega⟩
              · omega
    refine ⟨h1, fun n => ?_⟩
    induction n with
    | zero => intro l x j h hj; rw [sk_zero] at h; cases h; simp [takeN, deepL]
    | succ n ihn =>
      intro l x j h hj
      obtain ⟨a, b, ha, hb, rfl⟩ := sk_split l 1 n j (by rw [Nat.add_comm]; exact h)
      have hr := (take_rest (N + 1)).1 l x a ha (by omega)
      obtain ⟨p1, p2, p3⟩ := h1 l x a ha (by omega)
      obtain ⟨q1, q2, q3⟩ := ihn (l.drop a) (takeT (N + 1) l x).2.2 b hb (by omega)
      simp only [takeN, hr]
      refine ⟨by omega, by omega, ?_⟩
      simp only [deepL]
      omega
theorem takeT_op (N : Nat) (i : Ins) (l : List Ins) (x : Int) : takeT (N + 1) (i :: l) x = if i.op = 1 then (varT x, l, x + 1) else if i.op = 2 ∨ i.op = 3 then (varT i.a, l, x) else if i.op = 4 then (intT i.n, l, x) else if i.op = 5 then (atomT i.s, l, x)
      else (compT i.s (takeN (takeT N) i.a.toNat l x).1, (takeN (takeT N) i.a.toNat l x).2) := rfl

abbrev tkO (lv : Value) (at_ nx dp : Int) : Obj := .cells #[lv, .int .i64 at_, .int .i64 nx, .int .i64 dp] 84 (0, 0)
theorem insAt_ne2 {w : World} {g b o : Nat} {i : Ins} {lv : Value} {q : Option Addr} {c m : Nat} (hl : lv = .slice q m c) {x y z : Int} (hg : w.heap[g]? = some (tkO lv x y z)) (h : InsAt w b o i) : b ≠ g := by
  rintro rfl
  subst hl
  have hc := fun k => cell_of_row w b k _ _ _ hg
  obtain ⟨h1, h2, h3, h4⟩ := h
  rw [hc] at h1 h2 h3 h4
  match o with
  | 0 => simp at h1
  | 1 => simp at h4
  | 2 => simp at h3
  | 3 => simp at h2
  | n + 4 => simp at h1
theorem insSl_setTk {w : World} {g k : Nat} {lv u : Value} {x y z : Int} {L : List Ins} (hg : w.heap[g]? = some (tkO lv x y z)) (h : InsSl w lv L) : InsSl (w.setCell ⟨g, k, none⟩ u) lv L := by
  obtain ⟨q, c, hl, h⟩ := h
  refine ⟨q, c, hl, fun j hj => ?_⟩
  obtain ⟨b, off, e, hi⟩ := h j hj
  have hn := insAt_ne2 hl hg hi
  have hk := fun o => World.cell?_of_block (w := w) (w' := w.setCell ⟨g, k, none⟩ u) (a := ⟨b, o, none⟩) (Below.heap_setCell _ _ _ _ hn)
  exact ⟨b, off, e, (hk _).trans hi.1, (hk _).trans hi.2.1, (hk _).trans hi.2.2.1, (hk _).trans hi.2.2.2⟩
theorem insSl_keep {w w' : World} {g : Nat} {lv : Value} {x y z : Int} {L : List Ins} (hg : w.heap[g]? = some (tkO lv x y z)) (h : InsSl w lv L) (hk : ∀ b, b < w.heap.size → b ≠ g → w'.heap[b]? = w.heap[b]?) : InsSl w' lv L := by
  obtain ⟨q, c, hl, h⟩ := h
  refine ⟨q, c, hl, fun j hj => ?_⟩
  obtain ⟨b, off, e, hi⟩ := h j hj
  have hn := insAt_ne2 hl hg hi
  have hk := fun o => World.cell?_of_block (w := w) (w' := w') (a := ⟨b, o, none⟩) (hk b hi.lt hn)
  exact ⟨b, off, e, (hk _).trans hi.1, (hk _).trans hi.2.1, (hk _).trans hi.2.2.1, (hk _).trans hi.2.2.2⟩
theorem keeps_cell (W : World) (b k : Nat) (v : Value) : Keeps W (W.setCell ⟨b, k, none⟩ v) (fun x => x = b) := ⟨rfl, rfl, rfl, by simp [World.setCell], fun _ _ hb => Below.heap_setCell _ _ _ _ hb⟩
theorem insAt_ne3 {w : World} {g b o : Nat} {i : Ins} {k n : Int} {s : ByteArray} {q : Option Addr} {m c : Nat} (hg : w.heap[g]? = some (.cells #[.int .i64 k, .int .i64 n, .string s, .slice q m c] 30 (0, 0))) (h : InsAt w b o i) : b ≠ g := by
  rintro rfl
  have hc := fun k => cell_of_row w b k _ _ _ hg
  obtain ⟨h1, h2, h3, h4⟩ := h
  rw [hc] at h1 h2 h3 h4
  match o with
  | 0 => simp at h3
  | 1 => simp at h2
  | 2 => simp at h1
  | 3 => simp at h1
  | n + 4 => simp at h1
theorem insSl_keep3 {w w' : World} {g : Nat} {lv : Value} {k n : Int} {s : ByteArray} {q : Option Addr} {m c : Nat} {L : List Ins} (hg : w.heap[g]? = some (.cells #[.int .i64 k, .int .i64 n, .string s, .slice q m c] 30 (0, 0))) (h : InsSl w lv L) (hk : ∀ b, b < w.heap.size → b ≠ g → w'.heap[b]? = w.heap[b]?) : InsSl w' lv L := by
  obtain ⟨q, c, hl, h⟩ := h
  refine ⟨q, c, hl, fun j hj => ?_⟩
  obtain ⟨b, off, e, hi⟩ := h j hj
  have hn := insAt_ne3 hg hi
  have hk := fun o => World.cell?_of_block (w := w) (w' := w') (a := ⟨b, o, none⟩) (hk b hi.lt hn)
  exact ⟨b, off, e, (hk _).trans hi.1, (hk _).trans hi.2.1, (hk _).trans hi.2.2.1, (hk _).trans hi.2.2.2⟩
/-- a slice that was there, read in a later world: what lies in blocks that were there, but for one, is as it was -/
theorem insSl_own {w w1 w2 w3 : World} {kb g : Nat} {lv : Value} {x y z : Int} {L : List Ins} (h : w.heap[kb]? = some (tkO lv x y z) ∧ InsSl w lv L) (h1 : Keeps w w1 (fun b => b = kb)) (h2 : Keeps w1 w2 (fun b => b = kb)) (h3 : Keeps w2 w3 (fun b => b = g)) (hg : w.heap.size ≤ g) (hlt : kb < w.heap.size) (hne : kb ≠ g) : InsSl w3 lv L :=
  insSl_keep h.1 h.2 fun b hb hn => (h3.block b (by have := h1.size; have := h2.size; omega) (by omega)).trans ((h2.block b (by have := h1.size; omega) hn).trans (h1.block b hb hn))
theorem sk_join : ∀ (l : List Ins) (n m a b : Nat), sk l n = some a → sk (l.drop a) m = some b → sk l (n + m) = some (a + b)
  | l, 0, m, a, b, h, h' => by rw [sk_zero] at h; cases h; simpa using h'
  | [], n + 1, m, a, b, h, _ => by simp [sk] at h
  | i :: l, n + 1, m, a, b, h, h' => by
    rw [Nat.add_right_comm]
    simp only [sk] at h ⊢
    cases hb : i.bad with
    | true => rw [hb] at h; simp at h
    | false =>
      rw [hb] at h
      simp only [Bool.false_eq_true, if_false] at h ⊢
      cases h1 : sk l (n + i.ar) with
      | none => rw [h1] at h; simp at h
      | some q =>
        rw [h1] at h
        simp only [Option.map_some, Option.some.injEq] at h
        subst h
        have := sk_join l (n + i.ar) m q b h1 (by simpa using h')
        rw [show n + m + i.ar = n + i.ar + m by omega, this]
        simp; omega
/-- what the call sees throughout -/
structure TkCtx (w : World) (kb : Nat) (lv : Value) (L : List Ins) (at_ nx dp : Int) (W : World) : Prop where
  row : W.heap[kb]? = some (tkO lv at_ nx dp)
  sl : InsSl W lv L
  kp : Keeps w W (fun b => b = kb)
section
variable {w W W' : World} {kb : Nat} {lv : Value} {L : List Ins} {at_ nx dp : Int}
theorem TkCtx.on (h : TkCtx w kb lv L at_ nx dp W) (hb : Below W.heap.size W W') : TkCtx w kb lv L at_ nx dp W' :=
  ⟨(hb.block kb (Array.getElem?_eq_some_iff.1 h.row).1).trans h.row, h.sl.below hb, h.kp.trans (Keeps.of hb) (M' := fun b => b = kb) fun b e => .inl e⟩
theorem TkCtx.set1 (h : TkCtx w kb lv L at_ nx dp W) (x : Int) : TkCtx w kb lv L x nx dp (W.setCell ⟨kb, 1, none⟩ (.int .i64 x)) := by
  have e := heap_setCell_same W kb 1 _ _ (.int .i64 x) h.row
  exact ⟨by simpa using e, insSl_setTk h.row h.sl, h.kp.trans (keeps_cell W kb _ _) fun b e => .inl e⟩
theorem TkCtx.set2 (h : TkCtx w kb lv L at_ nx dp W) (x : Int) : TkCtx w kb lv L at_ x dp (W.setCell ⟨kb, 2, none⟩ (.int .i64 x)) := by
  have e := heap_setCell_same W kb 2 _ _ (.int .i64 x) h.row
  exact ⟨by simpa using e, insSl_setTk h.row h.sl, h.kp.trans (keeps_cell W kb _ _) fun b e => .inl e⟩
theorem TkCtx.set3 (h : TkCtx w kb lv L at_ nx dp W) (x : Int) : TkCtx w kb lv L at_ nx x (W.setCell ⟨kb, 3, none⟩ (.int .i64 x)) := by
  have e := heap_setCell_same W kb 3 _ _ (.int .i64 x) h.row
  exact ⟨by simpa using e, insSl_setTk h.row h.sl, h.kp.trans (keeps_cell W kb _ _) fun b e => .inl e⟩
end
def TkPost (kb : Nat) (lv : Value) (at_ nx dp : Int) (t : Tm) (w : World) (e : Ending) (w' : World) : Prop :=
  ∃ a c, e = .returned (aggT t a c) ∧ IsTm w' (fun b => w.heap.size ≤ b) (aggT t a c) t ∧ w'.heap[kb]? = some (tkO lv at_ nx dp) ∧ Keeps w w' (fun b => b = kb)

theorem tk_end {w W : World} {kb : Nat} {lv : Value} {L : List Ins} {x y z : Int} {t : Tm} {a : Option Addr} {c : Nat} (h : TkCtx w kb lv L x y z W) (hk : kb < w.heap.size) (ht : IsTm W (fun b => w.heap.size + 1 ≤ b) (aggT t a c) t) (cs : Array Value) :
    TkPost kb lv x y z t w (.returned (aggT t a c)) (W.setRow w.heap.size cs) :=
  ⟨a, c, rfl, ht.imp (fun b hb => by omega) fun b hb _ => setRow_other _ _ _ _ (by omega), (setRow_other _ _ _ _ (by omega)).trans h.row,
    ⟨h.kp.os, h.kp.tape, h.kp.output, by simpa using h.kp.size, fun b hlt hb => (setRow_other _ _ _ _ (by omega)).trans (h.kp.block b hlt hb)⟩⟩
/-- behind r arguments -/
structure TkRow (w : World) (kb : Nat) (lv : Value) (L : List Ins) (N p n q : Nat) (nx dp deep : Int) (s : ByteArray) (g tb r : Nat) (wr : World) : Prop where
  le : r ≤ n
  at_ : ∃ c d, sk (L.drop (p + 1)) r = some c ∧ sk (L.drop (p + 1 + c)) (n - r) = some d ∧ c + d = q ∧
    TkCtx w kb lv L ((p + 1 + c : Nat) : Int) (takeN (takeT N) r (L.drop (p + 1)) nx).2.2 (max dp (deep + deepL (takeN (takeT N) r (L.drop (p + 1)) nx).1)) wr
  fill : Fill wr g n (w.heap.size + 1) (takeN (takeT N) r (L.drop (p + 1)) nx).1
  res : wr.heap[w.heap.size]? = some (.cells #[.int .i64 0, .int .i64 0, .string ⟨#[]⟩, .slice none 0 0] 30 (0, 0))
  box : wr.heap[tb]? = some (.cells #[.int .i64 4, .int .i64 0, .string s, .slice (some ⟨g, 0, none⟩) n n] 30 (0, 0))
def TkRel (w : World) (kb : Nat) (lv : Value) (L : List Ins) (N p n q : Nat) (nx dp deep : Int) (s : ByteArray) (g tb : Nat) (vi : Value) (wr : World) : Prop := ∃ r : Nat, vi = .int .i64 r ∧ TkRow w kb lv L N p n q nx dp deep s g tb r wr
set_option maxRecDepth 100000 in
set_option maxHeartbeats 8000000 in
theorem comp_take (kb : Nat) (lv : Value) (L : List Ins) (hL : L.length ≤ 1000000) (N : Nat) : ∀ (p j : Nat) (nx dp deep : Int) (w : World), sk (L.drop p) 1 = some j → j ≤ N → p ≤ L.length → 0 ≤ nx → nx + j ≤ 1000000000000 → 0 ≤ deep → deep + j ≤ 1000000000000 → 0 ≤ dp → dp ≤ 2000000000000 →
    w.heap[kb]? = some (tkO lv p nx dp) → InsSl w lv L →
    Calls Try.prog 36 #[.pointer (some ⟨kb, 0, none⟩), .int .i64 deep] w (TkPost kb lv (p + j : Nat) (takeT N (L.drop p) nx).2.2 (max dp (deep + deepT (takeT N (L.drop p) nx).1 - 1)) (takeT N (L.drop p) nx).1 w) := by
  induction N with
  | zero => intro p j nx dp deep w h hj; obtain ⟨i, l', q, -, -, -, e⟩ := sk_one h; omega
  | succ N ih =>
    intro p j nx dp deep w hsk hj hp hn0 hn1 hd0 hd1 hq0 hq1 hrow hsl
    have IH := Lib.hid ih
    clear ih
    obtain ⟨i, l', q, hdr, hb, hsq, rfl⟩ := sk_one hsk
    have hpl : p < L.length := by
      rcases Nat.lt_or_ge p L.length with h | h
      · exact h
      · rw [List.drop_eq_nil_of_le h] at hdr; cases hdr
    have hi : L[p] = i ∧ l' = L.drop (p + 1) := by
      rw [List.drop_eq_getElem_cons hpl] at hdr
      exact ⟨(List.cons.inj hdr).1, (List.cons.inj hdr).2.symm⟩
    obtain ⟨hi, rfl⟩ := hi
    have hng := not_bad hb
    have hlt := (Array.getElem?_eq_some_iff.1 hrow).1
    obtain ⟨qa, qc, rfl⟩ := hsl.form
    have hc0 : TkCtx w kb (.slice qa L.length qc) L p nx dp w := ⟨hrow, hsl, Keeps.refl _ _⟩
    have HOW := Lib.hid (And.intro hrow hsl)
    obtain ⟨x0, x1, x2, x3⟩ := row4 hrow
    have f3 := frozen_of_row _ kb 3 _ _ hrow
    have hc1 := hc0.set3 (max dp deep)
    have hz1 : (w.setCell ⟨kb, 3, none⟩ (.int .i64 (max dp deep))).heap.size = w.heap.size := by simp [World.setCell]
    have hc2 := hc1.on (below_new _ (.cells #[.int .i64 0, .int .i64 0, .string ⟨#[]⟩, .slice none 0 0] 30 (0, 0)))
    have hr2 := heap_alloc_new (w.setCell ⟨kb, 3, none⟩ (.int .i64 (max dp deep))) (.cells #[.int .i64 0, .int .i64 0, .string ⟨#[]⟩, .slice none 0 0] 30 (0, 0))
    have hz2 : ((w.setCell ⟨kb, 3, none⟩ (.int .i64 (max dp deep))).alloc (.cells #[.int .i64 0, .int .i64 0, .string ⟨#[]⟩, .slice none 0 0] 30 (0, 0))).heap.size = w.heap.size + 1 := by simp [World.setCell]
    rw [hz1] at hr2
    have HC2 := Lib.hid hc2
    have HR2 := Lib.hid hr2
    have HZ2 := Lib.hid hz2
    have HSQ := Lib.hid hsq
    have HIL := Lib.hid hi
    have HDR := Lib.hid hdr
    clear hsk hdr hsq hc0 hc1 hc2 hrow hsl hr2 hz2 hz1 hi
    go_enter Try.func36, Try.ntmps36
    go_wp2
    refine wp_region_rest (by kernel_rfl) ?_
    have hdr : Below ((w.setCell ⟨kb, 3, none⟩ (.int .i64 (max dp deep))).alloc (.cells #[.int .i64 0, .int .i64 0, .string ⟨#[]⟩, .slice none 0 0] 30 (0, 0))).heap.size ((w.setCell ⟨kb, 3, none⟩ (.int .i64 (max dp deep))).alloc (.cells #[.int .i64 0, .int .i64 0, .string ⟨#[]⟩, .slice none 0 0] 30 (0, 0))) ((w.setCell ⟨kb, 3, none⟩ (.int .i64 (max dp deep))).alloc (.cells #[.int .i64 0, .int .i64 0, .string ⟨#[]⟩, .slice none 0 0] 30 (0, 0))).drew := (Below.refl _ _).drew
    replace HC2 := Lib.hid (HC2.out.on hdr)
    replace HR2 := Lib.hid ((hdr.block w.heap.size (by have := HZ2.out; omega)).trans HR2.out)
    replace HZ2 : Hid (((w.setCell ⟨kb, 3, none⟩ (.int .i64 (max dp deep))).alloc (.cells #[.int .i64 0, .int .i64 0, .string ⟨#[]⟩, .slice none 0 0] 30 (0, 0))).drew.heap.size = w.heap.size + 1) := HZ2
    clear hdr x0 x1 x2 x3 f3
    generalize ((w.setCell ⟨kb, 3, none⟩ (.int .i64 (max dp deep))).alloc (.cells #[.int .i64 0, .int .i64 0, .string ⟨#[]⟩, .slice none 0 0] 30 (0, 0))).drew = W0 at *
    obtain ⟨qa', qc', e', hins⟩ := HC2.out.sl
    simp only [Value.slice.injEq, true_and] at e'
    obtain ⟨rfl, rfl⟩ := e'
    obtain ⟨gi, oi, rfl, hia⟩ := hins p hpl
    rw [HIL.out] at hia
    have HIA := Lib.hid hia
    clear hins hia
    have hpi : (p : Int) < (L.length : Int) := by omega
    have hp0 : (0 : Int) ≤ (p : Int) := by omega
    have lkb : kb < W0.heap.size := by have := HZ2.out; omega
    have lgi : gi < W0.heap.size := HIA.out.lt
    refine rest_chainP (fun u => Below W0.heap.size W0 u) 0 11 (.soft 0 (.soft 1 (.soft 2 (.soft 3 (.soft 4 (.soft 5 (.soft 6 (.soft 7 (.soft 8 (.soft 9 (.one 10 .nil))))))))))) (.soft _ (.soft _ (.soft _ (.soft _ (.soft _ (.soft _ (.soft _ (.soft _ (.soft _ (.soft _ (.one _ .nil))))))))))) ⟨rfl, ⟨rfl, ⟨rfl, ⟨rfl, ⟨rfl, ⟨rfl, ⟨rfl, ⟨rfl, ⟨rfl, ⟨rfl, ⟨rfl, trivial⟩⟩⟩⟩⟩⟩⟩⟩⟩⟩⟩ (by kernel_rfl) (by kernel_rfl) (by kernel_rfl) (by kernel_rfl) (.inr (by kernel_rfl)) (Below.refl _ _) ?_
    refine chainP_soft (a1 := ?ma1) (by kernel_rfl) (by kernel_rfl) ?mh1 ?mr1
    case mh1 =>
      intro u hu E hE
      go_wp2
      rfl
    refine chainP_nck _ _ rfl rfl rfl ?_
    simp only [Act.put, List.getElem?_toArray, List.getElem?_cons_succ, List.getElem?_cons_zero, Option.bind_some, List.setIfInBounds_toArray, List.set_cons_succ, List.set_cons_zero, Nat.reduceAdd]
    refine chainP_soft (a1 := ?ma2) (by kernel_rfl) (by kernel_rfl) ?mh2 ?mr2
    case mh2 =>
      intro u hu E hE
      go_wp2
      rfl
    refine chainP_soft (a1 := ?ma3) (by kernel_rfl) (by kernel_rfl) ?mh3 ?mr3
    case mh3 =>
      intro u hu E hE
      obtain ⟨x0, x1, x2, x3⟩ := row4 ((hu.block kb lkb).trans HC2.out.row)
      go_wp2
      rfl
    refine chainP_soft (a1 := ?ma4) (by kernel_rfl) (by kernel_rfl) ?mh4 ?mr4
    case mh4 =>
      intro u hu E hE
      go_wp2
      rfl
    refine chainP_nck _ _ rfl rfl rfl ?_
    simp only [Act.put, List.getElem?_toArray, List.getElem?_cons_succ, List.getElem?_cons_zero, Option.bind_some, List.setIfInBounds_toArray, List.set_cons_succ, List.set_cons_zero, Nat.reduceAdd]
    refine chainP_soft (a1 := ?ma5) (by kernel_rfl) (by kernel_rfl) ?mh5 ?mr5
    case mh5 =>
      intro u hu E hE
      go_wp2
      rfl
    refine chainP_soft (a1 := ?ma6) (by kernel_rfl) (by kernel_rfl) ?mh6 ?mr6
    case mh6 =>
      intro u hu E hE
      obtain ⟨x0, x1, x2, x3⟩ := row4 ((hu.block kb lkb).trans HC2.out.row)
      go_wp2
      rfl
    refine chainP_soft (a1 := ?ma7) (by kernel_rfl) (by kernel_rfl) ?mh7 ?mr7
    case mh7 =>
      intro u hu E hE
      go_wp2
      rfl
    refine chainP_soft (a1 := ?ma8) (by kernel_rfl) (by kernel_rfl) ?mh8 ?mr8
    case mh8 =>
      intro u hu E hE
      obtain ⟨y0, y1, y2, y3⟩ := HIA.out.below hu lgi
      go_wp2
      rfl
    refine chainP_one ?_
    intro E hE
    go_wp2
    refine ⟨below_new _ _, ?_⟩
    refine chainP_nil ?_
    refine rest_lineL 11 12 [_] rfl (by kernel_rfl) (by decide) (by decide) (by kernel_rfl) ?_
    go_wp2
    refine then_rest (rest_end (by decide) ?_)
    have hb1 := below_new W0 (.cells #[.int .i64 i.op, .int .i64 i.a, .int .i64 i.n, .string i.s] 77 (0, 0))
    have hr1 := heap_alloc_new W0 (.cells #[.int .i64 i.op, .int .i64 i.a, .int .i64 i.n, .string i.s] 77 (0, 0))
    have hz1 : (W0.alloc (.cells #[.int .i64 i.op, .int .i64 i.a, .int .i64 i.n, .string i.s] 77 (0, 0))).heap.size = w.heap.size + 2 := by have := HZ2.out; simp; omega
    have hc1 := HC2.out.on hb1
    have hres1 := (hb1.block w.heap.size (by have := HZ2.out; omega)).trans HR2.out
    have e0 : W0.heap.size = w.heap.size + 1 := HZ2.out
    rw [e0] at hr1
    rw [e0]
    clear e0
    generalize W0.alloc (.cells #[.int .i64 i.op, .int .i64 i.a, .int .i64 i.n, .string i.s] 77 (0, 0)) = W1 at *
    obtain ⟨x0, x1, x2, x3⟩ := row4 hc1.row
    have f1 := frozen_of_row _ kb 1 _ _ hc1.row
    have hc2 := hc1.set1 ((p : Int) + 1)
    have ne1 : ∀ b, b ≠ kb → (W1.setCell ⟨kb, 1, none⟩ (.int .i64 ((p : Int) + 1))).heap[b]? = W1.heap[b]? := fun b hb => Below.heap_setCell _ _ _ _ hb
    have hr2 := (ne1 (w.heap.size + 1) (by omega)).trans hr1
    have hres2 := (ne1 w.heap.size (by omega)).trans hres1
    have hz2 : (W1.setCell ⟨kb, 1, none⟩ (.int .i64 ((p : Int) + 1))).heap.size = w.heap.size + 2 := by simpa [World.setCell] using hz1
    obtain ⟨y0, y1, y2, y3⟩ := row4 hr2
    have HC3 := Lib.hid hc2
    have HR3 := Lib.hid hres2
    have HI3 := Lib.hid hr2
    have HZ3 := Lib.hid hz2
    have HT := Lib.hid (takeT_op N i (L.drop (p + 1)) nx)
    clear hb1 hr1 hz1 hc1 hres1 hc2 ne1 hr2 hres2 hz2 HC2 HR2 HZ2 HIA lkb lgi
    by_cases o1 : i.op = 1
    · have b1 : (i.op == 1) = true := by simp [o1]
      have hqz : q = 0 := by
        have := HSQ.out
        rw [show i.ar = 0 by simp [Ins.ar, o1], sk_zero] at this
        cases this; rfl
      have HQ := Lib.hid (HT.out.trans (if_pos o1))
      have hc4 := HC3.out.set2 (nx + 1)
      obtain ⟨u0, u1, u2, u3⟩ := row4 HC3.out.row
      have f2 := frozen_of_row _ kb 2 _ _ HC3.out.row
      obtain ⟨v0, v1, v2, v3⟩ := row4 hc4.row
      have hres4 := (Below.heap_setCell (W1.setCell ⟨kb, 1, none⟩ (.int .i64 ((p : Int) + 1))) ⟨kb, 2, none⟩ (.int .i64 (nx + 1)) w.heap.size (by show w.heap.size ≠ kb; omega)).trans HR3.out
      have HC4 := Lib.hid hc4
      have HR4 := Lib.hid hres4
      have HQZ := Lib.hid hqz
      clear hc4 hres4 hqz
      clear o1
      go_wp2_with (with_reducible show wpList _ _ _ (⟨none, .store _ (.tmp 4) _, _, _, _, _⟩ :: _) _ _
                   refine wpList_store_row rfl 30 (.tmp 4) (.tmp 50) rfl w.heap.size #[.int .i64 1, .int .i64 nx, .string ⟨#[]⟩, .slice none 0 0] rfl rfl _ _ HR4.out size_term rfl (one4 _ _ _ _ _ _) ?_)
      have hz := setRow_heap _ w.heap.size _ (#[.int .i64 1, .int .i64 nx, .string ⟨#[]⟩, .slice none 0 0] : Array Value) _ _ HR4.out
      have hpost := tk_end (t := varT nx) (a := none) (c := 0) HC4.out hlt (IsTm.mk' (t := varT nx) (IsSl.nil _ _ none 0)) #[.int .i64 1, .int .i64 nx, .string ⟨#[]⟩, .slice none 0 0]
      have hde : max dp (deep + ((deepT (varT nx) : Nat) : Int) - 1) = max dp deep := by rw [show deepT (varT nx) = 1 from rfl]; congr 1; omega
      exact bodyPost_ret (v := .agg #[.int .i64 1, .int .i64 nx, .string ⟨#[]⟩, .slice none 0 0]) (results_cell_row Try.results36 _ _ w.heap.size _ _ _ _ rfl hz Try.underlying30 rfl (by kernel_rfl)) rfl (by rw [HDR.out, HQ.out, HQZ.out]; simp only; rw [hde]; exact hpost)
    have b1 : (i.op == 1) = false := by simpa using o1
    replace HT := Lib.hid (HT.out.trans (if_neg o1))
    by_cases o2 : i.op = 2
    · have b2 : (i.op == 2) = true := by simp [o2]
      have hqz : q = 0 := by
        have := HSQ.out
        rw [show i.ar = 0 by simp [Ins.ar, o2], sk_zero] at this
        cases this; rfl
      have HQ := Lib.hid (HT.out.trans (if_pos (.inl o2)))
      have HC4 := HC3
      have HR4 := HR3
      have HQZ := Lib.hid hqz
      clear hqz
      clear o2
      go_wp2_with (with_reducible show wpList _ _ _ (⟨none, .store _ (.tmp 4) _, _, _, _, _⟩ :: _) _ _
                   refine wpList_store_row rfl 30 (.tmp 4) (.tmp 56) rfl w.heap.size #[.int .i64 1, .int .i64 i.a, .string ⟨#[]⟩, .slice none 0 0] rfl rfl _ _ HR4.out size_term rfl (one4 _ _ _ _ _ _) ?_)
      have hz := setRow_heap _ w.heap.size _ (#[.int .i64 1, .int .i64 i.a, .string ⟨#[]⟩, .slice none 0 0] : Array Value) _ _ HR4.out
      have hpost := tk_end (t := varT i.a) (a := none) (c := 0) HC4.out hlt (IsTm.mk' (t := varT i.a) (IsSl.nil _ _ none 0)) #[.int .i64 1, .int .i64 i.a, .string ⟨#[]⟩, .slice none 0 0]
      have hde : max dp (deep + ((deepT (varT i.a) : Nat) : Int) - 1) = max dp deep := by rw [show deepT (varT i.a) = 1 from rfl]; congr 1; omega
      exact bodyPost_ret (v := .agg #[.int .i64 1, .int .i64 i.a, .string ⟨#[]⟩, .slice none 0 0]) (results_cell_row Try.results36 _ _ w.heap.size _ _ _ _ rfl hz Try.underlying30 rfl (by kernel_rfl)) rfl (by rw [HDR.out, HQ.out, HQZ.out]; simp only; rw [hde]; exact hpost)
    have b2 : (i.op == 2) = false := by simpa using o2
    by_cases o3 : i.op = 3
    · have b3 : (i.op == 3) = true := by simp [o3]
      have hqz : q = 0 := by
        have := HSQ.out
        rw [show i.ar = 0 by simp [Ins.ar, o3], sk_zero] at this
        cases this; rfl
      have HQ := Lib.hid (HT.out.trans (if_pos (.inr o3)))
      have HC4 := HC3
      have HR4 := HR3
      have HQZ := Lib.hid hqz
      clear hqz
      clear o3
      go_wp2_with (with_reducible show wpList _ _ _ (⟨none, .store _ (.tmp 4) _, _, _, _, _⟩ :: _) _ _
                   refine wpList_store_row rfl 30 (.tmp 4) (.tmp 56) rfl w.heap.size #[.int .i64 1, .int .i64 i.a, .string ⟨#[]⟩, .slice none 0 0] rfl rfl _ _ HR4.out size_term rfl (one4 _ _ _ _ _ _) ?_)
      have hz := setRow_heap _ w.heap.size _ (#[.int .i64 1, .int .i64 i.a, .string ⟨#[]⟩, .slice none 0 0] : Array Value) _ _ HR4.out
      have hpost := tk_end (t := varT i.a) (a := none) (c := 0) HC4.out hlt (IsTm.mk' (t := varT i.a) (IsSl.nil _ _ none 0)) #[.int .i64 1, .int .i64 i.a, .string ⟨#[]⟩, .slice none 0 0]
      have hde : max dp (deep + ((deepT (varT i.a) : Nat) : Int) - 1) = max dp deep := by rw [show deepT (varT i.a) = 1 from rfl]; congr 1; omega
      exact bodyPost_ret (v := .agg #[.int .i64 1, .int .i64 i.a, .string ⟨#[]⟩, .slice none 0 0]) (results_cell_row Try.results36 _ _ w.heap.size _ _ _ _ rfl hz Try.underlying30 rfl (by kernel_rfl)) rfl (by rw [HDR.out, HQ.out, HQZ.out]; simp only; rw [hde]; exact hpost)
    have b3 : (i.op == 3) = false := by simpa using o3
    replace HT := Lib.hid (HT.out.trans (if_neg fun e => e.elim o2 o3))
    by_cases o4 : i.op = 4
    · have b4 : (i.op == 4) = true := by simp [o4]
      have hqz : q = 0 := by
        have := HSQ.out
        rw [show i.ar = 0 by simp [Ins.ar, o4], sk_zero] at this
        cases this; rfl
      have HQ := Lib.hid (HT.out.trans (if_pos o4))
      have HC4 := HC3
      have HR4 := HR3
      have HQZ := Lib.hid hqz
      clear hqz
      clear o4
      go_wp2_with (with_reducible show wpList _ _ _ (⟨none, .store _ (.tmp 4) _, _, _, _, _⟩ :: _) _ _
                   refine wpList_store_row rfl 30 (.tmp 4) (.tmp 61) rfl w.heap.size #[.int .i64 2, .int .i64 i.n, .string ⟨#[]⟩, .slice none 0 0] rfl rfl _ _ HR4.out size_term rfl (one4 _ _ _ _ _ _) ?_)
      have hz := setRow_heap _ w.heap.size _ (#[.int .i64 2, .int .i64 i.n, .string ⟨#[]⟩, .slice none 0 0] : Array Value) _ _ HR4.out
      have hpost := tk_end (t := intT i.n) (a := none) (c := 0) HC4.out hlt (IsTm.mk' (t := intT i.n) (IsSl.nil _ _ none 0)) #[.int .i64 2, .int .i64 i.n, .string ⟨#[]⟩, .slice none 0 0]
      have hde : max dp (deep + ((deepT (intT i.n) : Nat) : Int) - 1) = max dp deep := by rw [show deepT (intT i.n) = 1 from rfl]; congr 1; omega
      exact bodyPost_ret (v := .agg #[.int .i64 2, .int .i64 i.n, .string ⟨#[]⟩, .slice none 0 0]) (results_cell_row Try.results36 _ _ w.heap.size _ _ _ _ rfl hz Try.underlying30 rfl (by kernel_rfl)) rfl (by rw [HDR.out, HQ.out, HQZ.out]; simp only; rw [hde]; exact hpost)
    have b4 : (i.op == 4) = false := by simpa using o4
    replace HT := Lib.hid (HT.out.trans (if_neg o4))
    by_cases o5 : i.op = 5
    · have b5 : (i.op == 5) = true := by simp [o5]
      have hqz : q = 0 := by
        have := HSQ.out
        rw [show i.ar = 0 by simp [Ins.ar, o5], sk_zero] at this
        cases this; rfl
      have HQ := Lib.hid (HT.out.trans (if_pos o5))
      have HC4 := HC3
      have HR4 := HR3
      have HQZ := Lib.hid hqz
      clear hqz
      clear o5
      go_wp2_with (with_reducible show wpList _ _ _ (⟨none, .store _ (.tmp 4) _, _, _, _, _⟩ :: _) _ _
                   refine wpList_store_row rfl 30 (.tmp 4) (.tmp 66) rfl w.heap.size #[.int .i64 3, .int .i64 0, .string i.s, .slice none 0 0] rfl rfl _ _ HR4.out size_term rfl (one4 _ _ _ _ _ _) ?_)
      have hz := setRow_heap _ w.heap.size _ (#[.int .i64 3, .int .i64 0, .string i.s, .slice none 0 0] : Array Value) _ _ HR4.out
      have hpost := tk_end (t := atomT i.s) (a := none) (c := 0) HC4.out hlt (IsTm.mk' (t := atomT i.s) (IsSl.nil _ _ none 0)) #[.int .i64 3, .int .i64 0, .string i.s, .slice none 0 0]
      have hde : max dp (deep + ((deepT (atomT i.s) : Nat) : Int) - 1) = max dp deep := by rw [show deepT (atomT i.s) = 1 from rfl]; congr 1; omega
      exact bodyPost_ret (v := .agg #[.int .i64 3, .int .i64 0, .string i.s, .slice none 0 0]) (results_cell_row Try.results36 _ _ w.heap.size _ _ _ _ rfl hz Try.underlying30 rfl (by kernel_rfl)) rfl (by rw [HDR.out, HQ.out, HQZ.out]; simp only; rw [hde]; exact hpost)
    have b5 : (i.op == 5) = false := by simpa using o5
    replace HT := Lib.hid (HT.out.trans (if_neg o5))
    have o6 : i.op = 6 := by omega
    obtain ⟨n, hn⟩ : ∃ n : Nat, i.a = n := ⟨i.a.toNat, by have := hng.2.2 o6; omega⟩
    have hn1' : 1 ≤ n ∧ n ≤ 255 := by have := hng.2.2 o6; omega
    have har : i.ar = n := by simp [Ins.ar, o6, hn]
    have HSQ2 : Hid (sk (L.drop (p + 1 + 0)) (n - 0) = some q) := Lib.hid (by have := HSQ.out; rw [har] at this; simpa using this)
    have htn : i.a.toNat = n := by rw [hn]; simp
    rw [htn] at HT
    rw [hn] at y1
    have HN := Lib.hid hn
    clear o1 o2 o3 o4 o5 o6 htn har hn hng
    go_wp2
    refine wp_region_rest (by kernel_rfl) ?_
    have hdr : Below (W1.setCell ⟨kb, 1, none⟩ (.int .i64 ((p : Int) + 1))).heap.size (W1.setCell ⟨kb, 1, none⟩ (.int .i64 ((p : Int) + 1))) (W1.setCell ⟨kb, 1, none⟩ (.int .i64 ((p : Int) + 1))).drew := (Below.refl _ _).drew
    replace HC3 := Lib.hid (HC3.out.on hdr)
    replace HR3 := Lib.hid ((hdr.block w.heap.size (by have := HZ3.out; omega)).trans HR3.out)
    replace HI3 := Lib.hid ((hdr.block (w.heap.size + 1) (by have := HZ3.out; omega)).trans HI3.out)
    replace HZ3 : Hid ((W1.setCell ⟨kb, 1, none⟩ (.int .i64 ((p : Int) + 1))).drew.heap.size = w.heap.size + 2) := HZ3
    clear hdr x0 x1 x2 x3 f1 y0 y1 y2 y3
    generalize (W1.setCell ⟨kb, 1, none⟩ (.int .i64 ((p : Int) + 1))).drew = W2 at *
    -- COMP
    have lkb : kb < W2.heap.size := by have := HZ3.out; omega
    have lin : w.heap.size + 1 < W2.heap.size := by have := HZ3.out; omega
    obtain ⟨i0, hti, hz0, hz1, hz2⟩ := info_parts info_term
    have hz20 : w.heap.size + 2 ≤ W2.heap.size := by have := HZ3.out; omega
    refine rest_chainP (fun u => Below W2.heap.size W2 u) 0 7 (.soft 0 (.soft 1 (.soft 2 (.soft 3 (.two 4 6 (.soft 5 (.one 6 .nil)) (.one 4 (.soft 5 .nil))))))) (.soft _ (.soft _ (.soft _ (.soft _ (.two _ _ (.soft _ (.one _ .nil)) (.one _ (.soft _ .nil))))))) ⟨rfl, ⟨rfl, ⟨rfl, ⟨rfl, ⟨rfl, rfl, ⟨rfl, ⟨rfl, trivial⟩⟩, ⟨rfl, ⟨rfl, trivial⟩⟩⟩⟩⟩⟩⟩ (by kernel_rfl) (by kernel_rfl) (by kernel_rfl) (by kernel_rfl) (.inr (by kernel_rfl)) (Below.refl _ _) ?_
    refine chainP_soft (a1 := ?ma9) (by kernel_rfl) (by kernel_rfl) ?mh9 ?mr9
    case mh9 =>
      intro u hu E hE
      go_wp2
      rfl
    refine chainP_soft (a1 := ?ma10) (by kernel_rfl) (by kernel_rfl) ?mh10 ?mr10
    case mh10 =>
      intro u hu E hE
      obtain ⟨y0, y1, y2, y3⟩ := row4 ((hu.block (w.heap.size + 1) lin).trans HI3.out)
      go_wp2
      rfl
    refine chainP_soft (a1 := ?ma11) (by kernel_rfl) (by kernel_rfl) ?mh11 ?mr11
    case mh11 =>
      intro u hu E hE
      go_wp2
      rfl
    refine chainP_soft (a1 := ?ma12) (by kernel_rfl) (by kernel_rfl) ?mh12 ?mr12
    case mh12 =>
      intro u hu E hE
      obtain ⟨y0, y1, y2, y3⟩ := row4 ((hu.block (w.heap.size + 1) lin).trans HI3.out)
      rw [HN.out] at y1
      go_wp2
      rfl
    refine chainP_two ?_ ?_
    · intro E hE
      refine wpList_make_full _ rfl (.tmp 70) (.tmp 70) 28 rfl W2.heap.size 30 i0 _ 4 Try.underlying28 hti hz0 hz1 .i64 .i64 _ _ n rfl rfl rfl rfl (by rw [hz2]; omega) (by unfold maxLen; omega) (Nat.le_refl _) ?_
      intro wA hown hgr
      obtain ⟨row, hrow, hrs⟩ := own_row hown
      have hbA : Below W2.heap.size W2 wA := (Below.refl _ _).grown hgr (Nat.le_refl _) (by simp)
      clear hown hgr
      refine hE _ _ ⟨hbA, ?_⟩
      simp only [Act.put, List.getElem?_toArray, List.getElem?_cons_succ, List.getElem?_cons_zero, Option.bind_some, List.setIfInBounds_toArray, List.set_cons_succ, List.set_cons_zero, Nat.reduceAdd]
      refine chainP_soft (a1 := ?ma13) (by kernel_rfl) (by kernel_rfl) ?mh13 ?mr13
      case mh13 =>
        intro u hu E hE
        go_wp2
        rfl
      refine chainP_one ?_
      intro E hE
      go_wp2
      refine ⟨hbA.trans ((below_new _ _).mono hbA.size), ?_⟩
      refine chainP_nil ?_
      have hbU := below_new wA (.cells #[.int .i64 0, .int .i64 0, .string ⟨#[]⟩, .slice none 0 0] 30 (0, 0))
      have hnU := heap_alloc_new wA (.cells #[.int .i64 0, .int .i64 0, .string ⟨#[]⟩, .slice none 0 0] 30 (0, 0))
      have HCU := Lib.hid ((HC3.out.on hbA).on hbU)
      have HRU := Lib.hid ((hbU.block w.heap.size (by have := hbA.size; omega)).trans ((hbA.block w.heap.size (by omega)).trans HR3.out))
      have HGR := Lib.hid ((hbU.block W2.heap.size (Array.getElem?_eq_some_iff.1 hrow).1).trans hrow)
      have HTB := Lib.hid hnU
      have hgtb : W2.heap.size < wA.heap.size := (Array.getElem?_eq_some_iff.1 hrow).1
      have hgt : w.heap.size + 1 ≤ W2.heap.size := by omega
      clear hbU hnU hbA hrow HC3 HR3 HI3 HZ3
      generalize wA.alloc (.cells #[.int .i64 0, .int .i64 0, .string ⟨#[]⟩, .slice none 0 0] 30 (0, 0)) = UX at *
      clear hE
      generalize wA.heap.size = tb at *
      generalize W2.heap.size = g at *
      clear lkb lin
      refine rest_lineL 7 8 [_] rfl (by kernel_rfl) (by decide) (by decide) (by kernel_rfl) ?_
      refine wpList_store_row rfl 30 (.tmp 6) (.tmp 72) rfl tb #[.int .i64 4, .int .i64 0, .string i.s, .slice (some ⟨g, 0, none⟩) n n] rfl rfl _ _ HTB.out size_term rfl (one4 _ _ _ _ _ _) ?_
      go_wp2
      refine then_rest (rest_end (by decide) ?_)
      have hbox := setRow_heap UX tb _ (#[.int .i64 4, .int .i64 0, .string i.s, .slice (some ⟨g, 0, none⟩) n n] : Array Value) _ _ HTB.out
      have hoth : ∀ b, b ≠ tb → (UX.setRow tb #[.int .i64 4, .int .i64 0, .string i.s, .slice (some ⟨g, 0, none⟩) n n]).heap[b]? = UX.heap[b]? := fun b hb => setRow_other _ _ _ _ hb
      have hst : TkRel w kb (.slice (some ⟨gi, oi, none⟩) L.length qc) L N p n q nx dp deep i.s g tb (.int .i64 ((0 : Nat) : Int)) (UX.setRow tb #[.int .i64 4, .int .i64 0, .string i.s, .slice (some ⟨g, 0, none⟩) n n]) := by
        have hk : Keeps UX (UX.setRow tb #[.int .i64 4, .int .i64 0, .string i.s, .slice (some ⟨g, 0, none⟩) n n]) (fun b => b = tb) := ⟨rfl, rfl, rfl, by simp, fun b _ hb => hoth b hb⟩
        have hdp : max dp (deep + ((deepL ([] : List Tm) : Nat) : Int)) = max dp deep := by simp [deepL]
        refine ⟨0, rfl, by omega, ⟨0, q, sk_zero _, HSQ2.out, by omega, ?_, insSl_keep3 HTB.out HCU.out.sl fun b _ hb => hoth b hb, HCU.out.kp.trans hk fun b e => .inr (by omega)⟩, Fill.start ((hoth g (by omega)).trans HGR.out) hrs, (hoth _ (by omega)).trans HRU.out, hbox⟩
        simp only [takeN]
        rw [hdp]
        exact (hoth kb (by omega)).trans HCU.out.row
      have HST := Lib.hid hst
      have x3 := (row4 hbox).2.2.2
      clear hbox hoth hst HCU HRU HGR HTB hrs
      generalize UX.setRow tb #[.int .i64 4, .int .i64 0, .string i.s, .slice (some ⟨g, 0, none⟩) n n] = WL at *
      go_wp2
      go_loopw [76] (fun vi wr => TkRel w kb (.slice (some ⟨gi, oi, none⟩) L.length qc) L N p n q nx dp deep i.s g tb vi wr) (fun vi _ => n - (intOf vi).toNat)
      case atStart => exact HST.out
      case round =>
        obtain ⟨r, rfl, hr⟩ := hrel
        clear HST x3
        obtain ⟨c, d, hc, hd, hcd, hcx⟩ := hr.at_
        have hrn0 := hr.le
        have HFL := Lib.hid hr.fill
        have HRES := Lib.hid hr.res
        have HBOX := Lib.hid hr.box
        have HCX := Lib.hid hcx
        clear hr hcx
        have htf := (take_facts N).2 r (L.drop (p + 1)) nx c hc (by omega)
        have htr := (take_rest N).2 r (L.drop (p + 1)) nx c hc (by omega)
        rw [List.drop_drop] at htr
        have hsn := takeN_snoc (takeT N) r (L.drop (p + 1)) nx
        have hln := takeN_len (takeT N) r (L.drop (p + 1)) nx
        rw [htr] at hsn
        by_cases hrn : r < n
        · obtain ⟨j1, d1, e1, e2, e3⟩ := sk_split _ 1 (n - r - 1) d (by rw [show 1 + (n - r - 1) = n - r by omega]; exact hd)
          rw [List.drop_drop] at e2
          have hjn := sk_join _ r 1 c j1 hc (by rw [List.drop_drop]; exact e1)
          have hlc := sk_le _ _ _ e1
          have hj1 := sk_pos _ 0 j1 e1
          rw [List.length_drop] at hlc
          have htf1 := (take_facts N).1 (L.drop (p + 1 + c)) (takeN (takeT N) r (L.drop (p + 1)) nx).2.2 j1 e1 (by omega)
          generalize takeN (takeT N) r (L.drop (p + 1)) nx = S at *
          obtain ⟨ts, LS, x'⟩ := S
          simp only at htf htr hsn hln htf1
          have hih := fun (u : World) h1 h2 => IH.out (p + 1 + c) j1 x' (max dp (deep + deepL ts)) (deep + 1) u e1 (by omega) (by omega) (by omega) (by omega) (by omega) (by omega) (by omega) (by omega) h1 h2
          have HIH := Lib.hid hih
          have HSN := Lib.hid hsn
          have HLN := Lib.hid hln
          have HE := Lib.hid (And.intro hjn (And.intro e2 e3))
          have HTF1 := Lib.hid htf1
          clear hih hsn hln hjn e2 e3 htf1 e1 hc hd
          generalize takeT N (L.drop (p + 1 + c)) x' = R at *
          obtain ⟨t, LR, x2⟩ := R
          have hin : (r : Int) < (n : Int) := by omega
          have hin0 : (0 : Int) ≤ (r : Int) := by omega
          go_wp2
          refine wp_region_rest (by kernel_rfl) ?_
          have hdr : Below wr.heap.size wr wr.drew := (Below.refl _ _).drew
          replace HCX := Lib.hid (HCX.out.on hdr)
          replace HFL := Lib.hid (HFL.out.keep (w' := wr.drew) (fun _ _ _ => rfl) rfl)
          replace HRES : Hid (wr.drew.heap[w.heap.size]? = _) := Lib.hid HRES.out
          replace HBOX : Hid (wr.drew.heap[tb]? = _) := Lib.hid HBOX.out
          clear hdr
          generalize wr.drew = W3 at *
          have ltb : tb < W3.heap.size := (Array.getElem?_eq_some_iff.1 HBOX.out).1
          have lkb : kb < W3.heap.size := (Array.getElem?_eq_some_iff.1 HCX.out.row).1
          have lres : w.heap.size < W3.heap.size := (Array.getElem?_eq_some_iff.1 HRES.out).1
          have lg : g < W3.heap.size := HFL.out.lt
          refine rest_chainP (fun u => Keeps W3 u (fun b => b = kb)) 0 7 (.soft 0 (.soft 1 (.soft 2 (.soft 3 (.soft 4 (.soft 5 (.one 6 .nil))))))) (.soft _ (.soft _ (.soft _ (.soft _ (.soft _ (.soft _ (.one _ .nil))))))) ⟨rfl, ⟨rfl, ⟨rfl, ⟨rfl, ⟨rfl, ⟨rfl, ⟨rfl, trivial⟩⟩⟩⟩⟩⟩⟩ (by kernel_rfl) (by kernel_rfl) (by kernel_rfl) (by kernel_rfl) (.inr (by kernel_rfl)) (Keeps.refl _ _) ?_
          refine chainP_soft (a1 := ?ma14) (by kernel_rfl) (by kernel_rfl) ?mh14 ?mr14
          case mh14 =>
            intro u hu E hE
            go_wp2
            rfl
          refine chainP_soft (a1 := ?ma15) (by kernel_rfl) (by kernel_rfl) ?mh15 ?mr15
          case mh15 =>
            intro u hu E hE
            have x3 := (row4 ((hu.block tb ltb (by omega)).trans HBOX.out)).2.2.2
            go_wp2
            rfl
          refine chainP_soft (a1 := ?ma16) (by kernel_rfl) (by kernel_rfl) ?mh16 ?mr16
          case mh16 =>
            intro u hu E hE
            go_wp2
            rfl
          refine chainP_soft (a1 := ?ma17) (by kernel_rfl) (by kernel_rfl) ?mh17 ?mr17
          case mh17 =>
            intro u hu E hE
            go_wp2
            rfl
          refine chainP_soft (a1 := ?ma18) (by kernel_rfl) (by kernel_rfl) ?mh18 ?mr18
          case mh18 =>
            intro u hu E hE
            go_wp2
            rfl
          refine chainP_soft (a1 := ?ma19) (by kernel_rfl) (by kernel_rfl) ?mh19 ?mr19
          case mh19 =>
            intro u hu E hE
            go_wp2
            rfl
          refine chainP_one ?_
          intro E hE
          go_wp2_with (go_at_call 36
                       refine (HIH.out _ HCX.out.row HCX.out.sl).mono ?_
                       rintro e w9 ⟨ax, cx, rfl, hix, hrw9, hkp9⟩
                       have HIX := Lib.hid hix
                       have HRW9 := Lib.hid hrw9
                       have HKP9 := Lib.hid hkp9
                       clear hix hrw9 hkp9)
          refine ⟨HKP9.out, ?_⟩
          refine chainP_nil ?_
          have hfl9 := HFL.out.keep (w' := w9) (fun b hlt hb => HKP9.out.block b hlt (by omega)) (HKP9.out.block g lg (by omega))
          obtain ⟨hth, hf10, hk10⟩ := hfl9.put (t := t) (a := ax) (c := cx) HLN.out hrn (HIX.out.imp (fun b hb => ⟨by omega, by omega⟩) fun _ _ _ => rfl)
          have hoth : ∀ b, b < w9.heap.size → b ≠ g → (w9.setCells g (r * 4) [.int .i64 t.k, .int .i64 t.n, .string t.s, .slice ax t.args.length cx]).heap[b]? = w9.heap[b]? := fun b hlt hb => hk10.block b hlt hb
          have lz : W3.heap.size ≤ w9.heap.size := HKP9.out.size
          have hdm : max (max dp (deep + ((deepL ts : Nat) : Int))) (deep + 1 + ((deepT t : Nat) : Int) - 1) = max dp (deep + ((deepL (ts ++ [t]) : Nat) : Int)) := by
            rw [deepL_app]
            have : deepL [t] = deepT t := by simp [deepL]
            rw [this]
            omega
          have hsl9 := insSl_keep HCX.out.row HCX.out.sl fun b hlt hb => HKP9.out.block b hlt hb
          have hres10 := (hoth w.heap.size (by omega) (by omega)).trans ((HKP9.out.block w.heap.size lres (by omega)).trans HRES.out)
          have hbox10 := (hoth tb (by omega) (by omega)).trans ((HKP9.out.block tb ltb (by omega)).trans HBOX.out)
          have hrw10 : (w9.setCells g (r * 4) [.int .i64 t.k, .int .i64 t.n, .string t.s, .slice ax t.args.length cx]).heap[kb]? = some (tkO (.slice (some ⟨gi, oi, none⟩) L.length qc) ((p + 1 + (c + j1) : Nat) : Int) x2 (max dp (deep + ((deepL (ts ++ [t]) : Nat) : Int)))) := by
            rw [← hdm, show p + 1 + (c + j1) = p + 1 + c + j1 by omega]
            exact (hoth kb (by omega) (by omega)).trans HRW9.out
          obtain ⟨csg, hgrow, -⟩ := hfl9.row
          have hsl10 : InsSl (w9.setCells g (r * 4) [.int .i64 t.k, .int .i64 t.n, .string t.s, .slice ax t.args.length cx]) (.slice (some ⟨gi, oi, none⟩) L.length qc) L := insSl_own HOW.out HCX.out.kp HKP9.out hk10 (by omega) hlt (by omega)
          have hkk := (HCX.out.kp.trans HKP9.out fun b e => .inl e).trans hk10 (M := fun b => b = kb) fun b e => .inr (by omega)
          have HCX10 : Hid (TkCtx w kb (.slice (some ⟨gi, oi, none⟩) L.length qc) L ((p + 1 + (c + j1) : Nat) : Int) x2 (max dp (deep + ((deepL (ts ++ [t]) : Nat) : Int))) (w9.setCells g (r * 4) [.int .i64 t.k, .int .i64 t.n, .string t.s, .slice ax t.args.length cx])) := Lib.hid ⟨hrw10, hsl10, hkk⟩
          have HTH := Lib.hid hth
          have HF10 := Lib.hid hf10
          have HRES10 := Lib.hid hres10
          have HBOX10 := Lib.hid hbox10
          clear hfl9 hth hf10 hk10 hoth hdm hsl9 hres10 hbox10 hrw10 hsl10 hkk hgrow csg
          refine rest_lineL 7 9 [_, _] rfl (by kernel_rfl) (by decide) (by decide) (by kernel_rfl) ?_
          go_wp2_with (with_reducible show wpList _ _ _ (⟨none, .store _ (.tmp 86) _, _, _, _, _⟩ :: _) _ _
                       refine wpList_store_mid rfl 30 (.tmp 86) (.tmp 85) rfl g (r * 4) #[.int .i64 t.k, .int .i64 t.n, .string t.s, .slice ax t.args.length cx] rfl rfl HTH.out size_term (one4 _ _ _ _ _ _) ?_)
          refine then_rest (rest_end (by decide) ?_)
          go_wp2
          go_roundw
          case rel =>
            refine ⟨r + 1, by go_num, by omega, ⟨c + j1, d1, HE.out.1, ?_, by have := HE.out.2.2; omega, ?_⟩, ?_, HRES10.out, HBOX10.out⟩
            · rw [show p + 1 + (c + j1) = p + 1 + c + j1 by omega, show n - (r + 1) = n - r - 1 by omega]; exact HE.out.2.1
            · rw [HSN.out]; exact HCX10.out
            · rw [HSN.out]; exact HF10.out
          case measure => simp [intOf]; omega
        · obtain rfl : r = n := by omega
          rw [Nat.sub_self, sk_zero] at hd
          cases hd
          obtain rfl : c = q := by omega
          have hin : decide ((r : Int) < (r : Int)) = false := by simp
          obtain ⟨x0, x1, x2, x3⟩ := row4 HBOX.out
          have HTS := Lib.hid hsn
          clear hsn htr htf
          generalize takeN (takeT N) r (L.drop (p + 1)) nx = S at *
          obtain ⟨ts, LS, x'⟩ := S
          simp only at hln
          obtain rfl : ts.length = r := hln
          go_wp2_with (with_reducible show wpList _ _ _ (⟨none, .store _ (.tmp 4) _, _, _, _, _⟩ :: _) _ _
                       refine wpList_store_row rfl 30 (.tmp 4) (.tmp 88) rfl w.heap.size #[.int .i64 4, .int .i64 0, .string i.s, .slice (some ⟨g, 0, none⟩) ts.length ts.length] rfl rfl _ _ HRES.out size_term rfl (one4 _ _ _ _ _ _) ?_)
          have hz := setRow_heap wr w.heap.size _ (#[.int .i64 4, .int .i64 0, .string i.s, .slice (some ⟨g, 0, none⟩) ts.length ts.length] : Array Value) _ _ HRES.out
          have hpost := tk_end (t := compT i.s ts) (a := some ⟨g, 0, none⟩) (c := ts.length) HCX.out hlt (IsTm.mk' (t := compT i.s ts) (HFL.out.sl rfl hgt)) #[.int .i64 4, .int .i64 0, .string i.s, .slice (some ⟨g, 0, none⟩) ts.length ts.length]
          have hde : deep + ((deepT (compT i.s ts) : Nat) : Int) - 1 = deep + ((deepL ts : Nat) : Int) := by
            have : deepT (compT i.s ts) = deepL ts + 1 := rfl
            rw [this]; omega
          exact bodyPost_ret (v := .agg #[.int .i64 4, .int .i64 0, .string i.s, .slice (some ⟨g, 0, none⟩) ts.length ts.length]) (results_cell_row Try.results36 _ _ w.heap.size _ _ _ _ rfl hz Try.underlying30 rfl (by kernel_rfl)) rfl (by rw [HDR.out, HT.out]; simp only; rw [hde, show ((p : Int) + ((c : Int) + 1)) = ((p + 1 + c : Nat) : Int) by omega]; exact hpost)
    · intro E hE
      go_wp2
      refine ⟨below_new _ _, ?_⟩
      have hbU := below_new W2 (.cells #[.int .i64 0, .int .i64 0, .string ⟨#[]⟩, .slice none 0 0] 30 (0, 0))
      have hnU := heap_alloc_new W2 (.cells #[.int .i64 0, .int .i64 0, .string ⟨#[]⟩, .slice none 0 0] 30 (0, 0))
      have hzU : W2.heap.size < (W2.alloc (.cells #[.int .i64 0, .int .i64 0, .string ⟨#[]⟩, .slice none 0 0] 30 (0, 0))).heap.size := by simp
      generalize W2.alloc (.cells #[.int .i64 0, .int .i64 0, .string ⟨#[]⟩, .slice none 0 0] 30 (0, 0)) = wU at *
      refine chainP_one ?_
      intro E hE
      refine wpList_make_full _ rfl (.tmp 70) (.tmp 70) 28 rfl wU.heap.size 30 i0 _ 4 Try.underlying28 hti hz0 hz1 .i64 .i64 _ _ n rfl rfl rfl rfl (by rw [hz2]; omega) (by unfold maxLen; omega) (Nat.le_refl _) ?_
      intro UX hown hgr
      obtain ⟨row, hrow, hrs⟩ := own_row hown
      have hbA : Below wU.heap.size wU UX := (Below.refl _ _).grown hgr (Nat.le_refl _) (by simp)
      clear hown hgr
      refine hE _ _ ⟨hbU.trans (hbA.mono hbU.size), ?_⟩
      simp only [Act.put, List.getElem?_toArray, List.getElem?_cons_succ, List.getElem?_cons_zero, Option.bind_some, List.setIfInBounds_toArray, List.set_cons_succ, List.set_cons_zero, Nat.reduceAdd]
      refine chainP_soft (a1 := ?ma20) (by kernel_rfl) (by kernel_rfl) ?mh20 ?mr20
      case mh20 =>
        intro u hu E hE
        go_wp2
        rfl
      refine chainP_nil ?_
      have HCU := Lib.hid ((HC3.out.on hbU).on hbA)
      have HRU := Lib.hid ((hbA.block w.heap.size (by omega)).trans ((hbU.block w.heap.size (by omega)).trans HR3.out))
      have HGR := Lib.hid hrow
      have HTB := Lib.hid ((hbA.block W2.heap.size (by omega)).trans hnU)
      have hgtb : W2.heap.size < wU.heap.size := hzU
      have hgt : w.heap.size + 1 ≤ wU.heap.size := by omega
      clear hbU hnU hbA hrow HC3 HR3 HI3 HZ3 hzU
      clear hE
      generalize wU.heap.size = g at *
      generalize W2.heap.size = tb at *
      clear lkb lin
      refine rest_lineL 7 8 [_] rfl (by kernel_rfl) (by decide) (by decide) (by kernel_rfl) ?_
      refine wpList_store_row rfl 30 (.tmp 6) (.tmp 72) rfl tb #[.int .i64 4, .int .i64 0, .string i.s, .slice (some ⟨g, 0, none⟩) n n] rfl rfl _ _ HTB.out size_term rfl (one4 _ _ _ _ _ _) ?_
      go_wp2
      refine then_rest (rest_end (by decide) ?_)
      have hbox := setRow_heap UX tb _ (#[.int .i64 4, .int .i64 0, .string i.s, .slice (some ⟨g, 0, none⟩) n n] : Array Value) _ _ HTB.out
      have hoth : ∀ b, b ≠ tb → (UX.setRow tb #[.int .i64 4, .int .i64 0, .string i.s, .slice (some ⟨g, 0, none⟩) n n]).heap[b]? = UX.heap[b]? := fun b hb => setRow_other _ _ _ _ hb
      have hst : TkRel w kb (.slice (some ⟨gi, oi, none⟩) L.length qc) L N p n q nx dp deep i.s g tb (.int .i64 ((0 : Nat) : Int)) (UX.setRow tb #[.int .i64 4, .int .i64 0, .string i.s, .slice (some ⟨g, 0, none⟩) n n]) := by
        have hk : Keeps UX (UX.setRow tb #[.int .i64 4, .int .i64 0, .string i.s, .slice (some ⟨g, 0, none⟩) n n]) (fun b => b = tb) := ⟨rfl, rfl, rfl, by simp, fun b _ hb => hoth b hb⟩
        have hdp : max dp (deep + ((deepL ([] : List Tm) : Nat) : Int)) = max dp deep := by simp [deepL]
        refine ⟨0, rfl, by omega, ⟨0, q, sk_zero _, HSQ2.out, by omega, ?_, insSl_keep3 HTB.out HCU.out.sl fun b _ hb => hoth b hb, HCU.out.kp.trans hk fun b e => .inr (by omega)⟩, Fill.start ((hoth g (by omega)).trans HGR.out) hrs, (hoth _ (by omega)).trans HRU.out, hbox⟩
        simp only [takeN]
        rw [hdp]
        exact (hoth kb (by omega)).trans HCU.out.row
      have HST := Lib.hid hst
      have x3 := (row4 hbox).2.2.2
      clear hbox hoth hst HCU HRU HGR HTB hrs
      generalize UX.setRow tb #[.int .i64 4, .int .i64 0, .string i.s, .slice (some ⟨g, 0, none⟩) n n] = WL at *
      go_wp2
      go_loopw [76] (fun vi wr => TkRel w kb (.slice (some ⟨gi, oi, none⟩) L.length qc) L N p n q nx dp deep i.s g tb vi wr) (fun vi _ => n - (intOf vi).toNat)
      case atStart => exact HST.out
      case round =>
        obtain ⟨r, rfl, hr⟩ := hrel
        clear HST x3
        obtain ⟨c, d, hc, hd, hcd, hcx⟩ := hr.at_
        have hrn0 := hr.le
        have HFL := Lib.hid hr.fill
        have HRES := Lib.hid hr.res
        have HBOX := Lib.hid hr.box
        have HCX := Lib.hid hcx
        clear hr hcx
        have htf := (take_facts N).2 r (L.drop (p + 1)) nx c hc (by omega)
        have htr := (take_rest N).2 r (L.drop (p + 1)) nx c hc (by omega)
        rw [List.drop_drop] at htr
        have hsn := takeN_snoc (takeT N) r (L.drop (p + 1)) nx
        have hln := takeN_len (takeT N) r (L.drop (p + 1)) nx
        rw [htr] at hsn
        by_cases hrn : r < n
        · obtain ⟨j1, d1, e1, e2, e3⟩ := sk_split _ 1 (n - r - 1) d (by rw [show 1 + (n - r - 1) = n - r by omega]; exact hd)
          rw [List.drop_drop] at e2
          have hjn := sk_join _ r 1 c j1 hc (by rw [List.drop_drop]; exact e1)
          have hlc := sk_le _ _ _ e1
          have hj1 := sk_pos _ 0 j1 e1
          rw [List.length_drop] at hlc
          have htf1 := (take_facts N).1 (L.drop (p + 1 + c)) (takeN (takeT N) r (L.drop (p + 1)) nx).2.2 j1 e1 (by omega)
          generalize takeN (takeT N) r (L.drop (p + 1)) nx = S at *
          obtain ⟨ts, LS, x'⟩ := S
          simp only at htf htr hsn hln htf1
          have hih := fun (u : World) h1 h2 => IH.out (p + 1 + c) j1 x' (max dp (deep + deepL ts)) (deep + 1) u e1 (by omega) (by omega) (by omega) (by omega) (by omega) (by omega) (by omega) (by omega) h1 h2
          have HIH := Lib.hid hih
          have HSN := Lib.hid hsn
          have HLN := Lib.hid hln
          have HE := Lib.hid (And.intro hjn (And.intro e2 e3))
          have HTF1 := Lib.hid htf1
          clear hih hsn hln hjn e2 e3 htf1 e1 hc hd
          generalize takeT N (L.drop (p + 1 + c)) x' = R at *
          obtain ⟨t, LR, x2⟩ := R
          have hin : (r : Int) < (n : Int) := by omega
          have hin0 : (0 : Int) ≤ (r : Int) := by omega
          go_wp2
          refine wp_region_rest (by kernel_rfl) ?_
          have hdr : Below wr.heap.size wr wr.drew := (Below.refl _ _).drew
          replace HCX := Lib.hid (HCX.out.on hdr)
          replace HFL := Lib.hid (HFL.out.keep (w' := wr.drew) (fun _ _ _ => rfl) rfl)
          replace HRES : Hid (wr.drew.heap[w.heap.size]? = _) := Lib.hid HRES.out
          replace HBOX : Hid (wr.drew.heap[tb]? = _) := Lib.hid HBOX.out
          clear hdr
          generalize wr.drew = W3 at *
          have ltb : tb < W3.heap.size := (Array.getElem?_eq_some_iff.1 HBOX.out).1
          have lkb : kb < W3.heap.size := (Array.getElem?_eq_some_iff.1 HCX.out.row).1
          have lres : w.heap.size < W3.heap.size := (Array.getElem?_eq_some_iff.1 HRES.out).1
          have lg : g < W3.heap.size := HFL.out.lt
          refine rest_chainP (fun u => Keeps W3 u (fun b => b = kb)) 0 7 (.soft 0 (.soft 1 (.soft 2 (.soft 3 (.soft 4 (.soft 5 (.one 6 .nil))))))) (.soft _ (.soft _ (.soft _ (.soft _ (.soft _ (.soft _ (.one _ .nil))))))) ⟨rfl, ⟨rfl, ⟨rfl, ⟨rfl, ⟨rfl, ⟨rfl, ⟨rfl, trivial⟩⟩⟩⟩⟩⟩⟩ (by kernel_rfl) (by kernel_rfl) (by kernel_rfl) (by kernel_rfl) (.inr (by kernel_rfl)) (Keeps.refl _ _) ?_
          refine chainP_soft (a1 := ?ma21) (by kernel_rfl) (by kernel_rfl) ?mh21 ?mr21
          case mh21 =>
            intro u hu E hE
            go_wp2
            rfl
          refine chainP_soft (a1 := ?ma22) (by kernel_rfl) (by kernel_rfl) ?mh22 ?mr22
          case mh22 =>
            intro u hu E hE
            have x3 := (row4 ((hu.block tb ltb (by omega)).trans HBOX.out)).2.2.2
            go_wp2
            rfl
          refine chainP_soft (a1 := ?ma23) (by kernel_rfl) (by kernel_rfl) ?mh23 ?mr23
          case mh23 =>
            intro u hu E hE
            go_wp2
            rfl
          refine chainP_soft (a1 := ?ma24) (by kernel_rfl) (by kernel_rfl) ?mh24 ?mr24
          case mh24 =>
            intro u hu E hE
            go_wp2
            rfl
          refine chainP_soft (a1 := ?ma25) (by kernel_rfl) (by kernel_rfl) ?mh25 ?mr25
          case mh25 =>
            intro u hu E hE
            go_wp2
            rfl
          refine chainP_soft (a1 := ?ma26) (by kernel_rfl) (by kernel_rfl) ?mh26 ?mr26
          case mh26 =>
            intro u hu E hE
            go_wp2
            rfl
          refine chainP_one ?_
          intro E hE
          go_wp2_with (go_at_call 36
                       refine (HIH.out _ HCX.out.row HCX.out.sl).mono ?_
                       rintro e w9 ⟨ax, cx, rfl, hix, hrw9, hkp9⟩
                       have HIX := Lib.hid hix
                       have HRW9 := Lib.hid hrw9
                       have HKP9 := Lib.hid hkp9
                       clear hix hrw9 hkp9)
          refine ⟨HKP9.out, ?_⟩
          refine chainP_nil ?_
          have hfl9 := HFL.out.keep (w' := w9) (fun b hlt hb => HKP9.out.block b hlt (by omega)) (HKP9.out.block g lg (by omega))
          obtain ⟨hth, hf10, hk10⟩ := hfl9.put (t := t) (a := ax) (c := cx) HLN.out hrn (HIX.out.imp (fun b hb => ⟨by omega, by omega⟩) fun _ _ _ => rfl)
          have hoth : ∀ b, b < w9.heap.size → b ≠ g → (w9.setCells g (r * 4) [.int .i64 t.k, .int .i64 t.n, .string t.s, .slice ax t.args.length cx]).heap[b]? = w9.heap[b]? := fun b hlt hb => hk10.block b hlt hb
          have lz : W3.heap.size ≤ w9.heap.size := HKP9.out.size
          have hdm : max (max dp (deep + ((deepL ts : Nat) : Int))) (deep + 1 + ((deepT t : Nat) : Int) - 1) = max dp (deep + ((deepL (ts ++ [t]) : Nat) : Int)) := by
            rw [deepL_app]
            have : deepL [t] = deepT t := by simp [deepL]
            rw [this]
            omega
          have hsl9 := insSl_keep HCX.out.row HCX.out.sl fun b hlt hb => HKP9.out.block b hlt hb
          have hres10 := (hoth w.heap.size (by omega) (by omega)).trans ((HKP9.out.block w.heap.size lres (by omega)).trans HRES.out)
          have hbox10 := (hoth tb (by omega) (by omega)).trans ((HKP9.out.block tb ltb (by omega)).trans HBOX.out)
          have hrw10 : (w9.setCells g (r * 4) [.int .i64 t.k, .int .i64 t.n, .string t.s, .slice ax t.args.length cx]).heap[kb]? = some (tkO (.slice (some ⟨gi, oi, none⟩) L.length qc) ((p + 1 + (c + j1) : Nat) : Int) x2 (max dp (deep + ((deepL (ts ++ [t]) : Nat) : Int)))) := by
            rw [← hdm, show p + 1 + (c + j1) = p + 1 + c + j1 by omega]
            exact (hoth kb (by omega) (by omega)).trans HRW9.out
          obtain ⟨csg, hgrow, -⟩ := hfl9.row
          have hsl10 : InsSl (w9.setCells g (r * 4) [.int .i64 t.k, .int .i64 t.n, .string t.s, .slice ax t.args.length cx]) (.slice (some ⟨gi, oi, none⟩) L.length qc) L := insSl_own HOW.out HCX.out.kp HKP9.out hk10 (by omega) hlt (by omega)
          have hkk := (HCX.out.kp.trans HKP9.out fun b e => .inl e).trans hk10 (M := fun b => b = kb) fun b e => .inr (by omega)
          have HCX10 : Hid (TkCtx w kb (.slice (some ⟨gi, oi, none⟩) L.length qc) L ((p + 1 + (c + j1) : Nat) : Int) x2 (max dp (deep + ((deepL (ts ++ [t]) : Nat) : Int))) (w9.setCells g (r * 4) [.int .i64 t.k, .int .i64 t.n, .string t.s, .slice ax t.args.length cx])) := Lib.hid ⟨hrw10, hsl10, hkk⟩
          have HTH := Lib.hid hth
          have HF10 := Lib.hid hf10
          have HRES10 := Lib.hid hres10
          have HBOX10 := Lib.hid hbox10
          clear hfl9 hth hf10 hk10 hoth hdm hsl9 hres10 hbox10 hrw10 hsl10 hkk hgrow csg
          refine rest_lineL 7 9 [_, _] rfl (by kernel_rfl) (by decide) (by decide) (by kernel_rfl) ?_
          go_wp2_with (with_reducible show wpList _ _ _ (⟨none, .store _ (.tmp 86) _, _, _, _, _⟩ :: _) _ _
                       refine wpList_store_mid rfl 30 (.tmp 86) (.tmp 85) rfl g (r * 4) #[.int .i64 t.k, .int .i64 t.n, .string t.s, .slice ax t.args.length cx] rfl rfl HTH.out size_term (one4 _ _ _ _ _ _) ?_)
          refine then_rest (rest_end (by decide) ?_)
          go_wp2
          go_roundw
          case rel =>
            refine ⟨r + 1, by go_num, by omega, ⟨c + j1, d1, HE.out.1, ?_, by have := HE.out.2.2; omega, ?_⟩, ?_, HRES10.out, HBOX10.out⟩
            · rw [show p + 1 + (c + j1) = p + 1 + c + j1 by omega, show n - (r + 1) = n - r - 1 by omega]; exact HE.out.2.1
            · rw [HSN.out]; exact HCX10.out
            · rw [HSN.out]; exact HF10.out
          case measure => simp [intOf]; omega
        · obtain rfl : r = n := by omega
          rw [Nat.sub_self, sk_zero] at hd
          cases hd
          obtain rfl : c = q := by omega
          have hin : decide ((r : Int) < (r : Int)) = false := by simp
          obtain ⟨x0, x1, x2, x3⟩ := row4 HBOX.out
          have HTS := Lib.hid hsn
          clear hsn htr htf
          generalize takeN (takeT N) r (L.drop (p + 1)) nx = S at *
          obtain ⟨ts, LS, x'⟩ := S
          simp only at hln
          obtain rfl : ts.length = r := hln
          go_wp2_with (with_reducible show wpList _ _ _ (⟨none, .store _ (.tmp 4) _, _, _, _, _⟩ :: _) _ _
                       refine wpList_store_row rfl 30 (.tmp 4) (.tmp 88) rfl w.heap.size #[.int .i64 4, .int .i64 0, .string i.s, .slice (some ⟨g, 0, none⟩) ts.length ts.length] rfl rfl _ _ HRES.out size_term rfl (one4 _ _ _ _ _ _) ?_)
          have hz := setRow_heap wr w.heap.size _ (#[.int .i64 4, .int .i64 0, .string i.s, .slice (some ⟨g, 0, none⟩) ts.length ts.length] : Array Value) _ _ HRES.out
          have hpost := tk_end (t := compT i.s ts) (a := some ⟨g, 0, none⟩) (c := ts.length) HCX.out hlt (IsTm.mk' (t := compT i.s ts) (HFL.out.sl rfl hgt)) #[.int .i64 4, .int .i64 0, .string i.s, .slice (some ⟨g, 0, none⟩) ts.length ts.length]
          have hde : deep + ((deepT (compT i.s ts) : Nat) : Int) - 1 = deep + ((deepL ts : Nat) : Int) := by
            have : deepT (compT i.s ts) = deepL ts + 1 := rfl
            rw [this]; omega
          exact bodyPost_ret (v := .agg #[.int .i64 4, .int .i64 0, .string i.s, .slice (some ⟨g, 0, none⟩) ts.length ts.length]) (results_cell_row Try.results36 _ _ w.heap.size _ _ _ _ rfl hz Try.underlying30 rfl (by kernel_rfl)) rfl (by rw [HDR.out, HT.out]; simp only; rw [hde, show ((p : Int) + ((c : Int) + 1)) = ((p + 1 + c : Nat) : Int) by omega]; exact hpost)
end Go.Proofs.Ytibjcfbilkkmkaa.Tms
