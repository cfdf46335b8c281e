
/-
  Layer 20: index.Keys, index.Pick, walked.
-/
import Derived.Test.YtcmgfelbbmeanaaIxw
namespace Go.Proofs.Ytcmgfelbbmeanaa.Tms
open Go Go.RowKit Go.Proofs.Ytcmgfelbbmeanaa.Reg Go.Proofs.Ytcmgfelbbmeanaa.Rws Go.Proofs.Ytcmgfelbbmeanaa.Maps Go.Proofs.Ytcmgfelbbmeanaa.Cod Go.Instr
set_option linter.unusedVariables false
set_option linter.unusedSimpArgs false

theorem each_j {w : World} {P : Nat → Prop} : ∀ {xss : List (List Value)} {L : List Int}, Each jKind w P xss L → xss.flatten = L.map fun n => Value.int .i64 n
  | [], [], _ => rfl
  | x :: xss, n :: L, h => by
    have h1 : x = [.int .i64 n] := h.1
    rw [List.flatten_cons, each_j h.2, h1]
    rfl
  | [], _ :: _, h => h.elim
  | _ :: _, [], h => h.elim
theorem own_intsJ {w : World} {base : Nat} {P : Nat → Prop} {v : Value} {L : List Int} (h : Own jKind w base P v L) : IntSl w (fun b => base ≤ b) v L := by
  rcases h.form with ⟨rfl, e⟩ | ⟨g, c, rfl⟩
  · subst e
    exact ⟨none, 0, rfl, by simp, by decide, fun i hi => by simp at hi⟩
  · obtain ⟨xss, h1, h2⟩ := id h
    have hfl := each_j h2
    have hlow := h.low g rfl
    obtain ⟨-, h0 | ⟨g', cap', cur, e, hb, hg, hc, hm, hsz, ht⟩⟩ := id h1
    · cases h0.1
    · simp only [Value.slice.injEq, Option.some.injEq, Addr.mk.injEq, and_true, true_and] at e
      obtain ⟨rfl, rfl⟩ := e
      refine ⟨_, _, rfl, hc, hm, fun i hi => ⟨g, 0, rfl, hlow.1, hlow.2, ?_⟩⟩
      have h5 := h1.cellAt i (by simpa [jKind] using hi)
      rw [Nat.zero_add, h5, hfl]
      simp [hi]
theorem IntSl.upTo {w : World} {P : Nat → Prop} {v : Value} {L : List Int} (h : IntSl w P v L) {B : Nat} (hB : w.heap.size ≤ B) : IntSl w (fun b => b < B) v L := by
  obtain ⟨a, cap, e, h1, h2, h3⟩ := h
  refine ⟨a, cap, e, h1, h2, fun i hi => ?_⟩
  obtain ⟨b, off, e1, hp, hl, hc⟩ := h3 i hi
  exact ⟨b, off, e1, Nat.lt_of_lt_of_le hl hB, hl, hc⟩
set_option maxRecDepth 100000 in
theorem go_Keys {w : World} {xb mb base : Nat} {all : Int} {M : List (Kx × Value)} {rows : Option Kx → Value} {Ls : List (Option Kx)} (h : IxAt w xb mb base all M rows Ls) :
    Calls Try.prog 17 #[.pointer (some ⟨xb, 0, none⟩)] w fun e w' => e = .returned (.int .i64 (keysO Ls).length) ∧ w = w' := by
  obtain ⟨z0, z1, z2⟩ := row3n h.row
  have hl : M.length = (keysO Ls).length := by rw [← h.keys, List.length_map]
  have HM := Lib.hid h.map.kmap
  rw [← hl]
  obtain ⟨lv, hlv⟩ : ∃ lv, lv = rows none := ⟨_, rfl⟩
  clear h hl
  go_enter Try.func17, Try.ntmps17
  go_wp2_with (with_reducible show wpList _ _ _ (⟨some 9, _, _, _, _, _⟩ :: _) _ _
               refine wpList_kmap_len rfl _ _ rfl _ _ Try.underlying94 mb M rfl HM.out ?_)
  go_ret
  exact ⟨rfl, rfl⟩
/-- a slice of int that was made at its full length and is filled from the left -/
structure JFill (w : World) (g n : Nat) (L : List Int) : Prop where
  row : ∃ cs : Array Value, w.heap[g]? = some (.cells cs 3 (0, 0)) ∧ cs.size = n
  got : ∀ i (h : i < L.length), w.cell? ⟨g, i, none⟩ = some (.int .i64 L[i])
theorem JFill.lt {w : World} {g n : Nat} {L : List Int} (h : JFill w g n L) : g < w.heap.size := by obtain ⟨cs, h, -⟩ := h.row; exact (Array.getElem?_eq_some_iff.1 h).1
theorem JFill.put {w : World} {g n q : Nat} {L : List Int} (h : JFill w g n L) (hq : L.length = q) (hn : q < n) (x : Int) :
    (∃ y, w.cell? ⟨g, q, none⟩ = some y) ∧ w.frozen? ⟨g, q, none⟩ = false ∧ JFill (w.setCell ⟨g, q, none⟩ (.int .i64 x)) g n (L ++ [x]) := by
  obtain ⟨cs, h1, h2⟩ := h.row
  have e1 := heap_setCell_same w g q _ _ (.int .i64 x) h1
  refine ⟨⟨cs[q]'(by omega), by rw [cell_of_row w g q _ _ _ h1]; simp [h2, hn]⟩, frozen_of_row w g q _ _ h1, ⟨⟨_, e1, by simp [h2]⟩, fun i hi => ?_⟩⟩
  rw [cell_of_row _ g i _ _ _ e1]
  by_cases hiq : i < L.length
  · have e : (L ++ [x])[i] = L[i] := List.getElem_append_left hiq
    rw [e, Array.getElem?_setIfInBounds, if_neg (by omega), ← cell_of_row w g i _ _ _ h1]
    exact h.got i hiq
  · obtain rfl : i = q := by simp at hi; omega
    have e : (L ++ [x])[i] = x := by rw [List.getElem_append_right (by omega)]; simp
    rw [e, Array.getElem?_setIfInBounds, if_pos rfl, if_pos (by omega)]
theorem JFill.sl {w : World} {g n : Nat} {L : List Int} (h : JFill w g n L) (hn : L.length = n) (hm : n ≤ maxLen) : IntSl w (fun b => b = g) (.slice (some ⟨g, 0, none⟩) n n) L := by
  subst hn
  exact ⟨_, _, rfl, Nat.le_refl _, hm, fun i hi => ⟨g, 0, rfl, rfl, h.lt, by rw [Nat.zero_add]; exact h.got i hi⟩⟩
theorem JFill.made {w : World} {g n B : Nat} (h : w.ownsRow B 3 1 (.slice (some ⟨g, 0, none⟩) n n) n ((madeCells #[Value.int .i64 0] (n * 1)).toList)) : JFill w g n [] := by
  obtain ⟨-, ⟨e, -⟩ | ⟨g', cap, cur, e, -, hg, -, -, hs, -⟩⟩ := h
  · cases e
  · simp only [Value.slice.injEq, Option.some.injEq, Addr.mk.injEq, and_true, true_and] at e
    obtain ⟨rfl, rfl⟩ := e
    exact ⟨⟨cur, hg, by omega⟩, fun i hi => by simp at hi⟩
/-- what is picked -/
def pickL (Ls : List (Option Kx)) (k : Int) (q : Option Kx) : List Int := if k = 1 then posF (fun _ => true) 0 Ls else posF (fitP q) 0 Ls
theorem ownLowX {α : Type} {K : Rws.Kind α} {w : World} {base base' : Nat} {P : Nat → Prop} {v : Value} {l : List α} (h : Own K w base P v l) (hb : base' ≤ base) : Own K w base' P v l := by
  obtain ⟨xss, ⟨h0, h1⟩, h2⟩ := h
  refine ⟨xss, ⟨h0, ?_⟩, h2⟩
  rcases h1 with h1 | ⟨g, cap, cur, e, hg, rest⟩
  · exact .inl h1
  · exact .inr ⟨g, cap, cur, e, Nat.le_trans hb hg, rest⟩
theorem each_jm {w : World} {P : Nat → Prop} : ∀ (L : List Int), Each jKind w P (L.map fun x => [Value.int .i64 x]) L
  | [] => trivial
  | a :: L => ⟨rfl, each_jm L⟩
theorem flat_jm : ∀ (L : List Int), (L.map fun x => [Value.int .i64 x]).flatten = L.map (Value.int .i64)
  | [] => rfl
  | a :: L => by simp [flat_jm L]
theorem JFill.own {w : World} {g n base : Nat} {L : List Int} (h : JFill w g n L) (hn : L.length = n) (hm : n ≤ maxLen) (hb : base ≤ g) : Own jKind w base (fun _ => False) (.slice (some ⟨g, 0, none⟩) n n) L := by
  obtain ⟨cs, h1, h2⟩ := h.row
  refine ⟨L.map fun x => [Value.int .i64 x], ⟨?_, .inr ⟨g, n, cs, by rw [hn], hb, h1, by omega, hm, ?_, ?_⟩⟩, each_jm L⟩
  · rw [flat_jm]; simp [jKind]
  · simp [jKind, h2]
  · rw [flat_jm]
    simp only [jKind, Nat.mul_one]
    apply List.ext_getElem?
    intro i
    by_cases hi : i < L.length
    · have hc := h.got i hi
      rw [cell_of_row w g i _ _ _ h1] at hc
      rw [List.getElem?_take, if_pos hi]
      simp only [List.getElem?_map, List.getElem?_eq_getElem hi, Option.map_some]
      rw [← hc]; simp
    · rw [List.getElem?_take, if_neg hi, List.getElem?_eq_none (by simpa using hi)]
def PiPost (L : List Int) (w : World) (e : Ending) (w' : World) : Prop := ∃ v, e = .returned v ∧ Own jKind w' w.heap.size (fun _ => False) v L ∧ Below w.heap.size w w'
def PiFill (w : World) (g n : Nat) (vi : Value) (wr : World) : Prop := ∃ i : Nat, i ≤ n ∧ vi = .int .i64 i ∧ JFill wr g n ((List.range i).map Int.ofNat) ∧ Below w.heap.size w wr
set_option maxRecDepth 100000 in
set_option maxHeartbeats 4000000 in
theorem go_Pick1 {w : World} {xb mb base : Nat} {M : List (Kx × Value)} {rows : Option Kx → Value} {Ls : List (Option Kx)} (h : IxAt w xb mb base Ls.length M rows Ls) (hn : Ls.length ≤ 100000) (n : Int) (s : ByteArray) (a : Option Addr) (m c : Nat) (args : Int) :
    Calls Try.prog 15 #[.pointer (some ⟨xb, 0, none⟩), .agg #[.int .i64 1, .int .i64 n, .string s, .slice a m c], .int .i64 args] w (PiPost (posF (fun _ => true) 0 Ls) w) := by
  have hb1 : Below w.heap.size w (w.alloc (.cells #[.int .i64 1, .int .i64 n, .string s, .slice a m c] 31 (0, 0))) := (Below.refl w.heap.size w).alloc (Nat.le_refl _) _
  have hr1 := heap_alloc_new w (.cells #[.int .i64 1, .int .i64 n, .string s, .slice a m c] 31 (0, 0))
  obtain ⟨y0, y1, y2, y3⟩ := row4 hr1
  obtain ⟨z0, z1, z2⟩ := row3n (h.below hb1).row
  obtain ⟨k, hk⟩ : ∃ k, k = Ls.length := ⟨_, rfl⟩
  have HL : Hid (posF (fun _ => true) 0 Ls = (List.range k).map Int.ofNat) := Lib.hid (by have := posF_all (fun _ => true) (fun _ => rfl) Ls 0; rw [hk, List.range_eq_range']; exact this)
  rw [← hk] at z0 hn
  obtain ⟨lv, hlv⟩ : ∃ lv, lv = rows none := ⟨_, rfl⟩
  rw [← hlv] at z1
  obtain ⟨L, hL⟩ : ∃ L, L = posF (fun _ => true) 0 Ls := ⟨_, rfl⟩
  rw [← hL] at HL ⊢
  have HB1 := Lib.hid hb1
  clear h hr1 hb1 hlv hk hL
  go_enter Try.func15, Try.ntmps15
  obtain ⟨i0, hti, hy0, hy1, hy2⟩ := info_parts info_j
  go_wp2_with (with_reducible show wpList _ _ _ (⟨some 22, _, _, _, _, _⟩ :: _) _ _
               refine wpList_make_full _ rfl (.tmp 21) (.tmp 21) 37 rfl w.heap.size 3 i0 _ 1 Try.underlying37 hti hy0 hy1 .i64 .i64 _ _ k rfl rfl rfl rfl (by rw [hy2]; omega) (by unfold maxLen; omega) (by simp) ?_
               intro w2 hown hgr
               have hif := JFill.made hown
               have hrel0 : PiFill w (w.heap.size + 1) k (.int .i64 ((0 : Nat) : Int)) w2 := ⟨0, by omega, rfl, by simpa using hif, HB1.out.grown hgr (by simp) (by simp)⟩
               have HREL := Lib.hid hrel0
               have hb2 : Below w.heap.size w w2 := HB1.out.grown hgr (by simp) (by simp)
               have hz2 := hgr.size
               clear hown hgr hif hb2 hrel0 hz2 y0 y1 y2 y3 z0 z1 z2 hti hy0 hy1 hy2)
  go_loopw [25] (fun v25 wr => PiFill w (w.heap.size + 1) k v25 wr) (fun v25 _ => k - (intOf v25).toNat)
  case atStart => exact HREL.out
  case round =>
    clear HREL HB1
    obtain ⟨i, hi, rfl, hf, hb⟩ := hrel
    have HF := Lib.hid hf
    have HB := Lib.hid hb
    clear hf hb
    by_cases hik : i < k
    · have b1 : decide ((i : Int) < (k : Int)) = true := by simp; omega
      obtain ⟨⟨y, hy⟩, hfr, hp⟩ := HF.out.put (q := i) (by simp) hik (i : Int)
      have HP := Lib.hid (show PiFill w (w.heap.size + 1) k (.int .i64 ((i + 1 : Nat) : Int)) (wr.setCell ⟨w.heap.size + 1, i, none⟩ (.int .i64 i)) from ⟨i + 1, by omega, rfl, by rw [List.range_succ, List.map_append]; exact hp, HB.out.setCell (by simp) _⟩)
      clear hp HF HB
      go_wp2
      go_roundw
      case measure => simp [intOf]; omega
      case rel => exact HP.out
    · have b1 : decide ((i : Int) < (k : Int)) = false := by simp; omega
      have e : i = k := by omega
      subst e
      have hfin := HF.out.own (base := w.heap.size) (by simp) (by unfold maxLen; omega) (by omega)
      rw [← HL.out] at hfin
      have HFIN := Lib.hid hfin
      clear hfin HF HL
      go_wp2
      go_ret
      exact ⟨_, rfl, HFIN.out, HB.out⟩
theorem own_empty {α : Type} {K : Rws.Kind α} {w : World} {base g : Nat} {P : Nat → Prop} (hg : w.heap[g]? = some (.cells #[] K.T (0, 0))) (hb : base ≤ g) : Own K w base P (.slice (some ⟨g, 0, none⟩) 0 0) [] :=
  ⟨[], ⟨by simp, .inr ⟨g, 0, #[], rfl, hb, hg, by simp, by unfold maxLen; omega, by simp, by simp⟩⟩, trivial⟩
theorem pk_start {w : World} (o : Obj) : HpAt (((w.alloc o).alloc (.cells #[] 37 (0, 0))).alloc (.cells #[.slice (some ⟨w.heap.size + 1, 0, none⟩) 0 0] 103 (0, 0))) (w.heap.size + 1) (w.heap.size + 2) (.slice (some ⟨w.heap.size + 1, 0, none⟩) 0 0) [] := by
  refine ⟨?_, own_empty (three_at w o _ _) (by omega), by omega, by simp [Value.ownBlock]⟩
  have := heap_alloc_new ((w.alloc o).alloc (.cells #[] 37 (0, 0))) (.cells #[.slice (some ⟨w.heap.size + 1, 0, none⟩) 0 0] 103 (0, 0))
  simpa using this
/-- a heap, the index beside it, the term asked -/
def PkMid (w : World) (xb mb base : Nat) (Ls : List (Option Kx)) (M : List (Kx × Value)) (rows : Option Kx → Value) (rb : Nat) (ts : Array Value) (Q : List (List Int)) (wr : World) : Prop :=
  ∃ v, HpAt wr (w.heap.size + 1) rb v Q ∧ IxAt wr xb mb base Ls.length M rows Ls ∧ Below w.heap.size w wr ∧ wr.heap[w.heap.size]? = some (.cells ts 31 (0, 0))
theorem PkMid.below {w wr w' : World} {xb mb base rb : Nat} {Ls : List (Option Kx)} {M : List (Kx × Value)} {rows : Option Kx → Value} {ts : Array Value} {Q : List (List Int)} (h : PkMid w xb mb base Ls M rows rb ts Q wr) (hb : Below wr.heap.size wr w') : PkMid w xb mb base Ls M rows rb ts Q w' := by
  obtain ⟨v, h1, h2, h3, h4⟩ := h
  exact ⟨v, h1.below hb, h2.below hb, h3.trans (hb.mono h3.size), (hb.block _ (Array.getElem?_eq_some_iff.1 h4).1).trans h4⟩
/-- a chain's predicate: the world stays -/
structure SameX (W0 u : World) : Prop where
  eq : u = W0
theorem SameX.me (W0 : World) : SameX W0 W0 := ⟨rfl⟩
/-- one more row, if it has a number -/
def addQ (Q : List (List Int)) (B : List Int) : List (List Int) := if B = [] then Q else match Q with
  | [] => [B]
  | x :: _ => ord2 x B
/-- the places of a key, if there is one -/
def keyRow (Ls : List (Option Kx)) : Option Kx → List Int
  | none => []
  | some kx => posF (eqP (some kx)) 0 Ls
/-- a heap's rows: none is empty; of two the first begins with the lesser, and none is in both -/
structure HqOk (Q : List (List Int)) : Prop where
  ne : ∀ a ∈ Q, a ≠ []
  two : Q.length ≤ 2
  lt : ∀ a b, Q = [a, b] → hd a < hd b ∧ ∀ x ∈ a, ¬ x ∈ b
theorem HqOk.shape {Q : List (List Int)} (h : HqOk Q) : Q = [] ∨ ∃ A R, Q = A :: R ∧ R.length ≤ 1 := by
  cases Q with
  | nil => exact .inl rfl
  | cons A R => exact .inr ⟨A, R, rfl, by have := h.two; simp at this; omega⟩
def totQ (Q : List (List Int)) : Nat := (Q.map List.length).sum
theorem HqOk.nil : HqOk [] := ⟨by simp, by simp, fun a b e => by simp at e⟩
theorem HqOk.one {A : List Int} (h : A ≠ []) : HqOk [A] := ⟨by simpa using h, by simp, fun a b e => by simp at e⟩
theorem hd_ne {A B : List Int} (hA : A ≠ []) (hB : B ≠ []) (h : ∀ x ∈ A, ¬ x ∈ B) : hd A ≠ hd B := by
  cases A with
  | nil => exact absurd rfl hA
  | cons x A => cases B with
    | nil => exact absurd rfl hB
    | cons y B => intro e; exact h x (by simp) (by simp [hd] at e; simp [e])
theorem ord2_ok {A B : List Int} (hA : A ≠ []) (hB : B ≠ []) (h : ∀ x ∈ A, ¬ x ∈ B) : HqOk (ord2 A B) ∧ mgQ (ord2 A B) = mg A B ∧ totQ (ord2 A B) = A.length + B.length := by
  have hne := hd_ne hA hB h
  unfold ord2
  split
  · rename_i hlt
    refine ⟨⟨by simp [hA, hB], by simp, fun a b e => ?_⟩, ?_, by simp [totQ]; omega⟩
    · simp only [List.cons.injEq, and_true] at e
      obtain ⟨rfl, rfl⟩ := e
      exact ⟨hlt, fun x hx hx' => h x hx' hx⟩
    · exact mg_comm B A fun x hx hx' => h x hx' hx
  · rename_i hlt
    refine ⟨⟨by simp [hA, hB], by simp, fun a b e => ?_⟩, rfl, by simp [totQ]⟩
    simp only [List.cons.injEq, and_true] at e
    obtain ⟨rfl, rfl⟩ := e
    exact ⟨by omega, h⟩
theorem eqP_none : (eqP none : Option Kx → Bool) = noneP := by
  funext x; cases x <;> simp [eqP, noneP]
theorem pick_plain (Ls : List (Option Kx)) (q : Option Kx) : HqOk (addQ (if posF (eqP none) 0 Ls = [] then [] else [posF (eqP none) 0 Ls]) (keyRow Ls q)) ∧ mgQ (addQ (if posF (eqP none) 0 Ls = [] then [] else [posF (eqP none) 0 Ls]) (keyRow Ls q)) = posF (fitP q) 0 Ls := by
  rw [eqP_none]
  cases q with
  | none =>
    rw [show keyRow Ls none = [] from rfl, ← fit_none]
    unfold addQ
    rw [if_pos rfl]
    by_cases h : posF noneP 0 Ls = []
    · rw [if_pos h, h]; exact ⟨.nil, rfl⟩
    · rw [if_neg h]; exact ⟨.one h, rfl⟩
  | some k =>
    rw [show keyRow Ls (some k) = posF (isP k) 0 Ls from rfl, ← fit_some k, ← mg_pos noneP (isP k) (noneP_isP k)]
    have hap := pos_apart noneP (isP k) (noneP_isP k) Ls 0
    generalize posF noneP 0 Ls = A at *
    generalize posF (isP k) 0 Ls = B at *
    unfold addQ
    by_cases hB : B = []
    · rw [if_pos hB, hB, mg_nil]
      by_cases hA : A = []
      · rw [if_pos hA, hA]; exact ⟨.nil, rfl⟩
      · rw [if_neg hA]; exact ⟨.one hA, rfl⟩
    · rw [if_neg hB]
      by_cases hA : A = []
      · rw [if_pos hA, hA]; exact ⟨.one hB, by simp [mgQ, mg]⟩
      · rw [if_neg hA]
        exact ⟨(ord2_ok hA hB hap).1, (ord2_ok hA hB hap).2.1⟩
theorem own_rowT {α : Type} {K : Rws.Kind α} {w : World} {base g n c : Nat} {P : Nat → Prop} {Q : List α} (h : Own K w base P (.slice (some ⟨g, 0, none⟩) n c) Q) : ∃ cur, w.heap[g]? = some (.cells cur K.T (0, 0)) := by
  obtain ⟨xss, h1, -⟩ := h
  rcases h1.2 with ⟨e, -⟩ | ⟨g', c', cur, e, -, hg, -⟩
  · cases e
  · simp only [Value.slice.injEq, Option.some.injEq, Addr.mk.injEq, and_true] at e
    obtain ⟨rfl, -, -⟩ := e
    exact ⟨cur, hg⟩
/-- the row of what was picked isn't the heap's -/
theorem own_apart {w : World} {base base' rb : Nat} {v vo : Value} {Q : List (List Int)} {O : List Int} {P : Nat → Prop} (h : HpAt w base rb v Q) (ho : Own jKind w base' P vo O) : ∀ b, vo.ownBlock = some b → b ≠ rb ∧ v.ownBlock ≠ some b := by
  intro b hb
  rcases ho.form with ⟨e, -⟩ | ⟨g, c, e⟩
  · rw [e] at hb; cases hb
  · rw [e] at ho hb
    have eb : g = b := by simpa [Value.ownBlock] using hb
    subst eb
    obtain ⟨cur, hcur⟩ := own_rowT ho
    refine ⟨fun e2 => ?_, fun e2 => ?_⟩
    · subst e2
      rw [h.row] at hcur
      simp [jKind] at hcur
    · rcases h.own.form with ⟨e3, -⟩ | ⟨g3, c3, e3⟩
      · rw [e3] at e2; cases e2
      · have hw := h.own
        rw [e3] at hw e2
        have eb : g3 = g := by simpa [Value.ownBlock] using e2
        subst eb
        obtain ⟨cur3, hcur3⟩ := own_rowT hw
        rw [hcur3] at hcur
        simp [jKind, slKind] at hcur
theorem hp_grown {w w' : World} {base rb : Nat} {v : Value} {Q : List (List Int)} {o : Option Nat} (h : HpAt w base rb v Q) (hg : w.grownBy w' o) (hn : ∀ b, o = some b → b ≠ rb ∧ v.ownBlock ≠ some b) (hb : ∀ b, o = some b → base ≤ b) : HpAt w' base rb v Q :=
  ⟨(hg.block rb (Array.getElem?_eq_some_iff.1 h.row).1 fun e => (hn rb e.symm).1 rfl).trans h.row, h.own.keep hg.size fun b hlt he => hg.block b hlt fun e => by
    rcases he with he | he
    · have := hb b e.symm; have he' : b < base := he; omega
    · exact (hn b e.symm).2 he, h.lo, h.ne⟩
/-- what is picked so far, and what the heap still has -/
def PkRel (L : List Int) (w : World) (rb gk : Nat) (v12 : Value) (wr : World) : Prop :=
  ∃ (O : List Int) (Q : List (List Int)) (vh : Value), totQ Q = gk ∧ HpAt wr (w.heap.size + 1) rb vh Q ∧ HqOk Q ∧ Own jKind wr (w.heap.size + 1) (fun _ => False) v12 O ∧ L = O ++ mgQ Q ∧ Below w.heap.size w wr
theorem mv_below {w1 w2 : World} {base rb : Nat} {v v' : Value} {Q : List (List Int)} (hh : HpAt w1 base rb v Q) (hm : HpMv w1 rb v w2 v') : Below base w1 w2 := by
  have hlo := hh.lo
  have hl := (Array.getElem?_eq_some_iff.1 hh.row).1
  exact ⟨hm.kp.os, hm.kp.tape, hm.kp.output, hm.kp.size, fun b hb => hm.kp.block b (by omega) (by
    rintro (e | e)
    · omega
    · have := (hh.own.low b e).1; omega)⟩
theorem IxAt.keepX {w w' : World} {xb mb base : Nat} {all : Int} {M : List (Kx × Value)} {rows : Option Kx → Value} {Ls : List (Option Kx)} (h : IxAt w xb mb base all M rows Ls) {B : Nat} (hb : Below B w w') (hx : xb < B) (hm : mb < B) (hr : ∀ q b, (rows q).ownBlock = some b → b < B) : IxAt w' xb mb base all M rows Ls :=
  ⟨(hb.block xb hx).trans h.row, h.map.below (hb.block mb hm), h.get, h.keys, fun q => (h.own q).keep hb.size fun b hlt he => by
    rcases he with he | he
    · exact he.elim
    · exact hb.block b (hr q b he), h.ap, h.lox, h.lom, h.ne⟩
theorem pk_step {w W wx : World} {xb mb base rb : Nat} {Ls : List (Option Kx)} {M : List (Kx × Value)} {rows : Option Kx → Value} {ts : Array Value} {v v' : Value} {Q Q' : List (List Int)} (hh : HpAt W (w.heap.size + 1) rb v Q) (hat : IxAt W xb mb base Ls.length M rows Ls) (hbel : Below w.heap.size w W) (hrow : W.heap[w.heap.size]? = some (.cells ts 31 (0, 0)))
    (hlow : xb < w.heap.size ∧ mb < w.heap.size ∧ ∀ q b, (rows q).ownBlock = some b → b < w.heap.size) (h1 : HpAt wx (w.heap.size + 1) rb v' Q') (h2 : HpMv W rb v wx v') : PkMid w xb mb base Ls M rows rb ts Q' wx := by
  have hb := mv_below hh h2
  exact ⟨v', h1, hat.keepX hb (by omega) (by omega) (fun q b e => by have := hlow.2.2 q b e; omega), hbel.trans (hb.mono (by omega)), (hb.block _ (by omega)).trans hrow⟩
theorem own_mv {w w' : World} {base base' rb : Nat} {v v' vo : Value} {Q : List (List Int)} {O : List Int} (h : HpAt w base rb v Q) (ho : Own jKind w base' (fun _ => False) vo O) (hm : HpMv w rb v w' v') : Own jKind w' base' (fun _ => False) vo O := by
  have hn := own_apart h ho
  refine ho.keep hm.kp.size fun b hlt he => ?_
  rcases he with he | he
  · exact he.elim
  · exact hm.kp.block b hlt (by
      rintro (e | e)
      · exact (hn b he).1 e
      · exact (hn b he).2 e)
theorem pk_one {x : Int} {B : List Int} (hB : B ≠ []) (h : hd [x] < hd B) : mg [x] B = x :: B := by
  cases B with
  | nil => exact absurd rfl hB
  | cons y B => rw [mg, if_pos (by simpa [hd] using h)]; simp [mg]
theorem IntSl.tail {w : World} {P : Nat → Prop} {b o n c : Nat} {x : Int} {T : List Int} (h : IntSl w P (.slice (some ⟨b, o, none⟩) (n + 1) c) (x :: T)) : IntSl w P (.slice (some ⟨b, o + 1, none⟩) n (c - 1)) T := by
  obtain ⟨a, cap, e, h1, h2, h3⟩ := h
  simp only [Value.slice.injEq, List.length_cons, Nat.add_right_cancel_iff] at e h1
  obtain ⟨rfl, rfl, rfl⟩ := e
  refine ⟨_, _, rfl, by omega, by omega, fun i hi => ?_⟩
  obtain ⟨b', off, e1, hp, hl, hc⟩ := h3 (i + 1) (by simp; omega)
  simp only [Option.some.injEq, Addr.mk.injEq, and_true] at e1
  obtain ⟨rfl, rfl⟩ := e1
  exact ⟨_, _, rfl, hp, hl, by rw [show o + 1 + i = o + (i + 1) by omega]; simpa using hc⟩
/-- the first row loses its first number -/
theorem hp_tail {w : World} {base rb g n c b o m k : Nat} {x : Int} {T : List Int} {R : List (List Int)} (h : HpAt w base rb (.slice (some ⟨g, 0, none⟩) n c) ((x :: T) :: R)) (hs : IntSl w (fun b => b < base) (.slice (some ⟨b, o, none⟩) (m + 1) k) (x :: T)) :
    HpAt (w.setCell ⟨g, 0, none⟩ (.slice (some ⟨b, o + 1, none⟩) m (k - 1))) base rb (.slice (some ⟨g, 0, none⟩) n c) (T :: R) ∧ HpMv w rb (.slice (some ⟨g, 0, none⟩) n c) (w.setCell ⟨g, 0, none⟩ (.slice (some ⟨b, o + 1, none⟩) m (k - 1))) (.slice (some ⟨g, 0, none⟩) n c) ∧ w.frozen? ⟨g, 0, none⟩ = false := by
  have h1 := own_put h.own 0 (by simp) hs.tail
  have hne : rb ≠ g := fun e => h.ne (by rw [e]; rfl)
  exact ⟨⟨(Below.heap_setCell _ _ _ _ hne).trans h.row, h1, h.lo, h.ne⟩, ⟨⟨rfl, rfl, rfl, by simp [World.setCell], fun b' _ hn => Below.heap_setCell _ _ _ _ fun e => hn (.inr (by rw [show b' = g from e]; rfl))⟩, fun b e => .inl e⟩, h.own.thaw (own_n h.own).symm 0⟩
theorem mg_hd {x : Int} {a B : List Int} (hB : B ≠ []) (h : hd (x :: a) < hd B) : mg (x :: a) B = x :: mg a B := by
  cases B with
  | nil => exact absurd rfl hB
  | cons y B => rw [mg, if_pos (by simpa [hd] using h)]
/-- one more number is picked -/
theorem pk_next {w w9 w3 : World} {rb k : Nat} {L O : List Int} {x : Int} {Q Q' : List (List Int)} {vh v3 v9 : Value} (hh : HpAt w9 (w.heap.size + 1) rb vh Q) (ho : Own jKind w9 (w.heap.size + 1) (fun _ => False) v9 (O ++ [x])) (hb : Below w.heap.size w w9)
    (h3 : HpAt w3 (w.heap.size + 1) rb v3 Q') (m3 : HpMv w9 rb vh w3 v3) (hq : HqOk Q') (hk : totQ Q' = k) (hl : L = O ++ x :: mgQ Q') : PkRel L w rb k v9 w3 :=
  ⟨O ++ [x], Q', v3, hk, h3, hq, own_mv hh ho m3, by rw [hl]; simp, hb.trans ((mv_below hh m3).mono (by omega))⟩
set_option maxRecDepth 100000 in
set_option maxHeartbeats 4000000 in
theorem go_Pick2 {w : World} {xb mb base : Nat} {M : List (Kx × Value)} {rows : Option Kx → Value} {Ls : List (Option Kx)} (h : IxAt w xb mb base Ls.length M rows Ls) (hn : Ls.length ≤ 100000) (k n : Int) (hk : k ≠ 1) (s : ByteArray) (a : Option Addr) (m c : Nat) (args : Int) :
    Calls Try.prog 15 #[.pointer (some ⟨xb, 0, none⟩), .agg #[.int .i64 k, .int .i64 n, .string s, .slice a m c], .int .i64 args] w (PiPost (posF (fitP (termK k n s args)) 0 Ls) w) := by
  have hb1 : Below w.heap.size w (w.alloc (.cells #[.int .i64 k, .int .i64 n, .string s, .slice a m c] 31 (0, 0))) := (Below.refl w.heap.size w).alloc (Nat.le_refl _) _
  have hr1 := heap_alloc_new w (.cells #[.int .i64 k, .int .i64 n, .string s, .slice a m c] 31 (0, 0))
  obtain ⟨y0, y1, y2, y3⟩ := row4 hr1
  have HAT := Lib.hid (h.below hb1)
  have HB1 := Lib.hid hb1
  have HLOW := Lib.hid (show xb < w.heap.size ∧ mb < w.heap.size ∧ ∀ q b, (rows q).ownBlock = some b → b < w.heap.size from ⟨h.size, h.map.lt, fun q b e => ((h.own q).low b e).2⟩)
  have HINT := Lib.hid (fun q => (own_intsJ (h.own q)).upTo (B := w.heap.size + 1) (by omega))
  have b0 : (k == 1) = false := by simpa using hk
  obtain ⟨L, hL⟩ : ∃ L, posF (fitP (termK k n s args)) 0 Ls = L := ⟨_, rfl⟩
  rw [hL]
  have HL := Lib.hid hL
  clear h hr1 hb1 hL hk
  go_enter Try.func15, Try.ntmps15
  go_upto_region 12 with fail
  obtain ⟨W, hW⟩ : ∃ W, W = ((w.alloc (.cells #[.int .i64 k, .int .i64 n, .string s, .slice a m c] 31 (0, 0))).alloc (.cells #[] 37 (0, 0))).alloc (.cells #[.slice (some ⟨w.heap.size + 1, 0, none⟩) 0 0] 103 (0, 0)) := ⟨_, rfl⟩
  have hp := pk_start (w := w) (.cells #[.int .i64 k, .int .i64 n, .string s, .slice a m c] 31 (0, 0))
  rw [← hW] at hp ⊢
  have hbW : Below (w.alloc (.cells #[.int .i64 k, .int .i64 n, .string s, .slice a m c] 31 (0, 0))).heap.size (w.alloc (.cells #[.int .i64 k, .int .i64 n, .string s, .slice a m c] 31 (0, 0))) W := by
    rw [hW]
    exact ((Below.refl _ _).alloc (Nat.le_refl _) _).alloc (by simp) _
  have hat := HAT.out.below hbW
  have hbel := HB1.out.trans (hbW.mono HB1.out.size)
  have y0' := (hbW.cell (p := ⟨w.heap.size, 0, none⟩) (by simp)).trans y0
  have hrow : W.heap[w.heap.size]? = some (.cells #[.int .i64 k, .int .i64 n, .string s, .slice a m c] 31 (0, 0)) := (hbW.block _ (by simp)).trans (heap_alloc_new w _)
  have hPK := Lib.hid (show PkMid w xb mb base Ls M rows (w.heap.size + 2) #[.int .i64 k, .int .i64 n, .string s, .slice a m c] [] W from ⟨_, hp, hat, hbel, hrow⟩)
  clear y0 y1 y2 y3 y0' hp hat hbel hbW hrow hW HAT HB1
  obtain ⟨vh, hh, hat, hbel, hrow⟩ := hPK.out
  obtain ⟨q0, qc, hq0⟩ := own_formX (hat.own none)
  obtain ⟨A, hA⟩ : ∃ A, A = posF (eqP none) 0 Ls := ⟨_, rfl⟩
  rw [← hA] at hq0
  have hrx := hat.row
  rw [hq0] at hrx
  obtain ⟨z0, z1, z2⟩ := row3n hrx
  have hAl : A.length ≤ 100000 := by rw [hA]; have := posF_len (eqP none) Ls 0; omega
  have hint := (HINT.out none).below hbel
  rw [hq0, ← hA] at hint
  have HI := Lib.hid hint
  have HH := Lib.hid hh
  have HMID := Lib.hid (fun (wx : World) (v' : Value) (Q' : List (List Int)) (h1 : HpAt wx (w.heap.size + 1) (w.heap.size + 2) v' Q') (h2 : HpMv W (w.heap.size + 2) vh wx v') => pk_step hh hat hbel hrow HLOW.out h1 h2)
  have HA := Lib.hid hA
  clear hat hbel hrow hrx hq0 hint hh hA
  obtain ⟨QA, hQA⟩ : ∃ QA, QA = if A = [] then [] else [A] := ⟨_, rfl⟩
  have HQA := Lib.hid hQA
  clear hQA
  go_upto_if 41 with fail
  go_cut [42] from 43 to 49 (fun v42 wx => PkMid w xb mb base Ls M rows (w.heap.size + 2) #[.int .i64 k, .int .i64 n, .string s, .slice a m c] QA wx)
  case first =>
    by_cases hA0 : 0 < A.length
    · have b1 : decide (0 < A.length) = true := by simpa using hA0
      have e : QA = [A] := by rw [HQA.out, if_neg (fun e => by rw [e] at hA0; simp at hA0)]
      subst e
      go_wp2_with fail
      refine (heap_Push0 HH.out A q0 _ qc HI.out).mono ?_
      rintro e2 w2 ⟨rfl, v2, h2, m2⟩
      have HF := Lib.hid (HMID.out w2 v2 _ h2 m2)
      clear h2 m2 HMID HH HI
      dsimp only
      go_wp2
      go_meet
      exact HF.out
    · have b1 : decide (0 < A.length) = false := by simpa using hA0
      have e : QA = [] := by rw [HQA.out, if_pos (List.eq_nil_of_length_eq_zero (by omega))]
      subst e
      go_wp2
      go_meet
      exact hPK.out
  case rest =>
  have HMA := Lib.hid hcut
  clear hcut hPK HH HI HMID
  obtain ⟨q, hq⟩ : ∃ q, termK k n s args = q := ⟨_, rfl⟩
  have hmid := HMA.out
  obtain ⟨va, hha, hata, hbela, hrowa⟩ := hmid
  obtain ⟨y0, y1, y2, y3⟩ := row4 hrowa
  rw [hq] at HL
  have HT := Lib.hid (go_termKey k n s a m c args wc)
  rw [hq] at HT
  clear hha hata hbela hrowa z0 z1 z2 hq
  obtain ⟨kk, hkk⟩ : ∃ kk, kvX (q.getD noKx) = kk := ⟨_, rfl⟩
  rw [hkk] at HT
  obtain ⟨k1, k2, k3, k4, hkf⟩ : ∃ op ar n s, kk = .agg #[.int .i64 op, .int .i64 ar, .int .i64 n, .string s] := ⟨_, _, _, _, hkk.symm⟩
  have HKK := Lib.hid hkk
  have HKF := Lib.hid hkf
  obtain ⟨qb, hqb⟩ : ∃ qb, q.isSome = qb := ⟨_, rfl⟩
  rw [hqb] at HT
  have HQB := Lib.hid hqb
  clear hkk hqb
  go_upto_region 14 with fail
  go_wp2_with fail
  refine HT.out.mono ?_
  rintro e2 w2 ⟨rfl, hb2⟩
  subst hkf
  have hba : Below w2.heap.size w2 (w2.alloc (.cells #[.int .i64 k1, .int .i64 k2, .int .i64 k3, .string k4] 98 (0, 0))) := (Below.refl w2.heap.size w2).alloc (Nat.le_refl _) _
  have HMB := Lib.hid ((HMA.out.below hb2).below hba)
  have HKR := Lib.hid (heap_alloc_new w2 (.cells #[.int .i64 k1, .int .i64 k2, .int .i64 k3, .string k4] 98 (0, 0)))
  clear hb2 hba HT HMA y0 y1 y2 y3
  obtain ⟨w3, hw3⟩ : ∃ w3, w3 = w2.alloc (.cells #[.int .i64 k1, .int .i64 k2, .int .i64 k3, .string k4] 98 (0, 0)) := ⟨_, rfl⟩
  rw [← hw3] at HMB HKR
  obtain ⟨B, hB⟩ : ∃ B, B = keyRow Ls q := ⟨_, rfl⟩
  have HB := Lib.hid hB
  clear hB
  dsimp only
  go_upto_region 15 with fail
  rw [← hw3]
  clear hw3
  generalize w2.heap.size = kb at *
  obtain ⟨bb, hbb⟩ : ∃ bb, bb = decide (0 < B.length) := ⟨_, rfl⟩
  have HBB := Lib.hid hbb
  clear hbb
  go_cut [66] from 56 to 65 (fun v66 wx => v66 = .bool bb ∧ PkMid w xb mb base Ls M rows (w.heap.size + 2) #[.int .i64 k, .int .i64 n, .string s, .slice a m c] QA wx ∧ wx.heap[kb]? = some (.cells #[.int .i64 k1, .int .i64 k2, .int .i64 k3, .string k4] 98 (0, 0)))
  case first =>
    refine wp_region_rest (by kernel_rfl) ?_
    have hdb := (Below.refl w3.heap.size w3).drew
    have HM := Lib.hid (HMB.out.below hdb)
    have HR := Lib.hid ((hdb.block kb (Array.getElem?_eq_some_iff.1 HKR.out).1).trans HKR.out)
    clear hdb HMB HKR
    generalize w3.drew = W0 at *
    cases q with
    | none =>
      have eq : qb = false := HQB.out.symm
      have eB : B = [] := HB.out
      subst eq eB
      refine rest_chainP (SameX W0) 0 11 (.soft 0 (.soft 1 (.soft 2 (.soft 3 (.soft 4 (.soft 5 (.soft 6 (.soft 7 (.soft 8 (.soft 9 (.soft 10 .nil))))))))))) (.soft _ (.soft _ (.soft _ (.soft _ (.soft _ (.soft _ (.soft _ (.soft _ (.soft _ (.soft _ (.soft _ .nil))))))))))) ⟨rfl, ⟨rfl, ⟨rfl, ⟨rfl, ⟨rfl, ⟨rfl, ⟨rfl, ⟨rfl, ⟨rfl, ⟨rfl, ⟨rfl, trivial⟩⟩⟩⟩⟩⟩⟩⟩⟩⟩⟩ (by kernel_rfl) (by kernel_rfl) (by kernel_rfl) (by kernel_rfl) (.inl rfl) (SameX.me W0) ?_
      refine chainP_softv (.bool false) (by kernel_rfl) (by kernel_rfl) ?_ ?_
      · simp only [Act.put, List.getElem?_toArray, List.getElem?_cons_succ, List.getElem?_cons_zero, Option.bind_some, List.setIfInBounds_toArray, List.set_cons_succ, List.set_cons_zero, Nat.reduceAdd]
        intro u hu E hE
        have hu' := hu.eq
        subst hu'
        go_wp2
        exact hE
      simp only [Act.put, List.getElem?_toArray, List.getElem?_cons_succ, List.getElem?_cons_zero, Option.bind_some, List.setIfInBounds_toArray, List.set_cons_succ, List.set_cons_zero, Nat.reduceAdd]
      refine chainP_softv (.bool false) (by kernel_rfl) (by kernel_rfl) ?_ ?_
      · simp only [Act.put, List.getElem?_toArray, List.getElem?_cons_succ, List.getElem?_cons_zero, Option.bind_some, List.setIfInBounds_toArray, List.set_cons_succ, List.set_cons_zero, Nat.reduceAdd]
        intro u hu E hE
        have hu' := hu.eq
        subst hu'
        go_wp2
        exact hE
      simp only [Act.put, List.getElem?_toArray, List.getElem?_cons_succ, List.getElem?_cons_zero, Option.bind_some, List.setIfInBounds_toArray, List.set_cons_succ, List.set_cons_zero, Nat.reduceAdd]
      refine Go.Proofs.Ytcmgfelbbmeanaa.Tms.chainP_skip rfl ?_
      simp only [Act.put, List.getElem?_toArray, List.getElem?_cons_succ, List.getElem?_cons_zero, Option.bind_some, List.setIfInBounds_toArray, List.set_cons_succ, List.set_cons_zero, Nat.reduceAdd]
      refine Go.Proofs.Ytcmgfelbbmeanaa.Tms.chainP_skip rfl ?_
      simp only [Act.put, List.getElem?_toArray, List.getElem?_cons_succ, List.getElem?_cons_zero, Option.bind_some, List.setIfInBounds_toArray, List.set_cons_succ, List.set_cons_zero, Nat.reduceAdd]
      refine Go.Proofs.Ytcmgfelbbmeanaa.Tms.chainP_skip rfl ?_
      simp only [Act.put, List.getElem?_toArray, List.getElem?_cons_succ, List.getElem?_cons_zero, Option.bind_some, List.setIfInBounds_toArray, List.set_cons_succ, List.set_cons_zero, Nat.reduceAdd]
      refine Go.Proofs.Ytcmgfelbbmeanaa.Tms.chainP_skip rfl ?_
      simp only [Act.put, List.getElem?_toArray, List.getElem?_cons_succ, List.getElem?_cons_zero, Option.bind_some, List.setIfInBounds_toArray, List.set_cons_succ, List.set_cons_zero, Nat.reduceAdd]
      refine Go.Proofs.Ytcmgfelbbmeanaa.Tms.chainP_skip rfl ?_
      simp only [Act.put, List.getElem?_toArray, List.getElem?_cons_succ, List.getElem?_cons_zero, Option.bind_some, List.setIfInBounds_toArray, List.set_cons_succ, List.set_cons_zero, Nat.reduceAdd]
      refine Go.Proofs.Ytcmgfelbbmeanaa.Tms.chainP_skip rfl ?_
      simp only [Act.put, List.getElem?_toArray, List.getElem?_cons_succ, List.getElem?_cons_zero, Option.bind_some, List.setIfInBounds_toArray, List.set_cons_succ, List.set_cons_zero, Nat.reduceAdd]
      refine Go.Proofs.Ytcmgfelbbmeanaa.Tms.chainP_skip rfl ?_
      simp only [Act.put, List.getElem?_toArray, List.getElem?_cons_succ, List.getElem?_cons_zero, Option.bind_some, List.setIfInBounds_toArray, List.set_cons_succ, List.set_cons_zero, Nat.reduceAdd]
      refine Go.Proofs.Ytcmgfelbbmeanaa.Tms.chainP_skip rfl ?_
      simp only [Act.put, List.getElem?_toArray, List.getElem?_cons_succ, List.getElem?_cons_zero, Option.bind_some, List.setIfInBounds_toArray, List.set_cons_succ, List.set_cons_zero, Nat.reduceAdd]
      refine chainP_softv (.bool false) (by kernel_rfl) (by kernel_rfl) ?_ ?_
      · simp only [Act.put, List.getElem?_toArray, List.getElem?_cons_succ, List.getElem?_cons_zero, Option.bind_some, List.setIfInBounds_toArray, List.set_cons_succ, List.set_cons_zero, Nat.reduceAdd]
        intro u hu E hE
        have hu' := hu.eq
        subst hu'
        go_wp2
        exact hE
      simp only [Act.put, List.getElem?_toArray, List.getElem?_cons_succ, List.getElem?_cons_zero, Option.bind_some, List.setIfInBounds_toArray, List.set_cons_succ, List.set_cons_zero, Nat.reduceAdd]
      refine chainP_nil (rest_end (by decide) ?_)
      go_wp2
      go_meet
      exact ⟨by rw [HBB.out]; rfl, HM.out, HR.out⟩
    | some kx =>
      have eq : qb = true := HQB.out.symm
      subst eq
      obtain ⟨vm, hm1, hm2, hm3, hm4⟩ := HM.out
      have hrx := hm2.row
      obtain ⟨lv, hlv⟩ : ∃ lv, lv = rows none := ⟨_, rfl⟩
      rw [← hlv] at hrx
      obtain ⟨z0, z1, z2⟩ := row3n hrx
      obtain ⟨y0, y1, y2, y3⟩ := row4 HR.out
      have HMP := Lib.hid hm2.map.kmap
      obtain ⟨qv, qc, hqv⟩ := own_formX (hm2.own (some kx))
      have hB' : posF (eqP (some kx)) 0 Ls = B := HB.out.symm
      rw [hB'] at hqv
      have HGT := Lib.hid (show (kget kx M).getD (.slice none 0 0) = .slice qv B.length qc from (hm2.get kx).symm.trans hqv)
      have HKX := Lib.hid (show kvX kx = .agg #[.int .i64 k1, .int .i64 k2, .int .i64 k3, .string k4] from HKK.out)
      clear hm1 hm2 hm3 hm4 hrx hlv hqv hB'
      refine rest_chainP (SameX W0) 0 11 (.soft 0 (.soft 1 (.soft 2 (.soft 3 (.soft 4 (.soft 5 (.soft 6 (.one 7 (.soft 8 (.soft 9 (.soft 10 .nil))))))))))) (.soft _ (.soft _ (.soft _ (.soft _ (.soft _ (.soft _ (.soft _ (.one _ (.soft _ (.soft _ (.soft _ .nil))))))))))) ⟨rfl, ⟨rfl, ⟨rfl, ⟨rfl, ⟨rfl, ⟨rfl, ⟨rfl, ⟨rfl, ⟨rfl, ⟨rfl, ⟨rfl, trivial⟩⟩⟩⟩⟩⟩⟩⟩⟩⟩⟩ (by kernel_rfl) (by kernel_rfl) (by kernel_rfl) (by kernel_rfl) (.inl rfl) (SameX.me W0) ?_
      refine chainP_softv (.bool true) (by kernel_rfl) (by kernel_rfl) ?_ ?_
      · simp only [Act.put, List.getElem?_toArray, List.getElem?_cons_succ, List.getElem?_cons_zero, Option.bind_some, List.setIfInBounds_toArray, List.set_cons_succ, List.set_cons_zero, Nat.reduceAdd]
        intro u hu E hE
        have hu' := hu.eq
        subst hu'
        go_wp2
        exact hE
      simp only [Act.put, List.getElem?_toArray, List.getElem?_cons_succ, List.getElem?_cons_zero, Option.bind_some, List.setIfInBounds_toArray, List.set_cons_succ, List.set_cons_zero, Nat.reduceAdd]
      refine chainP_softv (.bool true) (by kernel_rfl) (by kernel_rfl) ?_ ?_
      · simp only [Act.put, List.getElem?_toArray, List.getElem?_cons_succ, List.getElem?_cons_zero, Option.bind_some, List.setIfInBounds_toArray, List.set_cons_succ, List.set_cons_zero, Nat.reduceAdd]
        intro u hu E hE
        have hu' := hu.eq
        subst hu'
        go_wp2
        exact hE
      simp only [Act.put, List.getElem?_toArray, List.getElem?_cons_succ, List.getElem?_cons_zero, Option.bind_some, List.setIfInBounds_toArray, List.set_cons_succ, List.set_cons_zero, Nat.reduceAdd]
      refine chainP_softv (.pointer (some ⟨xb, 0, none⟩)) (by kernel_rfl) (by kernel_rfl) ?_ ?_
      · simp only [Act.put, List.getElem?_toArray, List.getElem?_cons_succ, List.getElem?_cons_zero, Option.bind_some, List.setIfInBounds_toArray, List.set_cons_succ, List.set_cons_zero, Nat.reduceAdd]
        intro u hu E hE
        have hu' := hu.eq
        subst hu'
        go_wp2
        exact hE
      simp only [Act.put, List.getElem?_toArray, List.getElem?_cons_succ, List.getElem?_cons_zero, Option.bind_some, List.setIfInBounds_toArray, List.set_cons_succ, List.set_cons_zero, Nat.reduceAdd]
      refine Go.Proofs.Ytcmgfelbbmeanaa.Tms.chainP_nckg _ _ rfl rfl rfl ?_
      simp only [Act.put, List.getElem?_toArray, List.getElem?_cons_succ, List.getElem?_cons_zero, Option.bind_some, List.setIfInBounds_toArray, List.set_cons_succ, List.set_cons_zero, Nat.reduceAdd]
      refine chainP_softv (.pointer (some ⟨xb, 2, none⟩)) (by kernel_rfl) (by kernel_rfl) ?_ ?_
      · simp only [Act.put, List.getElem?_toArray, List.getElem?_cons_succ, List.getElem?_cons_zero, Option.bind_some, List.setIfInBounds_toArray, List.set_cons_succ, List.set_cons_zero, Nat.reduceAdd]
        intro u hu E hE
        have hu' := hu.eq
        subst hu'
        go_wp2
        exact hE
      simp only [Act.put, List.getElem?_toArray, List.getElem?_cons_succ, List.getElem?_cons_zero, Option.bind_some, List.setIfInBounds_toArray, List.set_cons_succ, List.set_cons_zero, Nat.reduceAdd]
      refine chainP_softv (.map (some mb)) (by kernel_rfl) (by kernel_rfl) ?_ ?_
      · simp only [Act.put, List.getElem?_toArray, List.getElem?_cons_succ, List.getElem?_cons_zero, Option.bind_some, List.setIfInBounds_toArray, List.set_cons_succ, List.set_cons_zero, Nat.reduceAdd]
        intro u hu E hE
        have hu' := hu.eq
        subst hu'
        go_wp2
        exact hE
      simp only [Act.put, List.getElem?_toArray, List.getElem?_cons_succ, List.getElem?_cons_zero, Option.bind_some, List.setIfInBounds_toArray, List.set_cons_succ, List.set_cons_zero, Nat.reduceAdd]
      refine chainP_softv (.agg #[.int .i64 k1, .int .i64 k2, .int .i64 k3, .string k4]) (by kernel_rfl) (by kernel_rfl) ?_ ?_
      · simp only [Act.put, List.getElem?_toArray, List.getElem?_cons_succ, List.getElem?_cons_zero, Option.bind_some, List.setIfInBounds_toArray, List.set_cons_succ, List.set_cons_zero, Nat.reduceAdd]
        intro u hu E hE
        have hu' := hu.eq
        subst hu'
        go_wp2
        exact hE
      simp only [Act.put, List.getElem?_toArray, List.getElem?_cons_succ, List.getElem?_cons_zero, Option.bind_some, List.setIfInBounds_toArray, List.set_cons_succ, List.set_cons_zero, Nat.reduceAdd]
      refine chainP_one ?_
      intro E hE
      refine wpList_kmap_oneG keyX rfl _ _ _ rfl _ Try.underlying94 mb M rfl HMP.out kx HKX.out.symm (.slice none 0 0) (fun w => by kernel_rfl) ?_
      rw [HGT.out]
      refine hE _ _ ⟨SameX.me _, ?_⟩
      clear hE
      simp only [Act.put, List.getElem?_toArray, List.getElem?_cons_succ, List.getElem?_cons_zero, Option.bind_some, List.setIfInBounds_toArray, List.set_cons_succ, List.set_cons_zero, Nat.reduceAdd]
      refine chainP_softv (.int .i64 B.length) (by kernel_rfl) (by kernel_rfl) ?_ ?_
      · simp only [Act.put, List.getElem?_toArray, List.getElem?_cons_succ, List.getElem?_cons_zero, Option.bind_some, List.setIfInBounds_toArray, List.set_cons_succ, List.set_cons_zero, Nat.reduceAdd]
        intro u hu E hE
        have hu' := hu.eq
        subst hu'
        go_wp2
        exact hE
      simp only [Act.put, List.getElem?_toArray, List.getElem?_cons_succ, List.getElem?_cons_zero, Option.bind_some, List.setIfInBounds_toArray, List.set_cons_succ, List.set_cons_zero, Nat.reduceAdd]
      refine chainP_softv (.bool (decide (0 < B.length))) (by kernel_rfl) (by kernel_rfl) ?_ ?_
      · simp only [Act.put, List.getElem?_toArray, List.getElem?_cons_succ, List.getElem?_cons_zero, Option.bind_some, List.setIfInBounds_toArray, List.set_cons_succ, List.set_cons_zero, Nat.reduceAdd]
        intro u hu E hE
        have hu' := hu.eq
        subst hu'
        go_wp2
        exact hE
      simp only [Act.put, List.getElem?_toArray, List.getElem?_cons_succ, List.getElem?_cons_zero, Option.bind_some, List.setIfInBounds_toArray, List.set_cons_succ, List.set_cons_zero, Nat.reduceAdd]
      refine chainP_softv (.bool (decide (0 < B.length))) (by kernel_rfl) (by kernel_rfl) ?_ ?_
      · simp only [Act.put, List.getElem?_toArray, List.getElem?_cons_succ, List.getElem?_cons_zero, Option.bind_some, List.setIfInBounds_toArray, List.set_cons_succ, List.set_cons_zero, Nat.reduceAdd]
        intro u hu E hE
        have hu' := hu.eq
        subst hu'
        go_wp2
        exact hE
      simp only [Act.put, List.getElem?_toArray, List.getElem?_cons_succ, List.getElem?_cons_zero, Option.bind_some, List.setIfInBounds_toArray, List.set_cons_succ, List.set_cons_zero, Nat.reduceAdd]
      refine chainP_nil (rest_end (by decide) ?_)
      clear z0 z1 z2 y0 y1 y2 y3
      go_wp2
      go_meet
      exact ⟨by rw [HBB.out], HM.out, HR.out⟩
  case rest =>
  obtain ⟨rfl, hmb, hkr⟩ := hcut
  have HMC := Lib.hid hmb
  have HKC := Lib.hid hkr
  clear hmb hkr HMB HKR
  obtain ⟨QB, hQB⟩ : ∃ QB, QB = addQ QA B := ⟨_, rfl⟩
  have HQB2 := Lib.hid hQB
  clear hQB
  go_upto_if 66 with fail
  go_cut [67] from 68 to 76 (fun v67 wx => PkMid w xb mb base Ls M rows (w.heap.size + 2) #[.int .i64 k, .int .i64 n, .string s, .slice a m c] QB wx)
  case first =>
    cases bb with
    | true =>
      have hB0 : 0 < B.length := by simpa using HBB.out.symm
      have hBn : B ≠ [] := fun e => by rw [e] at hB0; simp at hB0
      have HBN := Lib.hid hBn
      cases q with
      | none => exact absurd HB.out HBN.out
      | some kx =>
      clear hB0 hBn
      go_upto_region 16 with fail
      refine wp_region_rest (by kernel_rfl) ?_
      have hdb := (Below.refl wc.heap.size wc).drew
      have HM := Lib.hid (HMC.out.below hdb)
      have HR := Lib.hid ((hdb.block kb (Array.getElem?_eq_some_iff.1 HKC.out).1).trans HKC.out)
      clear hdb HMC HKC
      generalize wc.drew = W0 at *
      obtain ⟨vm, hm1, hm2, hm3, hm4⟩ := HM.out
      have hrx := hm2.row
      obtain ⟨lv, hlv⟩ : ∃ lv, lv = rows none := ⟨_, rfl⟩
      rw [← hlv] at hrx
      obtain ⟨z0, z1, z2⟩ := row3n hrx
      obtain ⟨y0, y1, y2, y3⟩ := row4 HR.out
      have HMP := Lib.hid hm2.map.kmap
      obtain ⟨qv, qc', hqv⟩ := own_formX (hm2.own (some kx))
      have hB' : posF (eqP (some kx)) 0 Ls = B := HB.out.symm
      rw [hB'] at hqv
      have hint := (HINT.out (some kx)).below hm3
      rw [hqv, hB'] at hint
      have HI := Lib.hid hint
      have HGT := Lib.hid (show (kget kx M).getD (.slice none 0 0) = .slice qv B.length qc' from (hm2.get kx).symm.trans hqv)
      have HKX := Lib.hid (show kvX kx = .agg #[.int .i64 k1, .int .i64 k2, .int .i64 k3, .string k4] from HKK.out)
      have HH := Lib.hid hm1
      have HMID := Lib.hid (fun (wx : World) (v' : Value) (Q' : List (List Int)) (h1 : HpAt wx (w.heap.size + 1) (w.heap.size + 2) v' Q') (h2 : HpMv W0 (w.heap.size + 2) vm wx v') => pk_step hm1 hm2 hm3 hm4 HLOW.out h1 h2)
      clear hm1 hm2 hm3 hm4 hrx hlv hqv hB' hint
      refine rest_chainP (SameX W0) 0 9 (.soft 0 (.soft 1 (.soft 2 (.soft 3 (.soft 4 (.soft 5 (.soft 6 (.one 7 (.soft 8 .nil))))))))) (.soft _ (.soft _ (.soft _ (.soft _ (.soft _ (.soft _ (.soft _ (.one _ (.soft _ .nil))))))))) ⟨rfl, ⟨rfl, ⟨rfl, ⟨rfl, ⟨rfl, ⟨rfl, ⟨rfl, ⟨rfl, ⟨rfl, trivial⟩⟩⟩⟩⟩⟩⟩⟩⟩ (by kernel_rfl) (by kernel_rfl) (by kernel_rfl) (by kernel_rfl) (.inr (by kernel_rfl)) (SameX.me W0) ?_
      refine chainP_softv (.pointer (some ⟨w.heap.size + 2, 0, none⟩)) (by kernel_rfl) (by kernel_rfl) ?_ ?_
      · simp only [Act.put, List.getElem?_toArray, List.getElem?_cons_succ, List.getElem?_cons_zero, Option.bind_some, List.setIfInBounds_toArray, List.set_cons_succ, List.set_cons_zero, Nat.reduceAdd]
        intro u hu E hE
        have hu' := hu.eq
        subst hu'
        go_wp2
        exact hE
      simp only [Act.put, List.getElem?_toArray, List.getElem?_cons_succ, List.getElem?_cons_zero, Option.bind_some, List.setIfInBounds_toArray, List.set_cons_succ, List.set_cons_zero, Nat.reduceAdd]
      refine chainP_softv (hpV (w.heap.size + 2)) (by kernel_rfl) (by kernel_rfl) ?_ ?_
      · simp only [Act.put, List.getElem?_toArray, List.getElem?_cons_succ, List.getElem?_cons_zero, Option.bind_some, List.setIfInBounds_toArray, List.set_cons_succ, List.set_cons_zero, Nat.reduceAdd]
        intro u hu E hE
        have hu' := hu.eq
        subst hu'
        go_wp2
        exact hE
      simp only [Act.put, List.getElem?_toArray, List.getElem?_cons_succ, List.getElem?_cons_zero, Option.bind_some, List.setIfInBounds_toArray, List.set_cons_succ, List.set_cons_zero, Nat.reduceAdd]
      refine chainP_softv (.pointer (some ⟨xb, 0, none⟩)) (by kernel_rfl) (by kernel_rfl) ?_ ?_
      · simp only [Act.put, List.getElem?_toArray, List.getElem?_cons_succ, List.getElem?_cons_zero, Option.bind_some, List.setIfInBounds_toArray, List.set_cons_succ, List.set_cons_zero, Nat.reduceAdd]
        intro u hu E hE
        have hu' := hu.eq
        subst hu'
        go_wp2
        exact hE
      simp only [Act.put, List.getElem?_toArray, List.getElem?_cons_succ, List.getElem?_cons_zero, Option.bind_some, List.setIfInBounds_toArray, List.set_cons_succ, List.set_cons_zero, Nat.reduceAdd]
      refine chainP_nck _ _ rfl rfl rfl ?_
      simp only [Act.put, List.getElem?_toArray, List.getElem?_cons_succ, List.getElem?_cons_zero, Option.bind_some, List.setIfInBounds_toArray, List.set_cons_succ, List.set_cons_zero, Nat.reduceAdd]
      refine chainP_softv (.pointer (some ⟨xb, 2, none⟩)) (by kernel_rfl) (by kernel_rfl) ?_ ?_
      · simp only [Act.put, List.getElem?_toArray, List.getElem?_cons_succ, List.getElem?_cons_zero, Option.bind_some, List.setIfInBounds_toArray, List.set_cons_succ, List.set_cons_zero, Nat.reduceAdd]
        intro u hu E hE
        have hu' := hu.eq
        subst hu'
        go_wp2
        exact hE
      simp only [Act.put, List.getElem?_toArray, List.getElem?_cons_succ, List.getElem?_cons_zero, Option.bind_some, List.setIfInBounds_toArray, List.set_cons_succ, List.set_cons_zero, Nat.reduceAdd]
      refine chainP_softv (.map (some mb)) (by kernel_rfl) (by kernel_rfl) ?_ ?_
      · simp only [Act.put, List.getElem?_toArray, List.getElem?_cons_succ, List.getElem?_cons_zero, Option.bind_some, List.setIfInBounds_toArray, List.set_cons_succ, List.set_cons_zero, Nat.reduceAdd]
        intro u hu E hE
        have hu' := hu.eq
        subst hu'
        go_wp2
        exact hE
      simp only [Act.put, List.getElem?_toArray, List.getElem?_cons_succ, List.getElem?_cons_zero, Option.bind_some, List.setIfInBounds_toArray, List.set_cons_succ, List.set_cons_zero, Nat.reduceAdd]
      refine chainP_softv (.agg #[.int .i64 k1, .int .i64 k2, .int .i64 k3, .string k4]) (by kernel_rfl) (by kernel_rfl) ?_ ?_
      · simp only [Act.put, List.getElem?_toArray, List.getElem?_cons_succ, List.getElem?_cons_zero, Option.bind_some, List.setIfInBounds_toArray, List.set_cons_succ, List.set_cons_zero, Nat.reduceAdd]
        intro u hu E hE
        have hu' := hu.eq
        subst hu'
        go_wp2
        exact hE
      simp only [Act.put, List.getElem?_toArray, List.getElem?_cons_succ, List.getElem?_cons_zero, Option.bind_some, List.setIfInBounds_toArray, List.set_cons_succ, List.set_cons_zero, Nat.reduceAdd]
      refine chainP_one ?_
      intro E hE
      refine wpList_kmap_one keyX rfl _ _ _ rfl _ Try.underlying94 mb M rfl HMP.out kx HKX.out.symm (.slice none 0 0) (fun w => by kernel_rfl) ?_
      rw [HGT.out]
      refine hE _ _ ⟨SameX.me _, ?_⟩
      clear hE
      simp only [Act.put, List.getElem?_toArray, List.getElem?_cons_succ, List.getElem?_cons_zero, Option.bind_some, List.setIfInBounds_toArray, List.set_cons_succ, List.set_cons_zero, Nat.reduceAdd]
      refine chainP_softv (.iface 37 (.slice qv B.length qc')) (by kernel_rfl) (by kernel_rfl) ?_ ?_
      · simp only [Act.put, List.getElem?_toArray, List.getElem?_cons_succ, List.getElem?_cons_zero, Option.bind_some, List.setIfInBounds_toArray, List.set_cons_succ, List.set_cons_zero, Nat.reduceAdd]
        intro u hu E hE
        have hu' := hu.eq
        subst hu'
        go_wp2
        exact hE
      simp only [Act.put, List.getElem?_toArray, List.getElem?_cons_succ, List.getElem?_cons_zero, Option.bind_some, List.setIfInBounds_toArray, List.set_cons_succ, List.set_cons_zero, Nat.reduceAdd]
      refine chainP_nil ?_
      clear z0 z1 z2 y0 y1 y2 y3
      refine rest_lineL 9 10 [_] rfl (by kernel_rfl) (by decide) (by decide) (by kernel_rfl) ?_
      by_cases hA0 : A = []
      · have e1 : QA = [] := by rw [HQA.out, if_pos hA0]
        clear hA0
        subst e1
        have e2 : QB = [B] := by rw [HQB2.out]; exact if_neg HBN.out
        subst e2
        go_wp2_with fail
        refine (heap_Push0 HH.out B qv _ qc' HI.out).mono ?_
        rintro e2 w2 ⟨rfl, v2, h2, m2⟩
        have HF := Lib.hid (HMID.out w2 v2 _ h2 m2)
        clear h2 m2 HMID HH HI
        dsimp only
        go_wp2
        refine then_rest (rest_end (by decide) ?_)
        go_wp2
        go_meet
        exact HF.out
      · have e1 : QA = [A] := by rw [HQA.out, if_neg hA0]
        have HA0 := Lib.hid hA0
        clear hA0
        subst e1
        have e2 : QB = ord2 A B := by rw [HQB2.out]; exact if_neg HBN.out
        subst e2
        go_wp2_with fail
        refine (heap_Push1 HH.out HA0.out B HBN.out qv _ qc' HI.out).mono ?_
        rintro e2 w2 ⟨rfl, v2, h2, m2⟩
        have HF := Lib.hid (HMID.out w2 v2 _ h2 m2)
        clear h2 m2 HMID HH HI
        dsimp only
        go_wp2
        refine then_rest (rest_end (by decide) ?_)
        go_wp2
        go_meet
        exact HF.out
    | false =>
      have hB0 : ¬ 0 < B.length := by simpa using HBB.out.symm
      have e : QB = QA := by rw [HQB2.out]; exact if_pos (List.eq_nil_of_length_eq_zero (by omega))
      subst e
      clear hB0
      go_wp2
      go_meet
      exact HMC.out
  case rest =>
  obtain ⟨ve, he, -, hbe, -⟩ := hcut
  have hpl := pick_plain Ls q
  rw [HL.out] at hpl
  have hQB : QB = addQ (if posF (eqP none) 0 Ls = [] then [] else [posF (eqP none) 0 Ls]) (keyRow Ls q) := by rw [HQB2.out, HQA.out, HA.out, HB.out]
  rw [← hQB] at hpl
  have hLl : L.length ≤ 100000 := by rw [← HL.out]; have := posF_len (fitP q) Ls 0; omega
  have hrel0 : PkRel L w (w.heap.size + 2) (totQ QB) (.slice none 0 0) wc := ⟨[], QB, ve, rfl, he, hpl.1, Own.nil _ _ _, hpl.2.symm, hbe⟩
  have HREL := Lib.hid hrel0
  clear hrel0 hpl hQB he hbe HQB2 HQA HB HL HBB HMC HKC HKK HQB HINT HLOW HA hn hAl
  go_wp2
  go_loopg [12] (totQ QB) (fun gk v12 wr => PkRel L w (w.heap.size + 2) gk v12 wr)
  case atStart => exact HREL.out
  case round =>
    clear HREL
    obtain ⟨O, Q, vh, hk, hh, hq, ho, hl, hb⟩ := hrel
    rcases hq.shape with e | ⟨A1, R, e, hR⟩
    · subst e
      obtain ⟨qh, ch, e⟩ := hh.form
      subst e
      have hrow := hh.row
      have x0 := cell_of_row _ _ 0 _ _ _ hrow
      have hfin := ownLowX (base' := w.heap.size) ho (by omega)
      rw [show O = L by rw [hl]; simp [mgQ]] at hfin
      have HFIN := Lib.hid hfin
      have HB := Lib.hid hb
      clear hh hq ho hl hb hfin hrow hk
      go_wp2_with fail
      refine (rows_Len _ _ _ _).mono ?_
      rintro e2 w2 ⟨rfl, rfl⟩
      go_wp2
      go_ret
      exact ⟨_, rfl, HFIN.out, HB.out⟩
    · subst e
      cases A1 with
      | nil => exact absurd rfl (hq.ne [] (by simp))
      | cons x A' =>
      have hgf : ∃ g ch, vh = .slice (some ⟨g, 0, none⟩) (R.length + 1) ch := by
        rcases hh.own.form with ⟨e, h0⟩ | ⟨g, ch, e⟩
        · simp at h0
        · exact ⟨g, ch, e⟩
      obtain ⟨g, ch, e⟩ := hgf
      subst e
      obtain ⟨q12, c12, e12⟩ := own_formX ho
      subst e12
      obtain ⟨On, hOn⟩ : ∃ On, On = O.length := ⟨_, rfl⟩
      have hOl : On ≤ 100000 := by rw [hOn]; have : L.length = O.length + (mgQ ((x :: A') :: R)).length := (by rw [hl, List.length_append]); omega
      rw [← hOn]
      have hrow := hh.row
      have x0 := cell_of_row _ _ 0 _ _ _ hrow
      obtain ⟨a1, m1, c1, x1, s1⟩ := own_sl hh.own 0 (by simp)
      simp only [List.getElem_cons_zero] at s1
      have hm1 := s1.mlen
      simp only [List.length_cons] at hm1
      obtain ⟨rfl, hc1, hc1'⟩ := hm1
      unfold maxLen at hc1'
      obtain ⟨b1, o1, ea, x2, hb1, hbl1⟩ := s1.head 0 (by simp)
      simp only [List.getElem_cons_zero, Nat.add_zero] at x2
      subst ea
      have hcap := hh.own.caps
      unfold maxLen at hcap
      have hba : Below wr.heap.size wr (wr.alloc (.cells #[.int .i64 x] 3 (0, 0))) := (Below.refl wr.heap.size wr).alloc (Nat.le_refl _) _
      have hgl := hh.own.low g rfl
      have hrl := (Array.getElem?_eq_some_iff.1 hrow).1
      have HH := Lib.hid (hh.below hba)
      have HO := Lib.hid (ho.below hba)
      rw [← hOn] at HO
      have HN := Lib.hid (heap_alloc_new wr (.cells #[.int .i64 x] 3 (0, 0)))
      have HB := Lib.hid (hb.trans (hba.mono hb.size))
      have HBL := Lib.hid (show w.heap.size + 1 ≤ (wr.alloc (.cells #[.int .i64 x] 3 (0, 0))).heap.size from Nat.le_trans (by have := hh.lo; omega) hba.size)
      have HL := Lib.hid hl
      have HQ := Lib.hid hq
      have HON := Lib.hid hOn
      have HK := Lib.hid hk
      have hR1 : R.length + 1 ≤ 2 := by omega
      have d0 : decide ((0 : Int) < ((R.length + 1 : Nat) : Int)) = true := by simp
      clear hh ho hba hb hl hq hOn hk hrow s1
      go_wp2_with fail
      refine (rows_Len _ _ _ _).mono ?_
      rintro e2 w2 ⟨rfl, rfl⟩
      cases A' with
      | nil =>
        go_wp2_with (with_reducible show wpList _ _ _ (⟨some 91, _, _, _, _, _⟩ :: _) _ _
                     go_must (
                       refine wpList_put (K := jKind) rfl (.tmp 82) (.tmp 90) _ rfl Try.underlying37 info_j rfl (w.heap.size + 1) (fun _ => False) _ O [.int .i64 x] x _ _ _ _ rfl HO.out rfl HN.out rfl (by have := HON.out; unfold maxLen; omega) (by have := HON.out; omega) HBL.out ?_
                       intro v9 w9 ho9 hb9 hg9 hv9
                       obtain ⟨q9, c9, e9⟩ := own_formX ho9
                       rw [List.length_append, List.length_singleton, ← HON.out] at e9
                       subst e9
                       have hne := own_apart HH.out HO.out
                       have h9 := hp_grown HH.out hg9 hne (fun b e => (HO.out.low b e).1)
                       have HO9 := Lib.hid ho9
                       have HB9 := Lib.hid (HB.out.trans (hb9.mono (by omega)))
                       have x0 := cell_of_row _ _ 0 _ _ _ h9.row
                       obtain ⟨a1, m1, c1', x1, s1⟩ := own_sl h9.own 0 (by simp)
                       simp only [List.getElem_cons_zero] at s1
                       have hm9 := s1.mlen
                       simp only [List.length_cons, List.length_nil, Nat.zero_add] at hm9
                       obtain ⟨rfl, hc9, hc9'⟩ := hm9
                       unfold maxLen at hc9'
                       obtain ⟨b9, o9, ea9, -, -, -⟩ := s1.head 0 (by simp)
                       subst ea9
                       have S9 := Lib.hid s1
                       have HH9 := Lib.hid h9
                       clear ho9 hb9 hg9 hv9 hne h9 s1 HO HH HN HB HBL))
        cases R with
        | nil =>
          have HRP := Lib.hid (heap_Pop1 HH9.out)
          go_wp2_with fail
          refine HRP.out.mono ?_
          rintro e3 w3 ⟨xx, rfl, v3, h3, m3⟩
          have HRL := Lib.hid (pk_next (L := L) (k := totQ []) (O := O) (x := x) (Q' := []) HH9.out HO9.out HB9.out h3 m3 .nil rfl (by rw [HL.out]; rfl))
          have hkk : totQ [] < gk := by rw [← HK.out]; simp [totQ]
          clear h3 m3 HH9 HO9 HB9 HL HQ HON HK HRP S9
          dsimp only
          go_wp2
          go_roundg (totQ [])
          case measure => exact hkk
          case rel => exact HRL.out
        | cons B R =>
          obtain rfl : R = [] := List.eq_nil_of_length_eq_zero (by have h1 : (B :: R).length ≤ 1 := hR; rw [List.length_cons] at h1; omega)
          have HNB := Lib.hid (HQ.out.ne B (by simp))
          have HLT := Lib.hid (HQ.out.lt [x] B rfl)
          have HRP := Lib.hid (heap_Pop2 HH9.out)
          go_wp2_with fail
          refine HRP.out.mono ?_
          rintro e3 w3 ⟨xx, rfl, v3, h3, m3⟩
          have HRL := Lib.hid (pk_next (L := L) (k := totQ [B]) (O := O) (x := x) (Q' := [B]) HH9.out HO9.out HB9.out h3 m3 (.one HNB.out) rfl (by rw [HL.out]; show O ++ mg [x] B = O ++ x :: B; rw [pk_one HNB.out HLT.out.1]))
          have hkk : totQ [B] < gk := by rw [← HK.out]; simp [totQ]
          clear h3 m3 HH9 HO9 HB9 HL HQ HON HK HRP S9
          dsimp only
          go_wp2
          go_roundg (totQ [B])
          case measure => exact hkk
          case rel => exact HRL.out
      | cons y A'' =>
        go_wp2_with (with_reducible show wpList _ _ _ (⟨some 91, _, _, _, _, _⟩ :: _) _ _
                     go_must (
                       refine wpList_put (K := jKind) rfl (.tmp 82) (.tmp 90) _ rfl Try.underlying37 info_j rfl (w.heap.size + 1) (fun _ => False) _ O [.int .i64 x] x _ _ _ _ rfl HO.out rfl HN.out rfl (by have := HON.out; unfold maxLen; omega) (by have := HON.out; omega) HBL.out ?_
                       intro v9 w9 ho9 hb9 hg9 hv9
                       obtain ⟨q9, c9, e9⟩ := own_formX ho9
                       rw [List.length_append, List.length_singleton, ← HON.out] at e9
                       subst e9
                       have hne := own_apart HH.out HO.out
                       have h9 := hp_grown HH.out hg9 hne (fun b e => (HO.out.low b e).1)
                       have HO9 := Lib.hid ho9
                       have HB9 := Lib.hid (HB.out.trans (hb9.mono (by omega)))
                       have x0 := cell_of_row _ _ 0 _ _ _ h9.row
                       obtain ⟨a1, m1, c1', x1, s1⟩ := own_sl h9.own 0 (by simp)
                       simp only [List.getElem_cons_zero] at s1
                       have hm9 := s1.mlen
                       simp only [List.length_cons, List.length_nil, Nat.zero_add] at hm9
                       obtain ⟨rfl, hc9, hc9'⟩ := hm9
                       unfold maxLen at hc9'
                       obtain ⟨b9, o9, ea9, -, -, -⟩ := s1.head 0 (by simp)
                       subst ea9
                       have S9 := Lib.hid s1
                       have HH9 := Lib.hid h9
                       clear ho9 hb9 hg9 hv9 hne h9 s1 HO HH HN HB HBL))
        refine wp_region_rest (by kernel_rfl) ?_
        have hdb := (Below.refl w9.heap.size w9).drew
        have HH0 := Lib.hid (HH9.out.below hdb)
        have HO0 := Lib.hid (HO9.out.below hdb)
        have HB0 := Lib.hid (HB9.out.trans (hdb.mono HB9.out.size))
        have S0 := Lib.hid (S9.out.below hdb)
        have hrow0 := HH0.out.row
        have z0 := cell_of_row _ _ 0 _ _ _ hrow0
        have z1 := (hdb.cell (p := ⟨g, 0, none⟩) (HH9.out.own.low g rfl).2).trans x1
        clear hdb hrow0 HH9 HO9 HB9 S9 x0 x1
        generalize w9.drew = W0 at *
        obtain ⟨hs1, hs2, hs3⟩ := hp_tail HH0.out S0.out
        have HS := Lib.hid hs1
        have HM := Lib.hid hs2
        clear hs1 hs2
        refine rest_chainP (SameX W0) 0 9 (.soft 0 (.soft 1 (.soft 2 (.soft 3 (.soft 4 (.soft 5 (.soft 6 (.soft 7 (.soft 8 .nil))))))))) (.soft _ (.soft _ (.soft _ (.soft _ (.soft _ (.soft _ (.soft _ (.soft _ (.soft _ .nil))))))))) ⟨rfl, ⟨rfl, ⟨rfl, ⟨rfl, ⟨rfl, ⟨rfl, ⟨rfl, ⟨rfl, ⟨rfl, trivial⟩⟩⟩⟩⟩⟩⟩⟩⟩ (by kernel_rfl) (by kernel_rfl) (by kernel_rfl) (by kernel_rfl) (.inr (by kernel_rfl)) (SameX.me W0) ?_
        refine chainP_softv (.pointer (some ⟨w.heap.size + 2, 0, none⟩)) (by kernel_rfl) (by kernel_rfl) ?_ ?_
        · simp only [Act.put, List.getElem?_toArray, List.getElem?_cons_succ, List.getElem?_cons_zero, Option.bind_some, List.setIfInBounds_toArray, List.set_cons_succ, List.set_cons_zero, Nat.reduceAdd]
          intro u hu E hE
          have hu' := hu.eq
          subst hu'
          go_wp2
          exact hE
        simp only [Act.put, List.getElem?_toArray, List.getElem?_cons_succ, List.getElem?_cons_zero, Option.bind_some, List.setIfInBounds_toArray, List.set_cons_succ, List.set_cons_zero, Nat.reduceAdd]
        refine chainP_nck _ _ rfl rfl rfl ?_
        simp only [Act.put, List.getElem?_toArray, List.getElem?_cons_succ, List.getElem?_cons_zero, Option.bind_some, List.setIfInBounds_toArray, List.set_cons_succ, List.set_cons_zero, Nat.reduceAdd]
        refine chainP_softv (.slice (some ⟨g, 0, none⟩) (R.length + 1) ch) (by kernel_rfl) (by kernel_rfl) ?_ ?_
        · simp only [Act.put, List.getElem?_toArray, List.getElem?_cons_succ, List.getElem?_cons_zero, Option.bind_some, List.setIfInBounds_toArray, List.set_cons_succ, List.set_cons_zero, Nat.reduceAdd]
          intro u hu E hE
          have hu' := hu.eq
          subst hu'
          go_wp2
          exact hE
        simp only [Act.put, List.getElem?_toArray, List.getElem?_cons_succ, List.getElem?_cons_zero, Option.bind_some, List.setIfInBounds_toArray, List.set_cons_succ, List.set_cons_zero, Nat.reduceAdd]
        refine chainP_softv (.pointer (some ⟨w.heap.size + 2, 0, none⟩)) (by kernel_rfl) (by kernel_rfl) ?_ ?_
        · simp only [Act.put, List.getElem?_toArray, List.getElem?_cons_succ, List.getElem?_cons_zero, Option.bind_some, List.setIfInBounds_toArray, List.set_cons_succ, List.set_cons_zero, Nat.reduceAdd]
          intro u hu E hE
          have hu' := hu.eq
          subst hu'
          go_wp2
          exact hE
        simp only [Act.put, List.getElem?_toArray, List.getElem?_cons_succ, List.getElem?_cons_zero, Option.bind_some, List.setIfInBounds_toArray, List.set_cons_succ, List.set_cons_zero, Nat.reduceAdd]
        refine chainP_nck _ _ rfl rfl rfl ?_
        simp only [Act.put, List.getElem?_toArray, List.getElem?_cons_succ, List.getElem?_cons_zero, Option.bind_some, List.setIfInBounds_toArray, List.set_cons_succ, List.set_cons_zero, Nat.reduceAdd]
        refine chainP_softv (.slice (some ⟨g, 0, none⟩) (R.length + 1) ch) (by kernel_rfl) (by kernel_rfl) ?_ ?_
        · simp only [Act.put, List.getElem?_toArray, List.getElem?_cons_succ, List.getElem?_cons_zero, Option.bind_some, List.setIfInBounds_toArray, List.set_cons_succ, List.set_cons_zero, Nat.reduceAdd]
          intro u hu E hE
          have hu' := hu.eq
          subst hu'
          go_wp2
          exact hE
        simp only [Act.put, List.getElem?_toArray, List.getElem?_cons_succ, List.getElem?_cons_zero, Option.bind_some, List.setIfInBounds_toArray, List.set_cons_succ, List.set_cons_zero, Nat.reduceAdd]
        refine chainP_softv (.pointer (some ⟨g, 0, none⟩)) (by kernel_rfl) (by kernel_rfl) ?_ ?_
        · simp only [Act.put, List.getElem?_toArray, List.getElem?_cons_succ, List.getElem?_cons_zero, Option.bind_some, List.setIfInBounds_toArray, List.set_cons_succ, List.set_cons_zero, Nat.reduceAdd]
          intro u hu E hE
          have hu' := hu.eq
          subst hu'
          go_wp2
          exact hE
        simp only [Act.put, List.getElem?_toArray, List.getElem?_cons_succ, List.getElem?_cons_zero, Option.bind_some, List.setIfInBounds_toArray, List.set_cons_succ, List.set_cons_zero, Nat.reduceAdd]
        refine chainP_softv ((.slice (some ⟨b9, o9, none⟩) (A''.length + 1 + 1) c1')) (by kernel_rfl) (by kernel_rfl) ?_ ?_
        · simp only [Act.put, List.getElem?_toArray, List.getElem?_cons_succ, List.getElem?_cons_zero, Option.bind_some, List.setIfInBounds_toArray, List.set_cons_succ, List.set_cons_zero, Nat.reduceAdd]
          intro u hu E hE
          have hu' := hu.eq
          subst hu'
          go_wp2
          exact hE
        simp only [Act.put, List.getElem?_toArray, List.getElem?_cons_succ, List.getElem?_cons_zero, Option.bind_some, List.setIfInBounds_toArray, List.set_cons_succ, List.set_cons_zero, Nat.reduceAdd]
        refine chainP_softv ((.slice (some ⟨b9, o9 + 1, none⟩) (A''.length + 1) (c1' - 1))) (by kernel_rfl) (by kernel_rfl) ?_ ?_
        · simp only [Act.put, List.getElem?_toArray, List.getElem?_cons_succ, List.getElem?_cons_zero, Option.bind_some, List.setIfInBounds_toArray, List.set_cons_succ, List.set_cons_zero, Nat.reduceAdd]
          intro u hu E hE
          have hu' := hu.eq
          subst hu'
          go_wp2
          exact hE
        simp only [Act.put, List.getElem?_toArray, List.getElem?_cons_succ, List.getElem?_cons_zero, Option.bind_some, List.setIfInBounds_toArray, List.set_cons_succ, List.set_cons_zero, Nat.reduceAdd]
        refine chainP_nil ?_
        refine rest_lineL 9 11 [_, _] rfl (by kernel_rfl) (by decide) (by decide) (by kernel_rfl) ?_
        go_wp2
        refine then_rest (rest_end (by decide) ?_)
        clear z0 z1
        cases R with
        | nil =>
          have HRP := Lib.hid (heap_Fix1 HS.out)
          have HRL := Lib.hid (pk_next (L := L) (k := totQ [y :: A'']) (O := O) (x := x) (Q' := [y :: A'']) HH0.out HO0.out HB0.out HS.out HM.out (.one (by simp)) rfl (by rw [HL.out]; rfl))
          have hkk : totQ [y :: A''] < gk := by rw [← HK.out]; simp [totQ]
          clear HH0 HO0 HB0 HL HQ HON HK S0 HS HM
          go_wp2_with fail
          refine HRP.out.mono ?_
          rintro e3 w3 ⟨rfl, rfl⟩
          dsimp only
          go_wp2
          go_roundg (totQ [y :: A''])
          case measure => exact hkk
          case rel => exact HRL.out
        | cons B R =>
          obtain rfl : R = [] := List.eq_nil_of_length_eq_zero (by have h1 : (B :: R).length ≤ 1 := hR; rw [List.length_cons] at h1; omega)
          have HNB := Lib.hid (HQ.out.ne B (by simp))
          have HLT := Lib.hid (HQ.out.lt (x :: y :: A'') B rfl)
          have HOK := Lib.hid (ord2_ok (A := y :: A'') (by simp) HNB.out fun z hz => HLT.out.2 z (List.mem_cons_of_mem _ hz))
          have HRP := Lib.hid (heap_Fix2 HS.out (by simp) HNB.out)
          go_wp2_with fail
          refine HRP.out.mono ?_
          rintro e3 w3 ⟨rfl, v3, h3, m3⟩
          have HRL := Lib.hid (pk_next (L := L) (k := totQ (ord2 (y :: A'') B)) (O := O) (x := x) (Q' := ord2 (y :: A'') B) HH0.out HO0.out HB0.out h3 (HM.out.trans m3) HOK.out.1 rfl (by rw [HL.out, HOK.out.2.1]; show O ++ mg (x :: y :: A'') B = O ++ x :: mg (y :: A'') B; rw [mg_hd HNB.out HLT.out.1]))
          have hkk : totQ (ord2 (y :: A'') B) < gk := by rw [HOK.out.2.2, ← HK.out]; simp [totQ]
          clear h3 m3 HH0 HO0 HB0 HL HQ HON HK S0 HS HM HOK HLT HNB HRP
          dsimp only
          go_wp2
          go_roundg (totQ (ord2 (y :: A'') B))
          case measure => exact hkk
          case rel => exact HRL.out
end Go.Proofs.Ytcmgfelbbmeanaa.Tms
