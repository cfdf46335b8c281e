
/-
  goal.kinds, a map literal whose entries are put in any order, walked over the program: whatever the order, what is found under a key is the same.
-/
import Derived.Test.YtmlceamcpelklaaKey
import Derived.Test.YtmlceamcpelklaaSeen
namespace Go.Proofs.Ytmlceamcpelklaa.Tms
open Go Go.RowKit Go.Proofs.Ytmlceamcpelklaa.Reg Go.Proofs.Ytmlceamcpelklaa.Maps
set_option linter.unusedVariables false

def kindsL : List (ByteArray × Int × Int) := [((⟨#[116, 114, 117, 101]⟩ : ByteArray), 0, 1), ((⟨#[102, 97, 105, 108]⟩ : ByteArray), 0, 7), ((⟨#[33]⟩ : ByteArray), 0, 6), ((⟨#[44]⟩ : ByteArray), 2, 2), ((⟨#[59]⟩ : ByteArray), 2, 3), ((⟨#[45, 62]⟩ : ByteArray), 2, 4), ((⟨#[92, 43]⟩ : ByteArray), 1, 5), ((⟨#[99, 97, 108, 108]⟩ : ByteArray), 1, 8), ((⟨#[99, 97, 116, 99, 104]⟩ : ByteArray), 3, 9), ((⟨#[116, 104, 114, 111, 119]⟩ : ByteArray), 1, 10), ((⟨#[102, 105, 110, 100, 97, 108, 108]⟩ : ByteArray), 3, 11)]
def kAt (i : Nat) : ByteArray × Int × Int := kindsL.getD i (⟨#[]⟩, 0, 0)
def kKey (i : Nat) : Value := keyV (kAt i).1 (kAt i).2.1
def kVal (i : Nat) : Value := .int .i64 (kAt i).2.2
/-- a goal's kind by its name and how many arguments -/
def kindOf (s : ByteArray) (n : Int) : Int := match kindsL.find? fun x => s.toList == x.1.toList && n == x.2.1 with
  | some x => x.2.2
  | none => 0
def apartB : Bool := (List.range 11).all fun i => (List.range 11).all fun j => i == j || !isKey (kAt i).1 (kAt i).2.1 (kKey j)
theorem apartB_true : apartB = true := by decide +kernel
theorem kapart {i j : Nat} (hi : i < 11) (hj : j < 11) (h : i ≠ j) : isKey (kAt i).1 (kAt i).2.1 (kKey j) = false := by
  have := apartB_true
  simp only [apartB, List.all_eq_true, List.mem_range, Bool.or_eq_true, beq_iff_eq, Bool.not_eq_true'] at this
  exact (this i hi j hj).resolve_left h
theorem lookE_none {s : ByteArray} {n : Int} : ∀ {es : List MapEntry} {i : Nat}, (∀ e ∈ es, isKey s n e.key = false) → lookE s n es i = none
  | [], i, _ => rfl
  | e :: es, i, h => by
    rw [lookE, if_neg (by rw [h e (by simp)]; decide)]
    exact lookE_none fun e he => h e (List.mem_cons_of_mem _ he)
/-- block b holds a map of just these entries -/
def EsIs (w : World) (b : Nat) (l : List Nat) : Prop := ∃ es c, w.heap[b]? = some (.map es c) ∧ (es.toList.map fun e => (e.key, e.val)) = l.map fun i => (kKey i, kVal i)
theorem es_key {es : List MapEntry} {l : List Nat} (h : (es.map fun e => (e.key, e.val)) = l.map fun i => (kKey i, kVal i)) : ∀ e ∈ es, ∃ i ∈ l, e.key = kKey i ∧ e.val = kVal i := by
  intro e he
  have : (e.key, e.val) ∈ es.map fun e => (e.key, e.val) := List.mem_map.2 ⟨e, he, rfl⟩
  rw [h] at this
  obtain ⟨i, hi, e2⟩ := List.mem_map.1 this
  simp only [Prod.mk.injEq] at e2
  exact ⟨i, hi, e2.1.symm, e2.2.symm⟩
theorem es_keys {es : List MapEntry} {l : List Nat} (h : (es.map fun e => (e.key, e.val)) = l.map fun i => (kKey i, kVal i)) : KeyEs es := fun e he => by
  obtain ⟨i, -, h1, -⟩ := es_key h e he
  exact ⟨_, _, h1⟩
theorem lookE_of {s : ByteArray} {n : Int} : ∀ {es : List MapEntry} {l : List Nat} {q : Nat}, (es.map fun e => (e.key, e.val)) = (l.map fun i => (kKey i, kVal i)) →
    (lookE s n es q).elim (.int .i64 0) (·.2) = match l.find? fun i => isKey s n (kKey i) with | some i => kVal i | none => .int .i64 0
  | [], [], q, _ => rfl
  | e :: es, i :: l, q, h => by
    simp only [List.map_cons, List.cons.injEq, Prod.mk.injEq] at h
    obtain ⟨⟨h1, h2⟩, h3⟩ := h
    rw [lookE, h1, List.find?_cons]
    cases hk : isKey s n (kKey i)
    · simpa using lookE_of h3
    · simpa using h2
  | [], _ :: _, _, h => by simp at h
  | _ :: _, [], _, h => by simp at h
/-- a map in which each goal's kind is found -/
def KMap (w : World) (b : Nat) : Prop := ∃ es c, w.heap[b]? = some (.map es c) ∧ KeyEs es.toList ∧ ∀ s n, (lookE s n es.toList 0).elim (.int .i64 0) (·.2) = .int .i64 (kindOf s n)
theorem kindsL_at : kindsL = (List.range 11).map kAt := by decide +kernel
theorem find_one {s : ByteArray} {n : Int} {i : Nat} (hi : i < 11) (h : isKey s n (kKey i) = true) : kindOf s n = (kAt i).2.2 := by
  have hk : ∀ j, isKey s n (kKey j) = (s.toList == (kAt j).1.toList && n == (kAt j).2.1) := fun j => isKey_key _ _ _ _
  unfold kindOf
  cases hf : kindsL.find? fun x => s.toList == x.1.toList && n == x.2.1 with
  | none =>
    rw [List.find?_eq_none] at hf
    have := hf (kAt i) (by rw [kindsL_at]; exact List.mem_map.2 ⟨i, by simpa using hi, rfl⟩)
    rw [hk i] at h
    exact absurd h this
  | some x =>
    have hm := List.mem_of_find?_eq_some hf
    have hx := List.find?_some hf
    rw [kindsL_at] at hm
    obtain ⟨j, hj, rfl⟩ := List.mem_map.1 hm
    have hj : j < 11 := by simpa using hj
    by_cases e : i = j
    · rw [e]
    · exfalso
      have h1 := kapart hj hi (Ne.symm e)
      have e1 : isKey (kAt j).1 (kAt j).2.1 (kKey i) = ((kAt j).1.toList == (kAt i).1.toList && (kAt j).2.1 == (kAt i).2.1) := isKey_key _ _ _ _
      rw [hk i] at h
      rw [e1] at h1
      simp only [Bool.and_eq_true, beq_iff_eq] at h hx
      rw [← hx.1, ← hx.2, h.1, h.2] at h1
      simp at h1
theorem find_non {s : ByteArray} {n : Int} (h : ∀ i, i < 11 → isKey s n (kKey i) = false) : kindOf s n = 0 := by
  have hk : ∀ j, isKey s n (kKey j) = (s.toList == (kAt j).1.toList && n == (kAt j).2.1) := fun j => isKey_key _ _ _ _
  unfold kindOf
  cases hf : kindsL.find? fun x => s.toList == x.1.toList && n == x.2.1 with
  | none => rfl
  | some x =>
    have hm := List.mem_of_find?_eq_some hf
    have hx := List.find?_some hf
    rw [kindsL_at] at hm
    obtain ⟨j, hj, rfl⟩ := List.mem_map.1 hm
    have h1 := h j (by simpa using hj)
    rw [hk j] at h1
    rw [hx] at h1
    cases h1
theorem kmap_of {w : World} {b : Nat} {l : List Nat} (h : EsIs w b l) (hl : ∀ i, i ∈ l ↔ i < 11) : KMap w b := by
  obtain ⟨es, c, h1, h2⟩ := h
  refine ⟨es, c, h1, es_keys h2, fun s n => ?_⟩
  rw [lookE_of h2]
  cases hf : l.find? fun i => isKey s n (kKey i) with
  | none =>
    rw [List.find?_eq_none] at hf
    rw [find_non fun i hi => by simpa using hf i ((hl i).2 hi)]
  | some i =>
    have hm := List.mem_of_find?_eq_some hf
    have hx := List.find?_some hf
    simp only
    rw [find_one ((hl i).1 hm) hx]
    rfl

/-- what an operation does, and where its value goes -/
def opOf (ops : Array Oper) (i : Nat) : Option (Option Tmp × Op × Bool) := (ops[i]?).map fun o => (o.dst, o.op, o.guard.isNone)
theorem opOf_spec {ops : Array Oper} {i : Nat} {d : Option Tmp} {p : Op} (h : opOf ops i = some (d, p, true)) {o : Oper} (ho : ops[i]? = some o) : o.dst = d ∧ o.op = p ∧ o.guard = none := by
  unfold opOf at h
  rw [ho] at h
  simpa using h
/-- what holds while the entries are put, in whatever order -/
structure LitI (w0 : World) (ds : List Deferred) (L : Array Bool) (a : Act) (w : World) : Prop where
  defers : a.defers = ds
  size : a.tmps.size = 14
  bel : Below w0.heap.size w0 w
  made : L.getD 0 false = true → ∃ b l, a.tmps[1]? = some (.map (some b)) ∧ w0.heap.size ≤ b ∧ EsIs w b l ∧ l.Nodup ∧ ∀ i, i ∈ l ↔ i < 11 ∧ L.getD (2 * i + 2) false = true
  keys : ∀ i, i < 11 → L.getD (2 * i + 1) false = true → a.tmps[i + 2]? = some (kKey i)

theorem getD_set_iff {L : Array Bool} {i j : Nat} (hi : i < L.size) : (L.setIfInBounds i true).getD j false = true ↔ j = i ∨ L.getD j false = true := by
  by_cases h : j = i
  · subst h; simp [hi]
  · rw [getD_set_ne false (Ne.symm h)]; simp [h]
theorem built_key (s : ByteArray) (n : Int) : Try.prog.built 95 [(0, .string s), (1, .int .i64 n)] = some #[.string s, .int .i64 n] := by kernel_rfl
theorem wpList_buildK {w : World} {ops : Array Oper} {rest : List Oper} {o : Oper} {a : Act} {Q : Exit → Act → World → Prop} (hgd : o.guard = none) (s : ByteArray) (n : Int) (ho : o.op = .build 95 #[(0, .const (.string s)), (1, .const (.int .i64 n))])
    (hK : wpList Try.prog ops Q rest (a.put o.dst (keyV s n)) w) : wpList Try.prog ops Q (o :: rest) a w := by
  refine wpList_build hgd _ _ ho (by simp [Act.eval, built_key]) ?_
  simp only [List.map_toArray, List.map_cons, List.map_nil, Act.eval, built_key, Option.getD_some]
  exact hK
set_option maxHeartbeats 1600000 in
theorem rest_kinds {Q : Exit → Act → World → Prop} {ops : Array Oper} (hB : backB ops = true) (hcut : cutB ops 0 23 = true) (hn : 23 ≤ ops.size) (h0 : opOf ops 0 = some (some 1, .makeMap 96 none, true))
    (h1 : ∀ i, i < 11 → opOf ops (2 * i + 1) = some (some (i + 2), .build 95 #[(0, .const (.string (kAt i).1)), (1, .const (.int .i64 (kAt i).2.1))], true))
    (h2 : ∀ i, i < 11 → opOf ops (2 * i + 2) = some (none, .insert 96 (.tmp 1) (.tmp (i + 2)) (.const (kVal i)), true))
    (hp : ∀ i, i < 11 → 0 ∈ preds ops (2 * i + 2) ∧ 2 * i + 1 ∈ preds ops (2 * i + 2)) {a0 : Act} {w0 : World} (hsz : a0.tmps.size = 14)
    (hend : ∀ a w b, a.defers = a0.defers → a.tmps.size = 14 → a.tmps[1]? = some (.map (some b)) → w0.heap.size ≤ b → KMap w b → Below w0.heap.size w0 w → Reg.Rest Try.prog ops Q 23 a w) :
    Reg.Rest Try.prog ops Q 0 a0 w0 := by
  intro L g g1 g2
  refine wpAny_upto (k := 0) (n := 23) (fun L a w => LitI w0 a0.defers L a w) hB hn (.inr hcut) ?_ ?_ _ L a0 w0 g (count_rest g g1 g2) (fun i hi => by omega) (fun t ht => g2 t (by omega)) ?_
  · intro L a w i o g hin ho hu hall _ _ hI
    have hL : i < L.size := by rw [g.size]; exact (Array.getElem?_eq_some_iff.1 ho).1
    have hpl := preds_listed ho hall
    have hu' : L.getD i false = false := by simp [hL] at hu ⊢; exact hu
    refine wpOp_of_only (a1 := a) ho (K := LitI w0 a0.defers (L.setIfInBounds i true)) (fun a' w' h => h.defers.trans hI.defers.symm) rfl rfl (fun _ _ h => h) ?_
    rcases Nat.eq_zero_or_pos i with rfl | hpos
    · obtain ⟨hd, hop, hg⟩ := opOf_spec h0 ho
      refine wpList_makeMap hg 96 hop ?_
      rw [hd]
      have hno : ∀ j, j < 11 → L.getD (2 * j + 2) false = false := fun j hj => by
        cases hc : L.getD (2 * j + 2) false with
        | false => rfl
        | true =>
          obtain ⟨oj, hoj⟩ : ∃ oj, ops[2 * j + 2]? = some oj := ⟨_, Array.getElem?_eq_getElem (by omega)⟩
          have := preds_listed hoj (g.closed _ _ hoj hc) 0 (hp j hj).1
          rw [hu'] at this
          cases this
      refine ⟨hI.defers, by simp [Act.put, hI.size], hI.bel.alloc hI.bel.size _, fun _ => ⟨w.heap.size, [], by simp [Act.put, hI.size], hI.bel.size, ⟨#[], 0, heap_alloc_new _ _, rfl⟩, List.nodup_nil, fun j => ?_⟩, fun j hj hl => ?_⟩
      · rw [getD_set_iff hL]
        constructor
        · intro h; cases h
        · rintro ⟨h1, h | h⟩
          · omega
          · rw [hno j h1] at h; cases h
      · rw [getD_set_iff hL] at hl
        have := hI.keys j hj (hl.resolve_left (by omega))
        simp only [Act.put]
        rw [Array.getElem?_setIfInBounds_ne (by omega)]
        exact this
    · obtain ⟨j, hj, hij⟩ : ∃ j, j < 11 ∧ (i = 2 * j + 1 ∨ i = 2 * j + 2) := ⟨(i - 1) / 2, by omega, by omega⟩
      rcases hij with rfl | rfl
      · obtain ⟨hd, hop, hg⟩ := opOf_spec (h1 j hj) ho
        refine wpList_buildK hg _ _ hop ?_
        rw [hd]
        refine ⟨hI.defers, by simp [Act.put, hI.size], hI.bel, fun hl => ?_, fun q hq hl => ?_⟩
        · rw [getD_set_iff hL] at hl
          obtain ⟨b, l, m1, m2, m3, m4, m5⟩ := hI.made (hl.resolve_left (by omega))
          refine ⟨b, l, ?_, m2, m3, m4, fun q => ?_⟩
          · simp only [Act.put]
            rw [Array.getElem?_setIfInBounds_ne (by omega)]
            exact m1
          · rw [m5 q, getD_set_iff hL]
            constructor
            · rintro ⟨h1, h2⟩; exact ⟨h1, .inr h2⟩
            · rintro ⟨h1, h2 | h2⟩
              · omega
              · exact ⟨h1, h2⟩
        · rw [getD_set_iff hL] at hl
          simp only [Act.put]
          by_cases e : q = j
          · subst e
            rw [Array.getElem?_setIfInBounds_self_of_lt (by rw [hI.size]; omega)]
            rfl
          · rw [Array.getElem?_setIfInBounds_ne (by omega)]
            exact hI.keys q hq (hl.resolve_left (by omega))
      · obtain ⟨hd, hop, hg⟩ := opOf_spec (h2 j hj) ho
        obtain ⟨b, l, m1, m2, ⟨es, c, m3, m3'⟩, m4, m5⟩ := hI.made (hpl 0 (hp j hj).1)
        have hkj := hI.keys j hj (hpl _ (hp j hj).2)
        have hnj : j ∉ l := fun h => by have := ((m5 j).1 h).2; rw [hu'] at this; cases this
        refine wpList_insK hg (.tmp 1) (.tmp (j + 2)) (.const (kVal j)) hop b (kAt j).1 (kAt j).2.1 es c (by simp [Act.eval, m1]) (by simp [Act.eval, hkj, kKey]) m3 (es_keys m3') (lookE_none fun e he => ?_) ?_
        · obtain ⟨q, hq, h1, -⟩ := es_key m3' e he
          rw [h1]
          exact kapart hj ((m5 q).1 hq).1 fun e => hnj (by rw [e]; exact hq)
        · intro w' n1 n2
          rw [hd]
          refine ⟨hI.defers, hI.size, hI.bel.grown n2 hI.bel.size fun k e => by cases e; exact m2, fun _ => ⟨b, l ++ [j], m1, m2, ⟨_, _, n1, ?_⟩, ?_, fun q => ?_⟩, fun q hq hl => ?_⟩
          · rw [Array.toList_push, List.map_append, List.map_append, m3']
            rfl
          · rw [List.nodup_append]
            refine ⟨m4, by simp, fun x hx y hy e => hnj ?_⟩
            simp only [List.mem_singleton] at hy
            rw [← hy, ← e]; exact hx
          · rw [List.mem_append, m5 q, getD_set_iff hL, List.mem_singleton]
            constructor
            · rintro (⟨h1, h2⟩ | rfl)
              · exact ⟨h1, .inr h2⟩
              · exact ⟨hj, .inl rfl⟩
            · rintro ⟨h1, h2 | h2⟩
              · exact .inr (by omega)
              · exact .inl ⟨h1, h2⟩
          · rw [getD_set_iff hL] at hl
            exact hI.keys q hq (hl.resolve_left (by omega))
  · intro L a w hall hI
    obtain ⟨b, l, m1, m2, m3, m4, m5⟩ := hI.made (hall 0 (by omega))
    exact hend a w b hI.defers hI.size m1 m2 (kmap_of m3 fun i => by rw [m5 i]; exact ⟨fun h => h.1, fun h => ⟨h, hall _ (by omega)⟩⟩) hI.bel
  · have hno : ∀ i, L.getD i false = true → False := fun i h => by rw [g2 i (by omega)] at h; cases h
    exact ⟨rfl, hsz, Below.refl _ _, fun h => (hno _ h).elim, fun i _ h => (hno _ h).elim⟩
theorem list14 : ∀ (l : List Value), l.length = 14 → ∃ x0 x1 x2 x3 x4 x5 x6 x7 x8 x9 x10 x11 x12 x13, l = [x0, x1, x2, x3, x4, x5, x6, x7, x8, x9, x10, x11, x12, x13]
  | [x0, x1, x2, x3, x4, x5, x6, x7, x8, x9, x10, x11, x12, x13], _ => ⟨x0, x1, x2, x3, x4, x5, x6, x7, x8, x9, x10, x11, x12, x13, rfl⟩
set_option maxRecDepth 100000 in
theorem goal_kinds (w : World) : Calls Try.prog 62 #[] w fun e w' => ∃ b, e = .returned (.map (some b)) ∧ w.heap.size ≤ b ∧ KMap w' b ∧ Below w.heap.size w w' := by
  go_enter Try.func62, Try.ntmps62
  go_wp2
  refine wp_region_rest (by kernel_rfl) ?_
  refine rest_kinds (by kernel_rfl) (by kernel_rfl) (by decide) rfl (fun i hi => ?_) (fun i hi => ?_) (fun i hi => ?_) rfl ?_
  · have h : i = 0 ∨ i = 1 ∨ i = 2 ∨ i = 3 ∨ i = 4 ∨ i = 5 ∨ i = 6 ∨ i = 7 ∨ i = 8 ∨ i = 9 ∨ i = 10 := by omega
    rcases h with rfl | rfl | rfl | rfl | rfl | rfl | rfl | rfl | rfl | rfl | rfl <;> rfl
  · have h : i = 0 ∨ i = 1 ∨ i = 2 ∨ i = 3 ∨ i = 4 ∨ i = 5 ∨ i = 6 ∨ i = 7 ∨ i = 8 ∨ i = 9 ∨ i = 10 := by omega
    rcases h with rfl | rfl | rfl | rfl | rfl | rfl | rfl | rfl | rfl | rfl | rfl <;> rfl
  · have h : i = 0 ∨ i = 1 ∨ i = 2 ∨ i = 3 ∨ i = 4 ∨ i = 5 ∨ i = 6 ∨ i = 7 ∨ i = 8 ∨ i = 9 ∨ i = 10 := by omega
    rcases h with rfl | rfl | rfl | rfl | rfl | rfl | rfl | rfl | rfl | rfl | rfl <;> exact ⟨by decide +kernel, by decide +kernel⟩
  · intro a u b hd hs h1 h2 hk hb
    have HK := Lib.hid hk
    have HB := Lib.hid (show Below w.heap.size w u from (show Below w.heap.size w w.drew from (Below.refl _ _).drew).trans hb)
    have HL := Lib.hid h2
    obtain ⟨⟨tm⟩, df⟩ := a
    obtain ⟨x0, x1, x2, x3, x4, x5, x6, x7, x8, x9, x10, x11, x12, x13, rfl⟩ := list14 tm (by simpa using hs)
    simp only at hd
    subst hd
    obtain rfl : x1 = .map (some b) := by simpa using h1
    clear hk hb h1 h2 hs
    refine rest_lineL 23 25 [_, _] rfl (by kernel_rfl) (by decide) (by decide) (by kernel_rfl) ?_
    go_wp2
    refine then_rest (rest_end (by decide) ?_)
    go_wp2
    go_ret
    exact ⟨b, rfl, HL.out, HK.out, HB.out⟩
end Go.Proofs.Ytmlceamcpelklaa.Tms
