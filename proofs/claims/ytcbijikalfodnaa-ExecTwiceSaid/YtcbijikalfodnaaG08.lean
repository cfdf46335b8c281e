/-
  Layer texts, glued and made small.
-/
import Derived.Test.YtcbijikalfodnaaG07
import Derived.Laws.Cover1
set_option linter.unusedVariables false
set_option linter.unusedSimpArgs false
set_option maxRecDepth 100000
set_option maxHeartbeats 200000
namespace Go.Proofs.Ytcbijikalfodnaa.Rws
open Go Go.RowKit
section
variable {α : Type} {K : Kind α}
theorem Each.get {w : World} {P : Nat → Prop} : ∀ {xss : List (List Value)} {l : List α}, Each K w P xss l → ∀ i (h : i < l.length), ∃ cs, xss[i]? = some cs ∧ K.R w P cs l[i]
 | [], [], _, i, h => by simp at h
 | x :: xss, a :: l, h, 0, _ => ⟨x, rfl, h.1⟩
 | x :: xss, a :: l, h, i + 1, hi => by
   obtain ⟨cs, e, hr⟩ := Each.get h.2 i (by simpa using hi); exact ⟨cs, by simpa using e, by simpa using hr⟩
 | [], _ :: _, h, _, _ => h.elim
 | _ :: _, [], h, _, _ => h.elim
theorem Each.flatAt {w : World} {P : Nat → Prop} : ∀ {xss : List (List Value)} {l : List α}, Each K w P xss l → ∀ i cs, xss[i]? = some cs → ∀ j, j < K.sz → xss.flatten[i * K.sz + j]? = cs[j]?
 | [], [], _, i, cs, e, _, _ => by simp at e
 | x :: xss, a :: l, h, 0, cs, e, j, hj => by
   obtain rfl : x = cs := by simpa using e
   have hl := K.len h.1; simp only [List.flatten_cons, Nat.zero_mul, Nat.zero_add]; rw [List.getElem?_append_left (by omega)]
 | x :: xss, a :: l, h, i + 1, cs, e, j, hj => by
   have hl := K.len h.1; have := Each.flatAt h.2 i cs (by simpa using e) j hj; simp only [List.flatten_cons]; rw [Nat.add_mul, Nat.one_mul, List.getElem?_append_right (by omega), ← this]
   congr 1
   omega
 | [], _ :: _, h, _, _, _, _, _ => h.elim
 | _ :: _, [], h, _, _, _, _, _ => h.elim
theorem Each.setAt {w : World} {P : Nat → Prop} {a' : α} {u : Value} : ∀ {xss : List (List Value)} {l : List α}, Each K w P xss l → ∀ i cs, xss[i]? = some cs → ∀ j, j < K.sz → K.R w P (cs.set j u) a' →
 ∃ yss, Each K w P yss (l.set i a') ∧ yss.flatten = xss.flatten.set (i * K.sz + j) u
 | [], [], _, i, cs, e, _, _, _ => by simp at e
 | x :: xss, a :: l, h, 0, cs, e, j, hj, hr => by
   obtain rfl : x = cs := by simpa using e
   have hl := K.len h.1; refine ⟨x.set j u :: xss, ⟨hr, h.2⟩, ?_⟩; simp only [List.flatten_cons, Nat.zero_mul, Nat.zero_add]; rw [List.set_append_left _ _ (by omega)]
 | x :: xss, a :: l, h, i + 1, cs, e, j, hj, hr => by
   have hl := K.len h.1; obtain ⟨yss, h1, h2⟩ := Each.setAt h.2 i cs (by simpa using e) j hj hr; refine ⟨x :: yss, ⟨h.1, h1⟩, ?_⟩; simp only [List.flatten_cons, h2]; rw [Nat.add_mul, Nat.one_mul, List.set_append_right _ _ (by omega)]
   congr 2
   omega
 | [], _ :: _, h, _, _, _, _, _, _ => h.elim
 | _ :: _, [], h, _, _, _, _, _, _ => h.elim
theorem Each.takeN {w : World} {P : Nat → Prop} : ∀ {xss : List (List Value)} {l : List α}, Each K w P xss l → ∀ n, Each K w P (xss.take n) (l.take n) ∧ (xss.take n).flatten = xss.flatten.take (n * K.sz)
 | [], [], _, n => by simp [Each]
 | x :: xss, a :: l, h, 0 => by simp [Each]
 | x :: xss, a :: l, h, n + 1 => by
   have hl := K.len h.1; obtain ⟨h1, h2⟩ := Each.takeN h.2 n; refine ⟨⟨h.1, h1⟩, ?_⟩; simp only [List.take_succ_cons, List.flatten_cons, h2]; rw [Nat.add_mul, Nat.one_mul, List.take_append, List.take_of_length_le (l := x) (by omega), show n * K.sz + K.sz - x.length = n * K.sz by omega]
 | [], _ :: _, h, _ => h.elim
 | _ :: _, [], h, _ => h.elim
theorem Own.elem {w : World} {base g n cap : Nat} {P : Nat → Prop} {l : List α} (h : Own K w base P (.slice (some ⟨g, 0, none⟩) n cap) l) (hn : l.length = n) (i : Nat) (hi : i < l.length) :
 ∃ cs, K.R w (fun b => P b ∧ g ≠ b ∧ b < w.heap.size) cs l[i] ∧ ∀ j, j < K.sz → w.cell? ⟨g, i * K.sz + j, none⟩ = cs[j]? := by
 obtain ⟨xss, h1, h2⟩ := h; obtain ⟨cs, e, hr⟩ := h2.get i hi; refine ⟨cs, K.mono (fun b hb => ⟨hb.1, fun e => hb.2.1 (by simp [Value.ownBlock, e]), hb.2.2⟩) (fun _ _ _ => rfl) hr, fun j hj => ?_⟩; rw [hn] at h1
 have hlt : i * K.sz + j < n * K.sz := by
  have : (i + 1) * K.sz ≤ n * K.sz := Nat.mul_le_mul_right _ (by omega); rw [Nat.add_mul, Nat.one_mul] at this; omega
 rw [h1.cellAt _ hlt]; exact h2.flatAt i cs e j hj
theorem Own.thaw {w : World} {base g n cap : Nat} {P : Nat → Prop} {l : List α} (h : Own K w base P (.slice (some ⟨g, 0, none⟩) n cap) l) (hn : l.length = n) (j : Nat) : w.frozen? ⟨g, j, none⟩ = false := by
 obtain ⟨xss, h1, h2⟩ := h; rw [hn] at h1; exact h1.frozenAt j
theorem Own.caps {w : World} {base g n cap : Nat} {P : Nat → Prop} {l : List α} (h : Own K w base P (.slice (some ⟨g, 0, none⟩) n cap) l) : n ≤ cap ∧ cap ≤ maxLen := by
 obtain ⟨xss, ⟨-, h1⟩, -⟩ := h; rcases h1 with ⟨e, -⟩ | ⟨g', cap', cur, e, -, -, h2, h3, -⟩
 ·cases e
 ·simp only [Value.slice.injEq] at e
  obtain ⟨-, rfl, rfl⟩ := e; exact ⟨h2, h3⟩
theorem Own.stored {w : World} {base g n cap : Nat} {P : Nat → Prop} {l : List α} (h : Own K w base P (.slice (some ⟨g, 0, none⟩) n cap) l) (hn : l.length = n) (i : Nat) (hi : i < l.length) (j : Nat) (hj : j < K.sz) (u : Value) (a' : α)
 (hr : ∀ cs, K.R w (fun b => P b ∧ (Value.slice (some ⟨g, 0, none⟩) n cap).ownBlock ≠ some b ∧ b < w.heap.size) cs l[i] → K.R w (fun b => P b ∧ (Value.slice (some ⟨g, 0, none⟩) n cap).ownBlock ≠ some b ∧ b < w.heap.size) (cs.set j u) a') : Own K (w.setCell ⟨g, i * K.sz + j, none⟩ u) base P (.slice (some ⟨g, 0, none⟩) n cap) (l.set i a') := by
 obtain ⟨xss, h1, h2⟩ := h; obtain ⟨cs, e, hr0⟩ := h2.get i hi; obtain ⟨yss, h3, h4⟩ := h2.setAt i cs e j hj (hr _ hr0); rw [hn] at h1; have hs := h1.stored (i * K.sz + j) u; refine ⟨yss, ?_, h3.mono (fun b hb => ⟨hb.1, hb.2.1, by simpa [World.setCell] using hb.2.2⟩) fun b hb hlt => Below.heap_setCell _ _ _ _ (fun e => hb.2.1 (by simp [Value.ownBlock, e]))⟩; rw [List.length_set, hn, h4]; exact hs.1
theorem Own.cut {w : World} {base g n cap m : Nat} {P : Nat → Prop} {l : List α} (h : Own K w base P (.slice (some ⟨g, 0, none⟩) n cap) l) (hn : l.length = n) (hm : m ≤ n) : Own K w base P (.slice (some ⟨g, 0, none⟩) m cap) (l.take m) := by
 obtain ⟨xss, ⟨h0, h1⟩, h2⟩ := h; obtain ⟨h3, h4⟩ := h2.takeN m; have hlen : (l.take m).length = m := by simp; omega
 refine ⟨xss.take m, ⟨by rw [h4, hlen, List.length_take, h0, hn]; exact Nat.min_eq_left (Nat.mul_le_mul_right _ hm), ?_⟩, h3.mono (fun b hb => ⟨hb.1, fun e => hb.2.1 (by simpa [Value.ownBlock] using e), hb.2.2⟩) fun _ _ _ => rfl⟩; rcases h1 with ⟨e, -⟩ | ⟨g', cap', cur, e, hb, hg, hc, hm', hs, ht⟩
 ·cases e
 ·right
  simp only [Value.slice.injEq, Option.some.injEq, Addr.mk.injEq, and_true] at e; obtain ⟨rfl, e2, rfl⟩ := e; refine ⟨g, cap, cur, by rw [hlen], hb, hg, by omega, hm', hs, ?_⟩; rw [hlen, h4, ← ht, List.take_take, Nat.min_eq_left]; rw [hn]; exact Nat.mul_le_mul_right _ hm
end
end Go.Proofs.Ytcbijikalfodnaa.Rws
namespace Go.Proofs.Ytcbijikalfodnaa.Tms
open Go Go.RowKit Go.Proofs.Ytcbijikalfodnaa.Reg
def placeI (L : List Int) (n : Int) : Int := match place L n with
 | some p => (p : Int)
 | none => -1
def NoPl (L : List Int) (n : Int) (k : Nat) : Prop := ∀ i (h : i < L.length), i < k → L[i] ≠ n
def PlRel (L : List Int) (n : Int) (w : World) (vi : Value) (wr : World) : Prop := ∃ k : Nat, k ≤ L.length ∧ vi = .int .i64 k ∧ NoPl L n k ∧ w = wr
mutual
def nfT : Tm → Bool
 | .mk k n s a => (if k ≤ 2 then a.length == 0 && s.data.toList == [] else n == 0) && nfL a
def nfL : List Tm → Bool
 | [] => true
 | t :: l => nfT t && nfL l
end
mutual
theorem mend_nf : ∀ t : Tm, nfT (mendT t) = true
 | .mk k n s a => by
   have hl := mendL_nf a; unfold mendT
   repeat' split
   all_goals simp [nfT, nfL, atomA, atomT, hl]
theorem mendL_nf : ∀ l : List Tm, nfL (mendL l) = true
 | [] => by simp [mendL, nfL]
 | t :: l => by simp [mendL, nfL, mend_nf t, mendL_nf l]
end
mutual
def rvT : Tm → List Int
 | .mk k n _ a => if k = 1 then [n] else rvL [] a
def rvL : List Int → List Tm → List Int
 | L, [] => L
 | L, t :: l => rvL ((rvT t).foldl numL L) l
end
theorem fold_len : ∀ (X L : List Int), (X.foldl numL L).length ≤ L.length + X.length
 | [], L => by simp
 | x :: X, L => by
   have h1 := fold_len X (numL L x); have h2 := numL_len L x; simp only [List.foldl_cons, List.length_cons]; omega
mutual
theorem rvT_len : ∀ t : Tm, (rvT t).length ≤ t.size
 | .mk k n s a => by
   have h := rvL_len [] a; rw [rvT]; simp only [Tm.size]
   split
   ·simp
   ·simp only [List.length_nil, Nat.zero_add] at h; omega
theorem rvL_len : ∀ (M : List Int) (l : List Tm), (rvL M l).length ≤ M.length + sizeL l
 | M, [] => by simp [rvL, sizeL]
 | M, t :: l => by
   have h1 := rvL_len ((rvT t).foldl numL M) l; have h2 := rvT_len t; have h3 := fold_len (rvT t) M; rw [rvL]; simp only [sizeL]; omega
end
theorem place_mem : ∀ {L : List Int} {n : Int}, (place L n).isSome = true ↔ n ∈ L
 | [], n => by simp [place]
 | x :: L, n => by
   unfold place
   split
   ·rename_i e; simp [e]
   ·rename_i e; rw [Option.isSome_map, place_mem]; simp [e]
theorem numL_in {L : List Int} {n : Int} (h : n ∈ L) : numL L n = L := by unfold numL; rw [if_pos (place_mem.2 h)]
theorem numL_out {L : List Int} {n : Int} (h : n ∉ L) : numL L n = L ++ [n] := by unfold numL; rw [if_neg fun e => h (place_mem.1 e)]
theorem mem_numL {L : List Int} {n y : Int} (h : y ∈ L) : y ∈ numL L n := by unfold numL; split; exact h; exact List.mem_append_left _ h
theorem self_numL (L : List Int) (n : Int) : n ∈ numL L n := by
 by_cases h : n ∈ L
 ·rw [numL_in h]; exact h
 ·rw [numL_out h]; simp
theorem mem_fold : ∀ {X L : List Int} {y : Int}, y ∈ L ∨ y ∈ X → y ∈ X.foldl numL L
 | [], L, y, h => by simpa using h
 | x :: X, L, y, h => by
   rw [List.foldl_cons]
   apply mem_fold
   rcases h with h | h
   ·exact .inl (mem_numL h)
   ·rcases List.mem_cons.1 h with rfl | h
    ·exact .inl (self_numL _ _)
    ·exact .inr h
theorem fold_num (L M : List Int) (x : Int) : (numL M x).foldl numL L = numL (M.foldl numL L) x := by
 by_cases h : x ∈ M
 ·rw [numL_in h, numL_in (mem_fold (.inr h))]
 ·rw [numL_out h, List.foldl_append]; rfl
theorem fold_fold : ∀ (X L M : List Int), (X.foldl numL M).foldl numL L = X.foldl numL (M.foldl numL L)
 | [], L, M => rfl
 | x :: X, L, M => by
   rw [List.foldl_cons, List.foldl_cons, fold_fold X, fold_num]
mutual
theorem parts_rv : ∀ (t : Tm) (d : Int) (L : List Int), nfT t = true → (parts d t).foldl takeL L = (rvT t).foldl numL L
 | .mk k n s a, d, L, h => by
   rw [parts, rvT, List.foldl_cons]
   by_cases hk : k = 1
   ·have ha : a = [] := by
     simp only [nfT, Bool.and_eq_true] at h; subst hk
     simp at h
     exact h.1.1
    subst ha; rw [if_pos hk]
    simp [takeL, Tm.k, Tm.n, hk, partsL]
   ·have h2 : nfL a = true := by
     simp only [nfT, Bool.and_eq_true] at h; exact h.2
    rw [if_neg hk]; have := partsL_rv a (d + 1) L [] h2; rw [List.foldl_nil] at this; have e : takeL L (Tm.mk k n s a, d) = L := by simp [takeL, Tm.k, hk]
    rw [e, this]
theorem partsL_rv : ∀ (l : List Tm) (d : Int) (L M : List Int), nfL l = true → (partsL d l).foldl takeL (M.foldl numL L) = (rvL M l).foldl numL L
 | [], d, L, M, h => by simp [partsL, rvL]
 | t :: l, d, L, M, h => by
   simp only [nfL, Bool.and_eq_true] at h; rw [partsL, rvL, List.foldl_append, parts_rv t d _ h.1, ← fold_fold, partsL_rv l d L _ h.2]
end
mutual
def rrT (L : List Int) : Tm → Tm
 | .mk k n s a => if k = 1 then .mk 1 (placeI L n) ⟨#[]⟩ [] else .mk k n s (rrL L a)
def rrL (L : List Int) : List Tm → List Tm
 | [] => []
 | t :: l => rrT L t :: rrL L l
end
theorem rvL_mem : ∀ (l : List Tm) (M : List Int) (y : Int), y ∈ M → y ∈ rvL M l
 | [], M, y, h => h
 | t :: l, M, y, h => by rw [rvL]; exact rvL_mem l _ y (mem_fold (.inl h))
theorem num_place {L : List Int} {n : Int} (h : n ∈ L) : (numP L n : Int) = placeI L n := by
 have := place_mem.2 h; unfold numP placeI; cases hp : place L n with
 | none => rw [hp] at this; cases this
 | some p => rfl
mutual
theorem ren_rr (L : List Int) : ∀ t : Tm, nfT t = true → (∀ y ∈ rvT t, y ∈ L) → renT (fun n => (numP L n : Int)) t = rrT L t
 | .mk k n s a, h, hv => by
   rw [renT, rrT]
   by_cases hk : k = 1
   ·have ha : a = [] ∧ s.data.toList = [] := by
     simp only [nfT, Bool.and_eq_true] at h; subst hk
     simp at h
     exact ⟨h.1.1, by rw [h.1.2]⟩
    obtain ⟨rfl, hs⟩ := ha; obtain ⟨⟨sl⟩⟩ := s; simp only at hs; subst hs; have hn : n ∈ L := hv n (by rw [rvT, if_pos hk]; simp); rw [if_pos hk, if_pos hk, num_place hn, hk, renL]
   ·have h2 : nfL a = true := by
     simp only [nfT, Bool.and_eq_true] at h; exact h.2
    rw [if_neg hk, if_neg hk, renL_rr L a [] h2 fun y hy => hv y (by rw [rvT, if_neg hk]; exact hy)]
theorem renL_rr (L : List Int) : ∀ (l : List Tm) (M : List Int), nfL l = true → (∀ y ∈ rvL M l, y ∈ L) → renL (fun n => (numP L n : Int)) l = rrL L l
 | [], M, h, hv => by rw [renL, rrL]
 | t :: l, M, h, hv => by
   simp only [nfL, Bool.and_eq_true] at h; rw [renL, rrL, ren_rr L t h.1 fun y hy => hv y (by rw [rvL]; exact rvL_mem l _ y (mem_fold (.inr hy))), renL_rr L l _ h.2 fun y hy => hv y (by rw [rvL]; exact hy)]
end
end Go.Proofs.Ytcbijikalfodnaa.Tms
namespace Go.Proofs.Ytcbijikalfodnaa.Tms
open Go Go.RowKit Go.Proofs.Ytcbijikalfodnaa.Reg Go.Proofs.Ytcbijikalfodnaa.Rws
theorem IntSl.imp {w w' : World} {P P' : Nat → Prop} {v : Value} {L : List Int} (h : IntSl w P v L) (hs : w.heap.size ≤ w'.heap.size) (hP : ∀ b, P b → b < w.heap.size → P' b) (hw : ∀ b, P b → b < w.heap.size → w'.heap[b]? = w.heap[b]?) : IntSl w' P' v L := by
 obtain ⟨a, cap, e, h1, h2, h3⟩ := h; refine ⟨a, cap, e, h1, h2, fun i hi => ?_⟩; obtain ⟨b, off, e, hp, hl, hc⟩ := h3 i hi; exact ⟨b, off, e, hP b hp hl, by omega, (World.cell?_of_block (a := ⟨b, off + i, none⟩) (hw b hp hl)).trans hc⟩
end Go.Proofs.Ytcbijikalfodnaa.Tms
namespace Go.Proofs.Ytcbijikalfodnaa.Rws
open Go Go.RowKit
theorem append_blockN {P : Program} {w : World} (base : Nat) (t ty e : TypeId) (i : TypeInfo) (z : Value) (size bytes : Nat) (ht : P.underlying t = some (.slice e)) (hi : P.info? e = some i) (hz : i.zero = some z) (hsize : i.size = size) (hby : i.bytes = bytes)
 (v : Value) (n : Nat) (xs : List Value) (hown : w.ownsRow base e size v n xs) (a : Addr) (m c : Nat) (news : List Value) (hm : 0 < m) (hl : news.length = m * size) (hnews : ∀ j u, news[j]? = some u → w.cell? (a.add j) = some u) (h1 : ∀ u ∈ news, u.oneCell' = true)
 (h63 : n + m ≤ maxLen) (hbytes : (n + m) * bytes ≤ 140737488355328) {v' : Value} {w' : World} (hr : (Builtin.append_ #[t, t] ty #[v, .slice (some a) m c]).run P w = .ok v' w') :
 ∀ k, v'.ownBlock = some k → v.ownBlock = some k ∨ w.heap.size ≤ k := by
 subst hsize; subst hby; have hsmall : n + m ≤ 9223372036854775807 := by simp only [maxLen] at h63; omega
 rcases hown.2 with ⟨rfl, rfl⟩ | ⟨g, cap, cur, rfl, hbg, hg, hnc, hcm, hcs, htake⟩
 ·rw [run_append_nil (P := P) w t ty e i z ht hi hz a m c news hl hnews hm (by omega) (by have hb := hbytes; simp only [Nat.zero_add] at hb; omega)] at hr
  simp only [Result.ok.injEq] at hr; obtain ⟨rfl, -⟩ := hr; intro k hk
  simp [Value.ownBlock] at hk
  omega
 ·by_cases hroom : n + m ≤ cap
  ·have hfit : n * i.size + news.length ≤ cur.size := by
    have h2 : (n + m) * i.size ≤ cap * i.size := Nat.mul_le_mul_right _ hroom; rw [Nat.add_mul] at h2; omega
   rw [run_append_room (P := P) w t ty e i ht hi g n cap cur hg a m c news hl hnews h1 hroom hfit] at hr; simp only [Result.ok.injEq] at hr; obtain ⟨rfl, -⟩ := hr; intro k hk; exact .inl hk
  ·rw [run_append_grow (P := P) w t ty e i z ht hi hz ⟨g, 0, none⟩ n cap xs hown.1 (hown.cells (g := g) rfl) a m c news hl hnews (by omega) (by omega) (growslice_fits (by omega) hbytes)] at hr
   simp only [Result.ok.injEq] at hr; obtain ⟨rfl, -⟩ := hr; intro k hk
   simp [Value.ownBlock] at hk
   omega
section
variable {α : Type} {K : Kind α}
theorem Each.app {w : World} {P : Nat → Prop} : ∀ {xss yss : List (List Value)} {l m : List α}, Each K w P xss l → Each K w P yss m → Each K w P (xss ++ yss) (l ++ m)
 | [], _, [], _, _, h => h
 | _ :: _, _, _ :: _, _, h, h' => ⟨h.1, Each.app h.2 h'⟩
 | [], _, _ :: _, _, h, _ => h.elim
 | _ :: _, _, [], _, h, _ => h.elim
theorem Each.ones {w : World} {P : Nat → Prop} : ∀ {xss : List (List Value)} {l : List α}, Each K w P xss l → ∀ v ∈ xss.flatten, v.oneCell' = true
 | [], [], _ => by simp
 | cs :: xss, a :: l, h => by
   intro v hv; simp only [List.flatten_cons, List.mem_append] at hv; rcases hv with hv | hv
   ·exact K.one h.1 v hv
   ·exact Each.ones h.2 v hv
 | [], _ :: _, h => h.elim
 | _ :: _, [], h => h.elim
theorem Each.low {w : World} {P : Nat → Prop} : ∀ {xss : List (List Value)} {l : List α}, Each K w P xss l → Each K w (fun b => P b ∧ b < w.heap.size) xss l
 | [], [], _ => trivial
 | _ :: _, _ :: _, h => ⟨K.lt h.1, Each.low h.2⟩
 | [], _ :: _, h => h.elim
 | _ :: _, [], h => h.elim
theorem wpList_putN {Q : Program} {w : World} {ops : Array Oper} {rest : List Oper} {o : Oper} {a : Act} {E : Exit → Act → World → Prop} (hgd : o.guard = none) (s x : Operand) (t : TypeId)
 (ho : o.op = .call { callee := .builtin .append, args := #[s, x], argTypes := #[t, t] }) (ht : Q.underlying t = some (.slice K.T)) {z : Value} {bytes : Nat} (hi : (Q.info? K.T).map (fun i => (i.zero, i.size, i.bytes)) = some (some z, K.sz, bytes)) (hz : z.cells.size = K.sz)
 (base : Nat) (P : Nat → Prop) (v : Value) (l : List α) (yss : List (List Value)) (m : List α) (ad : Addr) (c : Nat) (hs : a.eval s = v) (hown : Own K w base P v l) (hx : a.eval x = .slice (some ad) m.length c)
 (hnews : ∀ j u, yss.flatten[j]? = some u → w.cell? (ad.add j) = some u) (hm : 0 < m.length)
 (hy : Each K w (fun b => P b ∧ v.ownBlock ≠ some b) yss m) (h63 : l.length + m.length ≤ maxLen) (hlen : (l.length + m.length) * bytes ≤ 140737488355328) (hbase : base ≤ w.heap.size)
 (h : ∀ v' w', Own K w' base P v' (l ++ m) → Below base w w' → w.grownBy w' v.ownBlock → (∀ k, v'.ownBlock = some k → v.ownBlock = some k ∨ w.heap.size ≤ k) → wpList Q ops E rest (a.put o.dst v') w') : wpList Q ops E (o :: rest) a w := by
 obtain ⟨i0, hi, hz0, hz1, hz2⟩ := info_parts hi; obtain ⟨xss, h1, h2⟩ := id hown; refine wpList_plain hgd fun K' hK => ?_
 obtain ⟨v', w', hr, hown', hgr, -⟩ := run_append_own (P := Q) w base t o.type K.T i0 z K.sz bytes ht hi hz0 hz1 hz2 hz K.pos v l.length xss.flatten h1 ad m.length c yss.flatten hy.flat hnews hy.ones h63 hlen hbase; have hv := append_blockN (P := Q) base t o.type K.T i0 z K.sz bytes ht hi hz0 hz1 hz2 v l.length xss.flatten h1 ad m.length c yss.flatten hm hy.flat hnews hy.ones h63 hlen hr; unfold Oper.wp execOp; simp only [ho, resolve, invoke, builtin, Sem.run_bind, Sem.run_pure, Result.andThen_ok, List.map_toArray, List.map_cons, List.map_nil, hs, hx, hr]; refine hK _ _ (h v' w' ?_ ?_ hgr hv)
 ·have hsz : w.heap.size ≤ w'.heap.size := hgr.size
  have hblk : ∀ b, b < w.heap.size → v.ownBlock ≠ some b → w'.heap[b]? = w.heap[b]? := fun b hb hne => hgr.block b hb fun e => hne e.symm
  have hne : ∀ b, b < w.heap.size → v.ownBlock ≠ some b → v'.ownBlock ≠ some b := fun b hb h e => by
   rcases hv b e with h' | h'
   ·exact h h'
   ·omega
  have hy' : Each K w (fun b => P b ∧ v.ownBlock ≠ some b ∧ b < w.heap.size) yss m := (Each.low hy).mono (fun b h => ⟨h.1.1, h.1.2, h.2⟩) fun _ _ _ => rfl
  exact ⟨xss ++ yss, by simpa using hown', ((h2.app hy')).mono (fun b h => ⟨h.1, hne b h.2.2 h.2.1, by omega⟩) fun b h _ => hblk b h.2.2 h.2.1⟩
 ·exact (Below.refl base w).grown hgr hbase fun k e => (h1.lt k e).1
end
end Go.Proofs.Ytcbijikalfodnaa.Rws
namespace Go.Proofs.Ytcbijikalfodnaa.Tms
open Go Go.RowKit Go.Proofs.Ytcbijikalfodnaa.Rws
def tmKind : Rws.Kind Tm where
 T := 49
 sz := 4
 R := fun w P cs a => ∃ q c, cs = [.int .i64 a.k, .int .i64 a.n, .string a.s, .slice q a.args.length c] ∧ ArgsFrom w P q 0 a.args
 pos := by decide
 len := by rintro w P cs a ⟨q, c, rfl, -⟩; rfl
 one := by
  rintro w P cs a ⟨q, c, rfl, -⟩ v hv; simp only [List.mem_cons, List.not_mem_nil, or_false] at hv; rcases hv with rfl | rfl | rfl | rfl <;> rfl
 mono := by rintro w w' P P' cs a hP hw ⟨q, c, rfl, h⟩; exact ⟨q, c, rfl, ArgsFrom.imp hP hw _ _ _ h⟩
 lt := by rintro w P cs a ⟨q, c, rfl, h⟩; exact ⟨q, c, rfl, ArgsFrom.lt _ _ _ h⟩
theorem IsTm.cells {w : World} {P : Nat → Prop} {k n : Int} {s : ByteArray} {a : Option Addr} {len cap : Nat} {t : Tm} (h : IsTm w P (.agg #[.int .i64 k, .int .i64 n, .string s, .slice a len cap]) t) : tmKind.R w P [.int .i64 k, .int .i64 n, .string s, .slice a len cap] t := by
 obtain ⟨a', cap', e, h⟩ := h
 simp at e
 obtain ⟨rfl, rfl, rfl, rfl, rfl, rfl⟩ := e; exact ⟨a, cap, rfl, h⟩
theorem Own.mono {α : Type} {K : Rws.Kind α} {w : World} {base : Nat} {P P' : Nat → Prop} {v : Value} {l : List α} (h : Own K w base P v l) (hP : ∀ b, P b → b < w.heap.size → P' b) : Own K w base P' v l := by
 obtain ⟨xss, h1, h2⟩ := h; exact ⟨xss, h1, h2.mono (fun b h => ⟨hP b h.1 h.2.2, h.2⟩) fun _ _ _ => rfl⟩
def zeroTm : Tm := .mk 0 0 ⟨#[]⟩ []
end Go.Proofs.Ytcbijikalfodnaa.Tms
