/-
  Layer texts, glued and made small.
-/
import Derived.Test.YtcbijikalfodnaaG08
set_option linter.unusedVariables false
set_option linter.unusedSimpArgs false
set_option maxRecDepth 100000
set_option maxHeartbeats 8000000
namespace Go.Proofs.Ytcbijikalfodnaa.Tms
open Go Go.RowKit Go.Proofs.Ytcbijikalfodnaa.Reg Go.Proofs.Ytcbijikalfodnaa.Rws Go.Proofs.Ytcbijikalfodnaa.Maps
structure StoIn (S : Sto) : Prop where
 small : S.cells.length ≤ 20000000
 ch : ∀ x, x < S.cells.length → ∃ f r, Ch S f x r
 args : ∀ c ∈ S.cells, c.args.length ≤ 1000000 ∧ ∀ a ∈ c.args, 0 ≤ a ∧ a < S.cells.length
open Classical in
noncomputable def fol (S : Sto) (x : Nat) : Nat := if h : ∃ r f, Ch S f x r then h.choose else x
theorem fol_eq {S : Sto} {f x r : Nat} (h : Ch S f x r) : fol S x = r := by
 unfold fol; rw [dif_pos ⟨r, f, h⟩]; obtain ⟨f', h'⟩ := (⟨r, f, h⟩ : ∃ r f, Ch S f x r).choose_spec; exact h'.same h
def zeroCell : SCell := ⟨0, 0, ⟨#[]⟩, [], -1, -1⟩
noncomputable def cellF (S : Sto) (x : Nat) : SCell := (S.cells[fol S x]?).getD zeroCell
theorem StoIn.fol {S : Sto} (h : StoIn S) {x : Nat} (hx : x < S.cells.length) : ∃ f, Ch S f x (fol S x) ∧ S.cells[fol S x]? = some (cellF S x) := by
 obtain ⟨f, r, hc⟩ := h.ch x hx; have e := fol_eq hc; have hr := hc.end_.1; refine ⟨f, by rw [e]; exact hc, ?_⟩; unfold cellF; rw [e, List.getElem?_eq_getElem hr]; rfl
def withArgs (t : Tm) (l : List Tm) : Tm := .mk t.k t.n t.s l
def gStep (g : Nat → Nat → Tm × Int × Nat) (st : List Tm × Int × Nat) (a : Int) : List Tm × Int × Nat :=
 if st.2.1 ≠ 0 then st else if (g a.toNat st.2.2).2.1 = 0 then (st.1 ++ [(g a.toNat st.2.2).1], 0, (g a.toNat st.2.2).2.2) else (st.1, (g a.toNat st.2.2).2.1, (g a.toNat st.2.2).2.2)
noncomputable def getG (S : Sto) : Nat → Nat → Nat → Tm × Int × Nat
 | 0, _, n => (zeroTm, 4, n)
 | f + 1, x, n => if 20000 < n + 1 then (zeroTm, 3, n + 1) else
     if ((cellF S x).args.foldl (gStep (getG S f)) ([], 0, n + 1)).2.1 ≠ 0 then (zeroTm, ((cellF S x).args.foldl (gStep (getG S f)) ([], 0, n + 1)).2.1, ((cellF S x).args.foldl (gStep (getG S f)) ([], 0, n + 1)).2.2)
     else (withArgs (shellC (fol S x) (cellF S x)) ((cellF S x).args.foldl (gStep (getG S f)) ([], 0, n + 1)).1, 0, ((cellF S x).args.foldl (gStep (getG S f)) ([], 0, n + 1)).2.2)
theorem gfold_take (g : Nat → Nat → Tm × Int × Nat) (l : List Int) (st : List Tm × Int × Nat) (i : Nat) (hi : i < l.length) : (l.take (i + 1)).foldl (gStep g) st = gStep g ((l.take i).foldl (gStep g) st) l[i] := by
 rw [List.take_succ_eq_append_getElem hi, List.foldl_append]; rfl
theorem gfold_stop (g : Nat → Nat → Tm × Int × Nat) : ∀ (l : List Int) (st : List Tm × Int × Nat), st.2.1 ≠ 0 → l.foldl (gStep g) st = st
 | [], st, h => rfl
 | a :: l, st, h => by
   have e : gStep g st a = st := if_pos h; rw [List.foldl_cons, e, gfold_stop g l st h]
theorem gfold_split (g : Nat → Nat → Tm × Int × Nat) (l : List Int) (st : List Tm × Int × Nat) (i : Nat) (h : ((l.take i).foldl (gStep g) st).2.1 ≠ 0) : l.foldl (gStep g) st = (l.take i).foldl (gStep g) st := by
 conv => lhs; rw [← List.take_append_drop i l, List.foldl_append]
 exact gfold_stop g _ _ h
theorem gStep_ok {g : Nat → Nat → Tm × Int × Nat} {st : List Tm × Int × Nat} {a : Int} (h : st.2.1 = 0) (h2 : (g a.toNat st.2.2).2.1 = 0) : gStep g st a = (st.1 ++ [(g a.toNat st.2.2).1], 0, (g a.toNat st.2.2).2.2) := by
 unfold gStep; rw [if_neg (by simp [h]), if_pos h2]
theorem gStep_bad {g : Nat → Nat → Tm × Int × Nat} {st : List Tm × Int × Nat} {a : Int} (h : st.2.1 = 0) (h2 : (g a.toNat st.2.2).2.1 ≠ 0) : gStep g st a = (st.1, (g a.toNat st.2.2).2.1, (g a.toNat st.2.2).2.2) := by
 unfold gStep; rw [if_neg (by simp [h]), if_neg h2]
theorem gfold_len (g : Nat → Nat → Tm × Int × Nat) : ∀ (l : List Int) (st : List Tm × Int × Nat), (l.foldl (gStep g) st).2.1 = 0 → (l.foldl (gStep g) st).1.length = st.1.length + l.length
 | [], st, h => rfl
 | a :: l, st, h => by
   rw [List.foldl_cons] at h ⊢; rw [gfold_len g l _ h]
   by_cases h1 : st.2.1 = 0
   ·by_cases h2 : (g a.toNat st.2.2).2.1 = 0
    ·rw [gStep_ok h1 h2]; simp; omega
    ·rw [gStep_bad h1 h2] at h
     rw [gfold_stop _ _ _ h2] at h; exact absurd h h2
   ·have e : gStep g st a = st := if_pos h1
    rw [e, gfold_stop _ _ _ h1] at h; exact absurd h h1
theorem gfold_bound {g : Nat → Nat → Tm × Int × Nat} (hg : ∀ x n, n ≤ 20000 → (g x n).2.1 = 0 → (g x n).2.2 ≤ 20000) : ∀ (l : List Int) (st : List Tm × Int × Nat), st.2.2 ≤ 20000 → (l.foldl (gStep g) st).2.1 = 0 → (l.foldl (gStep g) st).2.2 ≤ 20000
 | [], st, h, _ => h
 | a :: l, st, hs, h => by
   rw [List.foldl_cons] at h ⊢
   by_cases h1 : st.2.1 = 0
   ·by_cases h2 : (g a.toNat st.2.2).2.1 = 0
    ·rw [gStep_ok h1 h2] at h ⊢
     exact gfold_bound hg l _ (hg _ _ hs h2) h
    ·rw [gStep_bad h1 h2, gfold_stop _ _ _ h2] at h
     exact absurd h h2
   ·have e : gStep g st a = st := if_pos h1
    rw [e, gfold_stop _ _ _ h1] at h; exact absurd h h1
theorem getG_bound (S : Sto) : ∀ (f x n : Nat), n ≤ 20000 → (getG S f x n).2.1 = 0 → (getG S f x n).2.2 ≤ 20000
 | 0, x, n, hn, h => by simp [getG] at h
 | f + 1, x, n, hn, h => by
   simp only [getG] at h ⊢
   by_cases h1 : 20000 < n + 1
   ·rw [if_pos h1] at h; simp at h
   ·rw [if_neg h1] at h ⊢
    by_cases h2 : ((cellF S x).args.foldl (gStep (getG S f)) ([], 0, n + 1)).2.1 ≠ 0
    ·rw [if_pos h2] at h; exact absurd h h2
    ·rw [if_neg h2] at h ⊢
     exact gfold_bound (getG_bound S f) _ _ (by show n + 1 ≤ 20000; omega) (by simpa using h2)
abbrev gtO (p n : Nat) (kv : Value) : Obj := .cells #[.pointer (some ⟨p, 0, none⟩), .int .i64 n, kv] 110 (0, 0)
def GtPost (gb p : Nat) (kv : Value) (r : Tm × Int × Nat) (w : World) (e : Ending) (w' : World) : Prop :=
 ∃ a c, e = .returned (.tuple #[aggT r.1 a c, .int .i64 r.2.1]) ∧ IsTm w' (fun b => w.heap.size ≤ b) (aggT r.1 a c) r.1 ∧ w'.heap[gb]? = some (gtO p r.2.2 kv) ∧ Keeps w w' (fun b => b = gb)
theorem zero_tm (w : World) (P : Nat → Prop) : IsTm w P (aggT zeroTm none 0) zeroTm := IsTm.mk' (IsSl.nil _ _ _ _)
theorem setRow_keeps {w : World} {g : Nat} (cs : Array Value) {M : Nat → Prop} (hM : M g) : Keeps w (w.setRow g cs) M := ⟨rfl, rfl, rfl, by simp [World.setRow], fun b _ hb => setRow_other w g b cs fun e => hb (e ▸ hM)⟩
theorem gt_bad {gb p rb : Nat} {kv : Value} {r r' : Tm × Int × Nat} {w wr : World} (hr : r = r') (hz : r'.1 = zeroTm) (hk : Keeps w wr (fun b => b = gb)) (hg : wr.heap[gb]? = some (gtO p r'.2.2 kv)) (hrb : rb = w.heap.size) (hne : gb ≠ rb) :
 GtPost gb p kv r w (.returned (.tuple #[.agg #[.int .i64 0, .int .i64 0, .string ⟨#[]⟩, .slice none 0 0], .int .i64 r'.2.1])) (wr.setRow rb #[.int .i64 0, .int .i64 0, .string ⟨#[]⟩, .slice none 0 0]) := by
 subst hr; obtain ⟨t, e, n⟩ := r; dsimp only at hz; subst hz; refine ⟨none, 0, rfl, zero_tm _ _, (setRow_other _ _ _ _ hne).trans hg, hk.trans (setRow_keeps (M := fun b => b = rb) _ rfl) fun b hb => .inr (by omega)⟩
theorem gt_good {gb p rb : Nat} {kv : Value} {t : Tm} {n : Nat} {r : Tm × Int × Nat} {w wr : World} {a : Option Addr} {c : Nat} (hr : r = (t, 0, n)) (hk : Keeps w wr (fun b => b = gb)) (hg : wr.heap[gb]? = some (gtO p n kv)) (hrb : rb = w.heap.size) (hne : gb ≠ rb) (ht : IsTm wr (fun b => w.heap.size ≤ b ∧ b ≠ rb) (aggT t a c) t) :
 GtPost gb p kv r w (.returned (.tuple #[aggT t a c, .int .i64 0])) (wr.setRow rb #[.int .i64 t.k, .int .i64 t.n, .string t.s, .slice a t.args.length c]) := by
 subst hr; exact ⟨a, c, rfl, ht.imp (fun b hb => hb.1) fun b hb _ => setRow_other _ _ _ _ hb.2, (setRow_other _ _ _ _ hne).trans hg, hk.trans (setRow_keeps (M := fun b => b = rb) _ rfl) fun b hb => .inr (by omega)⟩
def GtRel (S : Sto) (D : Nat → Prop) (gb p : Nat) (kv : Value) (f : Nat) (L : List Int) (n0 rb tb g : Nat) (sh : Tm) (w wo : World) (vi : Value) (wr : World) : Prop :=
 ∃ i : Nat, i ≤ L.length ∧ vi = .int .i64 i ∧ ((L.take i).foldl (gStep (getG S f)) ([], 0, n0)).2.1 = 0 ∧ wr.heap[gb]? = some (gtO p ((L.take i).foldl (gStep (getG S f)) ([], 0, n0)).2.2 kv) ∧ Fill wr g L.length (w.heap.size + 1) ((L.take i).foldl (gStep (getG S f)) ([], 0, n0)).1 ∧
   StoAt wr D p S ∧ Keeps wo wr (fun b => b = gb ∨ b = tb) ∧ Keeps w wr (fun b => b = gb) ∧ wr.heap[rb]? = some (.cells #[.int .i64 0, .int .i64 0, .string ⟨#[]⟩, .slice none 0 0] 49 (0, 0)) ∧ wr.heap[tb]? = some (.cells #[.int .i64 sh.k, .int .i64 sh.n, .string sh.s, .slice (some ⟨g, 0, none⟩) L.length L.length] 49 (0, 0))
theorem keeps_cell8 (w : World) (g o : Nat) (v : Value) : Keeps w (w.setCell ⟨g, o, none⟩ v) (fun b => b = g) := ⟨rfl, rfl, rfl, by simp [World.setCell], fun b _ hb => Below.heap_setCell _ _ _ _ hb⟩
theorem StoAt.dl'' {w : World} {D : Nat → Prop} {S : Sto} {p : Nat} (h : StoAt w D p S) : ∀ b, D b → b < w.heap.size := by obtain ⟨cv, bv, A, h⟩ := h; exact h.dl
theorem gt_leaf {gb p rb : Nat} {kv : Value} {t : Tm} {n : Nat} {r : Tm × Int × Nat} {w wr : World} (hr : r = (t, 0, n)) (ha : t.args = []) (hk : Keeps w wr (fun b => b = gb)) (hg : wr.heap[gb]? = some (gtO p n kv)) (hrb : rb = w.heap.size) (hne : gb ≠ rb) :
 GtPost gb p kv r w (.returned (.tuple #[.agg #[.int .i64 t.k, .int .i64 t.n, .string t.s, .slice none 0 0], .int .i64 0])) (wr.setRow rb #[.int .i64 t.k, .int .i64 t.n, .string t.s, .slice none 0 0]) := by
 have e : t.args.length = 0 := by rw [ha]; rfl
 have h := gt_good (a := none) (c := 0) hr hk hg hrb hne (IsTm.mk' (by rw [ha]; exact IsSl.nil _ _ _ _)); unfold aggT at h; rw [e] at h; exact h
theorem gt_step {S : Sto} {D : Nat → Prop} {gb p rb tb g rn : Nat} {kv : Value} {w wo W3 w9 w10 : World} {x y : Obj} (hk9 : Keeps W3 w9 (fun b => b = gb)) (hk10 : Keeps w9 w10 (fun b => b = g)) (hgd : ¬ D gb) (hdb : ∀ b, D b → b < tb) (hgt : tb < g) (hng : g ≠ gb) (hs : StoAt W3 D p S) (hgb : w9.heap[gb]? = some (gtO p rn kv)) (hrb : W3.heap[rb]? = some x) (htb : W3.heap[tb]? = some y)
 (hko : Keeps wo W3 (fun b => b = gb ∨ b = tb)) (hkk : Keeps w W3 (fun b => b = gb)) (hw : rb < tb) (hgo : wo.heap.size ≤ g ∧ w.heap.size ≤ g ∧ gb ≠ tb) (hne : gb ≠ rb) :
 w10.heap[gb]? = some (gtO p rn kv) ∧ StoAt w10 D p S ∧ Keeps w w10 (fun b => b = gb) ∧ Keeps wo w10 (fun b => b = gb ∨ b = tb) ∧ w10.heap[rb]? = some x ∧ w10.heap[tb]? = some y ∧ Keeps W3 w10 (fun b => b = gb ∨ b = g) := by
 have lg := (Array.getElem?_eq_some_iff.1 hgb).1; have lr := (Array.getElem?_eq_some_iff.1 hrb).1; have lt := (Array.getElem?_eq_some_iff.1 htb).1; have z9 := hk9.size; have k := hk9.trans (M' := fun b => b = g) hk10; have k3 : Keeps W3 w10 (fun b => b = gb ∨ b = g) := ⟨hk10.os.trans hk9.os, hk10.tape.trans hk9.tape, hk10.output.trans hk9.output, Nat.le_trans hk9.size hk10.size, fun b hlt hb => (hk10.block b (by omega) fun e => hb (.inr e)).trans (hk9.block b hlt fun e => hb (.inl e))⟩; have at3 : ∀ b, b < W3.heap.size → b ≠ gb → b ≠ g → w10.heap[b]? = W3.heap[b]? := fun b hlt h1 h2 => k3.block b hlt fun e => e.elim h1 h2
 refine ⟨(hk10.block gb lg fun e => hng e.symm).trans hgb, hs.keep k3.size fun b hlt hb => at3 b hlt (fun e => hgd (e ▸ hb)) (by have := hdb b hb; omega), hkk.trans k3 fun b hb => hb.imp id fun e => by omega, hko.trans k3 fun b hb => ?_, (at3 rb lr (fun e => hne e.symm) (by omega)).trans hrb, (at3 tb lt (fun e => hgo.2.2 e.symm) (by omega)).trans htb, k3⟩; rcases hb with hb | hb
 ·exact .inl (.inl hb)
 ·exact .inr (by omega)
theorem gt_start {S : Sto} {D : Nat → Prop} {gb p f nA n1 rb tb g : Nat} {kv : Value} {L : List Int} {sh : Tm} {w wo wA : World} {row : Array Value} (hL : L.length = nA) (hb : Below wo.heap.size wo wA) (htl : tb < wo.heap.size) (hg : g = wo.heap.size) (hrow : wA.heap[g]? = some (.cells row 49 (0, 0))) (hrs : row.size = nA * 4)
 (ht : wA.heap[tb]? = some (.cells #[.int .i64 sh.k, .int .i64 sh.n, .string sh.s, .slice none 0 0] 49 (0, 0))) (hsa : sh.args = []) (hgr : wo.heap[gb]? = some (gtO p n1 kv)) (hs : StoAt wo D p S) (hk : Keeps w wo (fun b => b = gb)) (hr : wo.heap[rb]? = some (.cells #[.int .i64 0, .int .i64 0, .string ⟨#[]⟩, .slice none 0 0] 49 (0, 0)))
 (hd : ∀ b, D b → b < tb) (hwt : w.heap.size < tb) (hrb : rb = w.heap.size) : GtRel S D gb p kv f L n1 rb tb g sh w wo (.int .i64 ((0 : Nat) : Int)) (wA.setCell ⟨tb, 3, none⟩ (.slice (some ⟨g, 0, none⟩) nA nA)) := by
 subst hL; have keep : ∀ b, b ≠ tb → (wA.setCell ⟨tb, 3, none⟩ (.slice (some ⟨g, 0, none⟩) L.length L.length)).heap[b]? = wA.heap[b]? := fun b hb => Below.heap_setCell _ _ _ _ hb
 have hsz : (wA.setCell ⟨tb, 3, none⟩ (.slice (some ⟨g, 0, none⟩) L.length L.length)).heap.size = wA.heap.size := by simp [World.setCell]
 have hgl := (Array.getElem?_eq_some_iff.1 hgr).1; have hrl := (Array.getElem?_eq_some_iff.1 hr).1
 have hgt : gb ≠ tb := fun e => by
  have h := (hb.block gb hgl).trans hgr; rw [e, ht] at h
  simp at h
 have hz := hb.size; have hzw := hk.size; have k1 : Keeps wo (wA.setCell ⟨tb, 3, none⟩ (.slice (some ⟨g, 0, none⟩) L.length L.length)) (fun b => b = gb ∨ b = tb) := (Keeps.of hb).trans (keeps_cell8 wA tb 3 _) fun b hb => .inl (.inr hb)
 refine ⟨0, by omega, rfl, rfl, (keep gb hgt).trans ((hb.block gb hgl).trans hgr), Fill.start ((keep g (by omega)).trans hrow) hrs, ?_, k1, ?_, (keep rb (by omega)).trans ((hb.block rb hrl).trans hr), ?_⟩
 ·exact (hs.below hb).keep (by omega) fun b hlt hd' => keep b (by have := hd b hd'; omega)
 ·exact hk.trans k1 fun b hb => hb.imp id fun e => by omega
 ·have := heap_setCell_same wA tb 3 _ _ (.slice (some ⟨g, 0, none⟩) L.length L.length) ht
  simpa using this
theorem sto_open' {w : World} {D : Nat → Prop} {p : Nat} {S : Sto} (h : StoAt w D p S) (x : Nat) (hx : x < S.cells.length) : ∃ g cap bv A, StoRow w D p S (.slice (some ⟨g, 0, none⟩) S.cells.length cap) bv A := by
 obtain ⟨cv, bv, A, h⟩ := h; obtain ⟨g, cap, av, rfl, -⟩ := h.cell x hx; exact ⟨g, cap, bv, A, h⟩
theorem gt_get (S : Sto) (hin : StoIn S) (D : Nat → Prop) (gb p : Nat) (kv : Value) : ∀ (f x n : Nat) (dp : Int) (w : World), x < S.cells.length → dp + f = 2001 → n ≤ 20000 → f ≤ 2000 → StoAt w D p S → ¬ D gb → w.heap[gb]? = some (gtO p n kv) →
 Calls Try.prog 48 #[.pointer (some ⟨gb, 0, none⟩), .int .i64 x, .int .i64 dp] w (GtPost gb p kv (getG S f x n) w) := by
 intro f
 induction f with
 | zero =>
   intro x n dp w hx hdp hn hf hS hgd hgr; obtain rfl : dp = 2001 := by omega
   have hb0 := below_new w (.cells #[.int .i64 0, .int .i64 0, .string ⟨#[]⟩, .slice none 0 0] 49 (0, 0)); have hn0 := heap_alloc_new w (.cells #[.int .i64 0, .int .i64 0, .string ⟨#[]⟩, .slice none 0 0] 49 (0, 0)); have hgl := (Array.getElem?_eq_some_iff.1 hgr).1; have hne : gb ≠ w.heap.size := by omega
   have HN := Lib.hid hn0; have HG := Lib.hid ((hb0.block _ hgl).trans hgr); have HB := Lib.hid hb0; clear hb0 hn0 hgr hS hgl
   go_enter Try.func48, Try.ntmps48
   go_wp2_with (with_reducible show wpList _ _ _ (⟨none, .store _ (.tmp 6) _, _, _, _, _⟩ :: _) _ _
                refine wpList_store_row rfl 49 (.tmp 6) (.tmp 15) rfl w.heap.size #[.int .i64 0, .int .i64 0, .string ⟨#[]⟩, .slice none 0 0] rfl rfl _ _ HN.out size_term rfl (one4 _ _ _ _ _ _) ?_)
   have hz := setRow_heap _ w.heap.size _ #[.int .i64 0, .int .i64 0, .string ⟨#[]⟩, .slice none 0 0] _ _ HN.out; exact bodyPost_ret (v := .tuple #[.agg #[.int .i64 0, .int .i64 0, .string ⟨#[]⟩, .slice none 0 0], .int .i64 4]) (Push.results_cell_tmp Try.results48 _ _ w.heap.size _ _ _ _ _ rfl (by simp) hz Try.underlying49 rfl (by kernel_rfl)) rfl (gt_bad (r' := (zeroTm, 4, n)) rfl rfl (Keeps.of HB.out) HG.out rfl hne)
 | succ f ih =>
   intro x n dp w hx hdp hn hf hS hgd hgr; have IH := Lib.hid ih; obtain ⟨fc, hch, hcell⟩ := hin.fol hx; have hgl := (Array.getElem?_eq_some_iff.1 hgr).1; have hne : gb ≠ w.heap.size := by omega
   have hg1 := heap_setCell_same w gb 1 _ _ (.int .i64 ((n : Int) + 1)) hgr
   replace hg1 : (w.setCell ⟨gb, 1, none⟩ (.int .i64 ((n : Int) + 1))).heap[gb]? = some (gtO p (n + 1) kv) := by
    have e : ((n + 1 : Nat) : Int) = (n : Int) + 1 := by omega
    unfold gtO; rw [e]
    simpa using hg1
   have hs1 : StoAt (w.setCell ⟨gb, 1, none⟩ (.int .i64 ((n : Int) + 1))) D p S := hS.keep (by simp [World.setCell]) fun b _ hd => Below.heap_setCell _ _ _ _ fun e => hgd (by have e : b = gb := e; subst e; exact hd)
   have hk1 := keeps_cell8 w gb 1 (.int .i64 ((n : Int) + 1)); have hz1 : (w.setCell ⟨gb, 1, none⟩ (.int .i64 ((n : Int) + 1))).heap.size = w.heap.size := by simp [World.setCell]
   have hb0 := below_new (w.setCell ⟨gb, 1, none⟩ (.int .i64 ((n : Int) + 1))) (.cells #[.int .i64 0, .int .i64 0, .string ⟨#[]⟩, .slice none 0 0] 49 (0, 0)); have hn2 := heap_alloc_new (w.setCell ⟨gb, 1, none⟩ (.int .i64 ((n : Int) + 1))) (.cells #[.int .i64 0, .int .i64 0, .string ⟨#[]⟩, .slice none 0 0] 49 (0, 0)); rw [hz1] at hn2; have hg2 := (hb0.block gb (by omega)).trans hg1; have hs2 := hs1.below hb0; have hk2 := hk1.trans (Keeps.of hb0) (M' := fun _ => False) fun b h => h.elim
   obtain ⟨u0, u1, u2⟩ := row3 hgr; have uz := frozen_of_row _ gb 1 _ _ hgr; have hdp2 : dp ≤ 2000 := by omega
   have hdp1 : 1 ≤ dp := by omega
   have b1 : decide (2000 < dp) = false := by simp; omega
   have HG2 := Lib.hid hg2; have HK2 := Lib.hid hk2; have HN2 := Lib.hid hn2; have HS2 := Lib.hid hs2; have HCH := Lib.hid hch; have HCELL := Lib.hid hcell; have HGD := Lib.hid hgd; have HDP := Lib.hid hdp; have hz2 : w.heap.size + 1 ≤ ((w.setCell ⟨gb, 1, none⟩ (.int .i64 ((n : Int) + 1))).alloc (.cells #[.int .i64 0, .int .i64 0, .string ⟨#[]⟩, .slice none 0 0] 49 (0, 0))).heap.size := by simp [World.setCell]
   have HSM := Lib.hid hin.small; have HDW := Lib.hid hS.dl''; clear ih hb0 hgr hg1 hg2 hk1 hk2 hn2 hs1 hs2 hz1 hS hch hcell hgd hdp
   by_cases h20 : 20000 < n + 1
   ·have b2 : decide ((20000 : Int) < (n : Int) + 1) = true := by simp; omega
    have hr : getG S (f + 1) x n = (zeroTm, 3, n + 1) := by simp only [getG]; exact if_pos h20
    have HRE := Lib.hid hr; clear hr h20
    go_enter Try.func48, Try.ntmps48
    go_upto_region 4 with fail
    clear u0 u1 u2 uz; generalize (w.setCell ⟨gb, 1, none⟩ (.int .i64 ((n : Int) + 1))).alloc (.cells #[.int .i64 0, .int .i64 0, .string ⟨#[]⟩, .slice none 0 0] 49 (0, 0)) = W2 at *; have hg20 := HG2.out; rw [show (n + 1 : Nat) = n + 1 from rfl] at hg20; obtain ⟨u0, u1, u2⟩ := row3 hg20; have e1 : ((n + 1 : Nat) : Int) = (n : Int) + 1 := by omega
    rw [e1] at u1; clear hg20 e1
    go_wp2_with (with_reducible show wpList _ _ _ (⟨none, .store _ (.tmp 6) _, _, _, _, _⟩ :: _) _ _
                 refine wpList_store_row rfl 49 (.tmp 6) (.tmp 28) rfl w.heap.size #[.int .i64 0, .int .i64 0, .string ⟨#[]⟩, .slice none 0 0] rfl rfl _ _ HN2.out size_term rfl (one4 _ _ _ _ _ _) ?_)
    have hz := setRow_heap _ w.heap.size _ #[.int .i64 0, .int .i64 0, .string ⟨#[]⟩, .slice none 0 0] _ _ HN2.out; exact bodyPost_ret (v := .tuple #[.agg #[.int .i64 0, .int .i64 0, .string ⟨#[]⟩, .slice none 0 0], .int .i64 3]) (Push.results_cell_tmp Try.results48 _ _ w.heap.size _ _ _ _ _ rfl (by simp) hz Try.underlying49 rfl (by kernel_rfl)) rfl (gt_bad (r' := (zeroTm, 3, n + 1)) HRE.out rfl HK2.out HG2.out rfl hne)
   have b2 : decide ((20000 : Int) < (n : Int) + 1) = false := by simp; omega
   have hr : getG S (f + 1) x n = if ((cellF S x).args.foldl (gStep (getG S f)) ([], 0, n + 1)).2.1 ≠ 0 then (zeroTm, ((cellF S x).args.foldl (gStep (getG S f)) ([], 0, n + 1)).2.1, ((cellF S x).args.foldl (gStep (getG S f)) ([], 0, n + 1)).2.2)
         else (withArgs (shellC (fol S x) (cellF S x)) ((cellF S x).args.foldl (gStep (getG S f)) ([], 0, n + 1)).1, 0, ((cellF S x).args.foldl (gStep (getG S f)) ([], 0, n + 1)).2.2) := by simp only [getG]; exact if_neg h20
   have HRE := Lib.hid hr; clear hr
   go_enter Try.func48, Try.ntmps48
   go_upto_region 4 with fail
   clear u0 u1 u2 uz; generalize (w.setCell ⟨gb, 1, none⟩ (.int .i64 ((n : Int) + 1))).alloc (.cells #[.int .i64 0, .int .i64 0, .string ⟨#[]⟩, .slice none 0 0] 49 (0, 0)) = W2 at *; obtain ⟨u0, u1, u2⟩ := row3 HG2.out; have e1 : ((n + 1 : Nat) : Int) = (n : Int) + 1 := by omega
   rw [e1] at u1; clear e1
   go_wp2_with fail
   refine (sto_fol W2 HS2.out fc x (fol S x) HCH.out).mono ?_; rintro e3 w3 ⟨rfl, rfl⟩
   go_wp2_with fail
   refine (sto_shell W2 HS2.out (fol S x) _ HCELL.out HSM.out).mono ?_; rintro e4 w4 ⟨rfl, hb4⟩; have hargs := hin.args _ (List.mem_of_getElem? HCELL.out); have hrlt := HCELL.out; have hrl := (List.getElem?_eq_some_iff.1 hrlt).1; generalize hsh : shellC (fol S x) (cellF S x) = sh at *; have hsa : sh.args = [] := by rw [← hsh]; unfold shellC; split <;> rfl
   have HSH := Lib.hid hsh; obtain ⟨R, hR⟩ : ∃ R, R = fol S x := ⟨_, rfl⟩; rw [← hR] at hrl hrlt ⊢; obtain ⟨c, hc⟩ : ∃ c, c = cellF S x := ⟨_, rfl⟩; rw [← hc] at hrlt hargs; have HC := Lib.hid hc; have HR := Lib.hid hR; have HSA := Lib.hid hsa; have HARG := Lib.hid hargs.2; have hal := hargs.1; have hg4 := (hb4.block gb (Array.getElem?_eq_some_iff.1 HG2.out).1).trans HG2.out; have hn4 := (hb4.block w.heap.size (by omega)).trans HN2.out; have hs4 := HS2.out.below hb4; have hk4 := HK2.out.trans (Keeps.of hb4) (M' := fun _ => False) fun b h => h.elim
   have hz4 : W2.heap.size ≤ w4.heap.size := hb4.size; have HCE := Lib.hid hrlt; clear hsh hR hc hsa hargs hb4 hrlt u0 u1 u2; have hb5 := below_new w4 (.cells #[.int .i64 sh.k, .int .i64 sh.n, .string sh.s, .slice none 0 0] 49 (0, 0)); have hn5 := heap_alloc_new w4 (.cells #[.int .i64 sh.k, .int .i64 sh.n, .string sh.s, .slice none 0 0] 49 (0, 0)); have hg5 := (hb5.block gb (Array.getElem?_eq_some_iff.1 hg4).1).trans hg4; have hr5 := (hb5.block w.heap.size (by omega)).trans hn4; have hs5 := hs4.below hb5; have hk5 := hk4.trans (Keeps.of hb5) (M' := fun _ => False) fun b h => h.elim
   have hz5 : (w4.alloc (.cells #[.int .i64 sh.k, .int .i64 sh.n, .string sh.s, .slice none 0 0] 49 (0, 0))).heap.size = w4.heap.size + 1 := by simp
   have HN5 := Lib.hid hn5; have HG5 := Lib.hid hg5; have HR5 := Lib.hid hr5; have HS5 := Lib.hid hs5; have HK5 := Lib.hid hk5; have HZ5 := Lib.hid hz5; have hg40 := row3 hg4; obtain ⟨u0, u1, u2⟩ := hg40; clear hb5 hn5 hg5 hr5 hs5 hk5 hz5 hg4 hn4 hs4 hk4
   go_upto_region 8 with fail
   clear u0 u1 u2; generalize w4.alloc (.cells #[.int .i64 sh.k, .int .i64 sh.n, .string sh.s, .slice none 0 0] 49 (0, 0)) = W5 at *; obtain ⟨u0, u1, u2⟩ := row3 HG5.out; obtain ⟨gc, cp, bv, A, hrow⟩ := sto_open' HS5.out R hrl; obtain ⟨av, -, -, -, d3, -, -, hav⟩ := hrow.cellAt R c HCE.out; obtain ⟨y0, y1, y2⟩ := row3 hrow.row; have hcap := hrow.own.caps; obtain ⟨aa, ac, rfl, hac1, hac2, hel⟩ := hav; have hcap1 : S.cells.length ≤ cp := hcap.1; have hR0 : (0 : Int) ≤ (R : Int) := by omega
   have hR1 : (R : Int) < (S.cells.length : Int) := by omega
   have hsl : IntSl W5 (fun b => D b) (.slice aa c.args.length ac) c.args := IntSl.move (P := fun b => A b ∧ gc ≠ b ∧ b < W5.heap.size) ⟨aa, ac, rfl, hac1, hac2, hel⟩ (fun b hb _ => hrow.da b hb.1) fun _ _ _ => rfl
   have hgm : (cellF S x).args = c.args := by rw [HC.out]
   have HGM := Lib.hid hgm; have HSL := Lib.hid hsl; have hgbD : ∀ b, D b → b < w4.heap.size := fun b hb => by have := HS2.out.dl'' b hb; omega
   have HDB := Lib.hid hgbD
   have hdw : ∀ b, D b → b ≠ w.heap.size := fun b hb e => by
    have := HDW.out b hb; omega
   have HDN := Lib.hid hdw; clear hrow hcap hel hsl hgm hgbD hdw; generalize hNN : S.cells.length = NN at *; generalize hAL : c.args.length = nA at *; have HNN := Lib.hid hNN; have HAL := Lib.hid hAL; clear hNN hAL
   by_cases hA0 : nA = 0
   ·subst hA0
    have hnil : c.args = [] := List.eq_nil_of_length_eq_zero HAL.out
    have hr2 : getG S (f + 1) x n = (sh, 0, n + 1) := by
     rw [HRE.out, HGM.out, hnil, List.foldl_nil, if_neg (by simp)]
     have : withArgs sh [] = sh := by
      have := HSA.out; obtain ⟨k, m, s, a⟩ := sh; simp only [Tm.args] at this; subst this; rfl
     rw [this]
    have HRR := Lib.hid hr2; clear hnil hr2; obtain ⟨v0, v1, v2, v3⟩ := row4 HN5.out
    go_wp2_with (with_reducible show wpList _ _ _ (⟨none, .store _ (.tmp 6) _, _, _, _, _⟩ :: _) _ _
                 refine wpList_store_row rfl 49 (.tmp 6) (.tmp 55) rfl w.heap.size #[.int .i64 sh.k, .int .i64 sh.n, .string sh.s, .slice none 0 0] rfl rfl _ _ HR5.out size_term rfl (one4 _ _ _ _ _ _) ?_)
    have hz := setRow_heap _ w.heap.size _ #[.int .i64 sh.k, .int .i64 sh.n, .string sh.s, .slice none 0 0] _ _ HR5.out; exact bodyPost_ret (v := .tuple #[.agg #[.int .i64 sh.k, .int .i64 sh.n, .string sh.s, .slice none 0 0], .int .i64 0]) (Push.results_cell_tmp Try.results48 _ _ w.heap.size _ _ _ _ _ rfl (by simp) hz Try.underlying49 rfl (by kernel_rfl)) rfl (gt_leaf HRR.out HSA.out HK5.out HG5.out rfl hne)
   have hA1 : ¬ (nA : Int) = 0 := by omega
   have bA : ((nA : Int) == 0) = false := beq_false_of_ne hA1; obtain ⟨v0, v1, v2, v3⟩ := row4 HN5.out; have vz := frozen_of_row _ w4.heap.size 3 _ _ HN5.out; obtain ⟨i0, hti, hy0, hy1, hy2⟩ := info_parts info_term
   go_wp2_with (with_reducible show wpList _ _ _ (⟨some 58, _, _, _, _, _⟩ :: _) _ _
                refine wpList_make_full _ rfl (.tmp 57) (.tmp 57) 47 rfl W5.heap.size 49 i0 _ 4 Try.underlying47 hti hy0 hy1 .i64 .i64 _ _ nA rfl rfl rfl rfl (by rw [hy2]; omega) (by unfold maxLen; omega) (Nat.le_refl _) ?_; intro wA hown hgr; obtain ⟨row, hrowA, hrsA⟩ := own_row hown; have hbA : Below W5.heap.size W5 wA := (Below.refl _ _).grown hgr (Nat.le_refl _) (by simp); have htl : w4.heap.size < W5.heap.size := by have := HZ5.out; omega
                have htA := (hbA.block _ htl).trans HN5.out; obtain ⟨v0, v1, v2, v3⟩ := row4 htA; have vz := frozen_of_row _ w4.heap.size 3 _ _ htA
                have hst : GtRel S D gb p kv f c.args (n + 1) w.heap.size w4.heap.size W5.heap.size sh w W5 (.int .i64 ((0 : Nat) : Int)) (wA.setCell ⟨w4.heap.size, 3, none⟩ (.slice (some ⟨W5.heap.size, 0, none⟩) nA nA)) :=
                 gt_start HAL.out hbA htl (by omega) hrowA hrsA htA HSA.out HG5.out HS5.out HK5.out HR5.out HDB.out (by omega) (by omega)
                have HST := Lib.hid hst; clear hown hgr hrowA hrsA hbA htA hst hti hy0 hy1 hy2 u0 u1 u2 y0 y1 y2 d3)
   clear v0 v1 v2 v3 vz; have hwt2 : w4.heap.size < W5.heap.size := by have := HZ5.out; omega
   have hw4 : w.heap.size < w4.heap.size := by omega
   generalize w4.heap.size = tb at *; obtain ⟨wo, hwo⟩ : ∃ wo, wo = W5 := ⟨_, rfl⟩; obtain ⟨g, hg⟩ : ∃ g, g = W5.heap.size := ⟨_, rfl⟩; rw [← hg, ← hwo] at HST; rw [← hg]; have hgo : wo.heap.size ≤ g := by rw [hg, hwo]; exact Nat.le_refl _
   have hgt : tb < g := by omega
   have HSLo : Hid (IntSl wo (fun b => D b) (.slice aa nA ac) c.args) := Lib.hid (by rw [hwo]; exact HSL.out); clear hg hwo hwt2
   go_loopw [62] (fun vi wr => GtRel S D gb p kv f c.args (n + 1) w.heap.size tb g sh w wo vi wr) (fun vi _ => nA - (intOf vi).toNat)
   case atStart => exact HST.out
   case round =>
    obtain ⟨i, hi, rfl, hok, hgb, hfl, hst, hko, hk, hrb, htb⟩ := hrel; rw [HAL.out] at hi; have HOK := Lib.hid hok; have HGB := Lib.hid hgb; have HFL := Lib.hid hfl; have HSS := Lib.hid hst; have HKO := Lib.hid hko; have HKK := Lib.hid hk; have HRB := Lib.hid hrb; have HTB := Lib.hid htb; clear hok hgb hfl hst hko hk hrb htb HST
    by_cases hin2 : i < nA
    ·have hil : i < c.args.length := by have := HAL.out; omega
     have hslr : IntSl wr (fun b => D b) (.slice aa nA ac) c.args := HSLo.out.move (fun b hb _ => hb) fun b hb hlt => HKO.out.block b hlt fun e => e.elim (fun e => HGD.out (e ▸ hb)) fun e => by have := HDB.out b hb; omega
     obtain ⟨a', ac', he, -, -, hel⟩ := hslr; simp only [Value.slice.injEq] at he; obtain ⟨rfl, -, -⟩ := he; obtain ⟨be, off, rfl, -, -, hcel⟩ := hel i hil; obtain ⟨an, han⟩ : ∃ an : Nat, c.args[i] = (an : Int) := ⟨c.args[i].toNat, by have := (HARG.out c.args[i] (List.getElem_mem hil)).1; omega⟩; rw [han] at hcel; have hanl : an < NN := by have := (HARG.out c.args[i] (List.getElem_mem hil)).2; omega
     have htk := gfold_take (getG S f) c.args ([], 0, n + 1) i hil; rw [han, show ((an : Nat) : Int) = (an : Int) from rfl] at htk; have hbn := gfold_bound (getG_bound S f) (c.args.take i) ([], 0, n + 1) (by show n + 1 ≤ 20000; omega) HOK.out; have hln := gfold_len (getG S f) (c.args.take i) ([], 0, n + 1) HOK.out; rw [List.length_take, Nat.min_eq_left (by omega)] at hln; have HTK := Lib.hid htk; have HBN := Lib.hid hbn; have HLN : Hid (((c.args.take i).foldl (gStep (getG S f)) ([], 0, n + 1)).1.length = i) := Lib.hid (by simpa using hln); have hsplit := gfold_split (getG S f) c.args ([], 0, n + 1) (i + 1); have HSP := Lib.hid hsplit; clear hel han htk hbn hln hsplit; generalize (c.args.take i).foldl (gStep (getG S f)) ([], 0, n + 1) = st at *; obtain ⟨ts, er, ni⟩ := st; obtain rfl : er = 0 := HOK.out; obtain ⟨r, hr⟩ : ∃ r, r = getG S f an ni := ⟨_, rfl⟩
     have hq : (c.args.take (i + 1)).foldl (gStep (getG S f)) ([], 0, n + 1) = if r.2.1 = 0 then (ts ++ [r.1], 0, r.2.2) else (ts, r.2.1, r.2.2) := by
      rw [HTK.out, hr]
      by_cases h : (getG S f an ni).2.1 = 0
      ·rw [gStep_ok rfl h, if_pos h]; rfl
      ·rw [gStep_bad rfl h, if_neg h]; rfl
     have HQ := Lib.hid hq; have hih := fun (u : World) h1 h2 => IH.out an ni (dp + 1) u hanl (by have := HDP.out; omega) HBN.out (by omega) h1 HGD.out h2
     rw [← hr] at hih; have HIH := Lib.hid hih; clear hq hih hr; have hi0 : (0 : Int) ≤ (i : Int) := by omega
     have hi1 : (i : Int) < (nA : Int) := by omega
     have hac3 : nA ≤ ac := hac1; go_wp2; refine wp_region_rest (by kernel_rfl) ?_; have hdr : Below wr.heap.size wr wr.drew := (Below.refl _ _).drew; have hFL3 : Fill wr.drew g c.args.length (w.heap.size + 1) ts := HFL.out.keep (w' := wr.drew) (fun _ _ _ => rfl) rfl; have hSS3 : StoAt wr.drew D p S := HSS.out.below hdr; have hGB3 : wr.drew.heap[gb]? = some (gtO p ni kv) := HGB.out; have hRB3 : wr.drew.heap[w.heap.size]? = _ := HRB.out; have hTB3 : wr.drew.heap[tb]? = _ := HTB.out; have hKO3 : Keeps wo wr.drew (fun b => b = gb ∨ b = tb) := HKO.out.trans (Keeps.of hdr) (M' := fun _ => False) fun b h => h.elim
     have hKK3 : Keeps w wr.drew (fun b => b = gb) := HKK.out.trans (Keeps.of hdr) (M' := fun _ => False) fun b h => h.elim
     have HFL3 := Lib.hid hFL3; have HSS3 := Lib.hid hSS3; have HGB3 := Lib.hid hGB3; have HRB3 := Lib.hid hRB3; have HTB3 := Lib.hid hTB3; have HKO3 := Lib.hid hKO3; have HKK3 := Lib.hid hKK3; clear hdr hFL3 hSS3 hGB3 hRB3 hTB3 hKO3 hKK3 hcel; generalize wr.drew = W3 at *; have ltb : tb < W3.heap.size := (Array.getElem?_eq_some_iff.1 HTB3.out).1; have lgb : gb < W3.heap.size := (Array.getElem?_eq_some_iff.1 HGB3.out).1; have lrb : w.heap.size < W3.heap.size := (Array.getElem?_eq_some_iff.1 HRB3.out).1; have lg : g < W3.heap.size := HFL3.out.lt; have ntg : tb ≠ g := by omega
     have ntb : tb ≠ gb := by omega
     refine rest_chainP (fun u => Keeps W3 u (fun b => b = gb ∨ b = g)) 0 13 (.soft 0 (.soft 1 (.soft 2 (.soft 3 (.soft 4 (.soft 5 (.soft 6 (.one 7 (.soft 8 (.soft 9 (.soft 10 (.soft 11 (.one 12 .nil))))))))))))) (.soft _ (.soft _ (.soft _ (.soft _ (.soft _ (.soft _ (.soft _ (.one _ (.soft _ (.soft _ (.soft _ (.soft _ (.one _ .nil))))))))))))) ⟨rfl, ⟨rfl, ⟨rfl, ⟨rfl, ⟨rfl, ⟨rfl, ⟨rfl, ⟨rfl, ⟨rfl, ⟨rfl, ⟨rfl, ⟨rfl, ⟨rfl, trivial⟩⟩⟩⟩⟩⟩⟩⟩⟩⟩⟩⟩⟩ (by kernel_rfl) (by kernel_rfl) (by kernel_rfl) (by kernel_rfl) (.inr (by kernel_rfl)) (Keeps.refl _ _) ?_; refine cS (a1 := ?ma1) ?mh1 ?mr1
     case mh1 =>
      intro u hu E hE; go_wp2; rfl
     refine cS (a1 := ?ma2) ?mh2 ?mr2
     case mh2 =>
      intro u hu E hE; have x3 := (row4 ((hu.block tb ltb (fun e => e.elim ntb ntg)).trans HTB3.out)).2.2.2; go_wp2; rfl
     refine cS (a1 := ?ma3) ?mh3 ?mr3
     case mh3 =>
      intro u hu E hE; go_wp2; rfl
     refine cS (a1 := ?ma4) ?mh4 ?mr4
     case mh4 =>
      intro u hu E hE; go_wp2; rfl
     refine cS (a1 := ?ma5) ?mh5 ?mr5
     case mh5 =>
      intro u hu E hE; go_wp2; rfl
     refine cS (a1 := ?ma6) ?mh6 ?mr6
     case mh6 =>
      intro u hu E hE; go_wp2; rfl
     refine cS (a1 := ?ma7) ?mh7 ?mr7
     case mh7 =>
      intro u hu E hE; go_wp2; rfl
     refine chainP_one ?_; intro E hE
     go_wp2_with fail
     refine (HIH.out W3 HSS3.out HGB3.out).mono ?_; rintro e w9 ⟨ax, cx, rfl, hix, hgb9, hk9⟩; go_wp2; refine ⟨⟨hk9.os, hk9.tape, hk9.output, hk9.size, fun b hlt hb => hk9.block b hlt fun e => hb (.inl e)⟩, ?_⟩; have hngb : g ≠ gb := by omega
     have hfl9 := HFL3.out.keep (w' := w9) (fun b hlt hb => hk9.block b hlt (by omega)) (hk9.block g lg hngb); obtain ⟨hth, hf10, hk10⟩ := hfl9.put (t := r.1) (a := ax) (c := cx) HLN.out hil (hix.imp (fun b hb => ⟨by omega, by omega⟩) fun _ _ _ => rfl); have lz : W3.heap.size ≤ w9.heap.size := hk9.size; have hx10 := gt_step hk9 hk10 HGD.out HDB.out hgt hngb HSS3.out hgb9 HRB3.out HTB3.out HKO3.out HKK3.out hw4 (by omega) hne; have HTH := Lib.hid hth; have HF10 := Lib.hid hf10; have HX10 := Lib.hid hx10; have HK10 := Lib.hid hk10; clear hfl9 hth hf10 hk10 hx10 hix hgb9 hk9; refine cS (a1 := ?ma8) ?mh8 ?mr8
     case mh8 =>
      intro u hu E hE; go_wp2; rfl
     refine cS (a1 := ?ma9) ?mh9 ?mr9
     case mh9 =>
      intro u hu E hE; go_wp2; rfl
     refine cS (a1 := ?ma10) ?mh10 ?mr10
     case mh10 =>
      intro u hu E hE; go_wp2; rfl
     refine cS (a1 := ?ma11) ?mh11 ?mr11
     case mh11 =>
      intro u hu E hE; go_wp2; rfl
     refine chainP_one ?_; intro E hE
     go_wp2_with (with_reducible show wpList _ _ _ (⟨none, .store _ (.tmp 78) _, _, _, _, _⟩ :: _) _ _
                  refine wpList_store_mid rfl 49 (.tmp 78) (.tmp 76) rfl g (i * 4) #[.int .i64 r.1.k, .int .i64 r.1.n, .string r.1.s, .slice ax r.1.args.length cx] rfl rfl HTH.out size_term (one4 _ _ _ _ _ _) ?_)
     refine ⟨HX10.out.2.2.2.2.2.2, ?_⟩; refine chainP_nil ?_; refine rest_lineL 13 14 [_] rfl (by kernel_rfl) (by decide) (by decide) (by kernel_rfl) ?_; go_wp2; refine then_rest (rest_end (by decide) ?_); have HX11 := Lib.hid (show _ ∧ _ ∧ _ ∧ _ ∧ _ ∧ _ from ⟨HX10.out.1, HX10.out.2.1, HX10.out.2.2.1, HX10.out.2.2.2.1, HX10.out.2.2.2.2.1, HX10.out.2.2.2.2.2.1⟩); have HF11 : Hid (Fill (w9.setCells g (i * 4) (#[.int .i64 r.1.k, .int .i64 r.1.n, .string r.1.s, .slice ax r.1.args.length cx] : Array Value).toList) g c.args.length (w.heap.size + 1) (ts ++ [r.1])) := Lib.hid HF10.out; clear HX10 HF10 HTH HK10
     by_cases hre : r.2.1 = 0
     ·have b9 : (r.2.1 != 0) = false := by rw [hre]; rfl
      have hq2 := HQ.out.trans (if_pos hre); have HQ2 := Lib.hid hq2; clear hre hq2; go_wp2; go_roundw
      case rel =>
       refine ⟨i + 1, by have := HAL.out; omega, by go_num, by rw [HQ2.out], ?_, ?_, HX11.out.2.1, HX11.out.2.2.2.1, HX11.out.2.2.1, HX11.out.2.2.2.2.1, ?_⟩
       ·rw [HQ2.out]; exact HX11.out.1
       ·rw [HQ2.out]; exact HF11.out
       ·exact HX11.out.2.2.2.2.2
      case measure => simp [intOf]; omega
     ·have b9 : (r.2.1 != 0) = true := by simpa using hre
      have hq2 := HQ.out.trans (if_neg hre); have hfin := HSP.out (by rw [hq2]; exact hre)
      have HREF : Hid (getG S (f + 1) x n = (zeroTm, r.2.1, r.2.2)) := Lib.hid (by
       rw [HRE.out, HGM.out, hfin, hq2]; exact if_pos hre)
      clear hre hq2 hfin
      go_wp2_with (with_reducible show wpList _ _ _ (⟨none, .store _ (.tmp 6) _, _, _, _, _⟩ :: _) _ _
                   refine wpList_store_row rfl 49 (.tmp 6) (.tmp 81) rfl w.heap.size #[.int .i64 0, .int .i64 0, .string ⟨#[]⟩, .slice none 0 0] rfl rfl _ _ HX11.out.2.2.2.2.1 size_term rfl (one4 _ _ _ _ _ _) ?_)
      have hz := setRow_heap _ w.heap.size _ #[.int .i64 0, .int .i64 0, .string ⟨#[]⟩, .slice none 0 0] _ _ HX11.out.2.2.2.2.1; exact bodyPost_ret (v := .tuple #[.agg #[.int .i64 0, .int .i64 0, .string ⟨#[]⟩, .slice none 0 0], .int .i64 r.2.1]) (Push.results_cell_tmp Try.results48 _ _ w.heap.size _ _ _ _ _ rfl (by simp) hz Try.underlying49 rfl (by kernel_rfl)) rfl (gt_bad (r' := (zeroTm, r.2.1, r.2.2)) HREF.out rfl HX11.out.2.2.1 HX11.out.1 rfl hne)
    ·obtain rfl : i = nA := by omega
     have hin3 : decide ((i : Int) < (i : Int)) = false := by simp
     have hta : c.args.take i = c.args := List.take_of_length_le (by have := HAL.out; omega); have hok := HOK.out; have hgb := HGB.out; have hfl := HFL.out; rw [hta] at hok hgb hfl; have hln := gfold_len (getG S f) c.args ([], 0, n + 1) hok
     have hr2 : getG S (f + 1) x n = (withArgs sh (c.args.foldl (gStep (getG S f)) ([], 0, n + 1)).1, 0, (c.args.foldl (gStep (getG S f)) ([], 0, n + 1)).2.2) := by
      rw [HRE.out, HGM.out]; exact if_neg (by rw [hok]; simp)
     have hln2 : (c.args.foldl (gStep (getG S f)) ([], 0, n + 1)).1.length = i := by rw [hln, ← HAL.out]; simp
     clear hta hln hok; generalize c.args.foldl (gStep (getG S f)) ([], 0, n + 1) = st at *; obtain ⟨ts, er, ni⟩ := st; dsimp only at hr2 hgb hfl hln2; have hsl := hfl.sl (by rw [HAL.out]; exact hln2) (by omega); rw [HAL.out] at hsl
     have htm : IsTm wr (fun b => w.heap.size ≤ b ∧ b ≠ w.heap.size) (aggT (withArgs sh ts) (some ⟨g, 0, none⟩) i) (withArgs sh ts) := by
      refine IsTm.mk' ?_; show IsSl wr _ (.slice (some ⟨g, 0, none⟩) ts.length i) ts; rw [hln2]; exact hsl.imp (fun b hb => ⟨by omega, by omega⟩) fun _ _ _ => rfl
     have hpost := gt_good hr2 HKK.out hgb rfl hne htm; have hwl : (withArgs sh ts).args.length = i := hln2; unfold aggT at hpost; rw [hwl] at hpost; have HPOST := Lib.hid hpost; have htb2 := HTB.out; rw [HAL.out] at htb2; obtain ⟨z0, z1, z2, z3⟩ := row4 htb2; clear hgb hfl hr2 hln2 hsl htm hpost hwl
     go_wp2_with (with_reducible show wpList _ _ _ (⟨none, .store _ (.tmp 6) _, _, _, _, _⟩ :: _) _ _
                  refine wpList_store_row rfl 49 (.tmp 6) (.tmp 84) rfl w.heap.size #[.int .i64 sh.k, .int .i64 sh.n, .string sh.s, .slice (some ⟨g, 0, none⟩) i i] rfl rfl _ _ HRB.out size_term rfl (one4 _ _ _ _ _ _) ?_)
     have hz := setRow_heap _ w.heap.size _ #[.int .i64 sh.k, .int .i64 sh.n, .string sh.s, .slice (some ⟨g, 0, none⟩) i i] _ _ HRB.out; refine bodyPost_ret (v := .tuple #[.agg #[.int .i64 sh.k, .int .i64 sh.n, .string sh.s, .slice (some ⟨g, 0, none⟩) i i], .int .i64 0]) ?_ rfl HPOST.out; exact Push.results_cell_tmp Try.results48 _ _ w.heap.size _ _ _ _ _ rfl (by simp) hz Try.underlying49 rfl (by kernel_rfl)
mutual
def hT : Tm → Nat
 | .mk _ _ _ a => hL a + 1
def hL : List Tm → Nat
 | [] => 0
 | t :: l => max (hT t) (hL l)
end
mutual
def Tr (S : Sto) : Tm → Nat → Prop
 | .mk k n s ts, x => ∃ c, S.cells[fol S x]? = some c ∧ shellC (fol S x) c = .mk k n s [] ∧ TrL S ts c.args
def TrL (S : Sto) : List Tm → List Int → Prop
 | [], [] => True
 | t :: ts, a :: xs => Tr S t a.toNat ∧ TrL S ts xs
 | [], _ :: _ => False
 | _ :: _, [] => False
end
theorem getG_succ (S : Sto) (f x n : Nat) : getG S (f + 1) x n = if 20000 < n + 1 then (zeroTm, 3, n + 1) else
 if ((cellF S x).args.foldl (gStep (getG S f)) ([], 0, n + 1)).2.1 ≠ 0 then (zeroTm, ((cellF S x).args.foldl (gStep (getG S f)) ([], 0, n + 1)).2.1, ((cellF S x).args.foldl (gStep (getG S f)) ([], 0, n + 1)).2.2)
 else (withArgs (shellC (fol S x) (cellF S x)) ((cellF S x).args.foldl (gStep (getG S f)) ([], 0, n + 1)).1, 0, ((cellF S x).args.foldl (gStep (getG S f)) ([], 0, n + 1)).2.2) := by simp only [getG]
mutual
theorem getG_tr (S : Sto) : ∀ (t : Tm) (x f n : Nat), Tr S t x → hT t ≤ f → n + t.size ≤ 20000 → getG S f x n = (t, 0, n + t.size)
 | .mk k m s ts, x, f, n, h, hf, hn => by
   unfold Tr at h; obtain ⟨c, h1, h2, h3⟩ := h; unfold hT at hf; simp only [Tm.size] at hn ⊢; obtain ⟨f, rfl⟩ : ∃ f', f = f' + 1 := ⟨f - 1, by omega⟩; have hc : cellF S x = c := by unfold cellF; rw [h1]; rfl
   have hl := getL_tr S ts c.args [] f (n + 1) h3 (by omega) (by omega); rw [getG_succ, if_neg (by omega), hc, hl, if_neg (by simp), h2]
   simp [withArgs, Tm.k, Tm.n, Tm.s]
   omega
theorem getL_tr (S : Sto) : ∀ (ts : List Tm) (xs : List Int) (pre : List Tm) (f n : Nat), TrL S ts xs → hL ts ≤ f → n + sizeL ts ≤ 20000 → xs.foldl (gStep (getG S f)) (pre, 0, n) = (pre ++ ts, 0, n + sizeL ts)
 | [], [], pre, f, n, _, _, _ => by simp [sizeL]
 | t :: ts, a :: xs, pre, f, n, h, hf, hn => by
   unfold TrL at h; unfold hL at hf; simp only [sizeL] at hn ⊢; have h1 := getG_tr S t a.toNat f n h.1 (by omega) (by omega)
   have hs : gStep (getG S f) (pre, 0, n) a = (pre ++ [t], 0, n + t.size) := by
    rw [gStep_ok rfl (by rw [h1]), h1]
   rw [List.foldl_cons, hs, getL_tr S ts xs (pre ++ [t]) f (n + t.size) h.2 (by omega) (by omega)]
   simp
   omega
 | [], _ :: _, _, _, _, h, _, _ => by simp [TrL] at h
 | _ :: _, [], _, _, _, h, _, _ => by simp [TrL] at h
end
mutual
theorem hT_size : ∀ t : Tm, hT t ≤ t.size
 | .mk k n s a => by have := hL_size a; simp only [hT, Tm.size]; omega
theorem hL_size : ∀ l : List Tm, hL l ≤ sizeL l
 | [] => by simp [hL]
 | t :: l => by have := hT_size t; have := hL_size l; simp only [hL, sizeL]; omega
end
def GetPost (r : Tm) (w : World) (e : Ending) (w' : World) : Prop := ∃ a c, e = .returned (.tuple #[aggT r a c, .int .i64 0]) ∧ IsTm w' (fun b => w.heap.size ≤ b) (aggT r a c) r ∧ Below w.heap.size w w'
theorem sto_Get_ok {S : Sto} {D : Nat → Prop} {p : Nat} (w : World) (hin : StoIn S) (hS : StoAt w D p S) (x : Nat) (hx : x < S.cells.length) (t : Tm) (n : Nat) (hg : getG S 2000 x 0 = (t, 0, n)) :
 Calls Try.prog 19 #[.pointer (some ⟨p, 0, none⟩), .int .i64 x] w (GetPost t w) := by
 have hb0 := below_new w (.cells #[.int .i64 0, .int .i64 0, .string ⟨#[]⟩, .slice none 0 0] 49 (0, 0)); have hn0 := heap_alloc_new w (.cells #[.int .i64 0, .int .i64 0, .string ⟨#[]⟩, .slice none 0 0] 49 (0, 0)); have HS := Lib.hid (hS.below hb0); have HB := Lib.hid hb0; have HN := Lib.hid hn0; have HX := Lib.hid (dec_yes hx); have HG := Lib.hid hg; have HDL := Lib.hid hS.dl''; have hz0 : (w.alloc (.cells #[.int .i64 0, .int .i64 0, .string ⟨#[]⟩, .slice none 0 0] 49 (0, 0))).heap.size = w.heap.size + 1 := by simp
 have hb1 := below_new (w.alloc (.cells #[.int .i64 0, .int .i64 0, .string ⟨#[]⟩, .slice none 0 0] 49 (0, 0))) (.cells #[.pointer (some ⟨p, 0, none⟩), .int .i64 0, .map none] 110 (0, 0)); have hn1 := heap_alloc_new (w.alloc (.cells #[.int .i64 0, .int .i64 0, .string ⟨#[]⟩, .slice none 0 0] 49 (0, 0))) (.cells #[.pointer (some ⟨p, 0, none⟩), .int .i64 0, .map none] 110 (0, 0)); rw [hz0] at hn1 hb1; have HB1 := Lib.hid hb1; have HN1 := Lib.hid hn1; have HZ0 := Lib.hid hz0; clear hb0 hn0 hS hg hb1 hn1 hz0
 go_enter Try.func19, Try.ntmps19
 go_wp2_with fail
 refine (sto_there _ HS.out x).mono ?_; rintro e1 w1 ⟨rfl, rfl⟩; rw [HX.out]
 go_wp2_with fail
 refine (gt_get S hin D (w.heap.size + 1) p (.map none) 2000 x 0 1 _ hx (by omega) (by omega) (Nat.le_refl _) (HS.out.below (HB1.out.mono (by rw [HZ0.out]; exact Nat.le_refl _))) (fun h => by have := HDL.out _ h; omega) (by exact HN1.out)).mono ?_; rintro e2 w2 ⟨a, c, rfl, hi2, hg2, hk2⟩; rw [HG.out] at hi2 hg2 ⊢; have hz1 : ((w.alloc (.cells #[.int .i64 0, .int .i64 0, .string ⟨#[]⟩, .slice none 0 0] 49 (0, 0))).alloc (.cells #[.pointer (some ⟨p, 0, none⟩), .int .i64 0, .map none] 110 (0, 0))).heap.size = w.heap.size + 2 := by simp
 have hr2 : w2.heap[w.heap.size]? = _ := (hk2.block w.heap.size (by omega) (by omega)).trans ((HB1.out.block w.heap.size (by omega)).trans HN.out)
 have hb2 : Below w.heap.size w w2 := by
  refine ⟨hk2.os, hk2.tape, hk2.output, by have := hk2.size; omega, fun b hlt => ?_⟩; exact (hk2.block b (by omega) (by omega)).trans ((HB1.out.block b (by omega)).trans (HB.out.block b hlt))
 have hi3 := hi2.imp (P' := fun b => w.heap.size + 2 ≤ b) (w' := w2) (fun b hb => by omega) fun _ _ _ => rfl
 have hz2 : w.heap.size + 2 ≤ w2.heap.size := by have := hk2.size; omega
 have HR2 := Lib.hid hr2; have HB2 := Lib.hid hb2; have HI3 := Lib.hid hi3; clear hi2 hg2 hk2 hz1 hr2 hb2 hi3; have hb5 := below_new w2 (.cells #[.int .i64 t.k, .int .i64 t.n, .string t.s, .slice a t.args.length c] 49 (0, 0)); have hn5 := heap_alloc_new w2 (.cells #[.int .i64 t.k, .int .i64 t.n, .string t.s, .slice a t.args.length c] 49 (0, 0)); have hr5 := (hb5.block w.heap.size (by omega)).trans HR2.out; have HR5 := Lib.hid hr5; have HB5 := Lib.hid (HB2.out.trans (hb5.mono (by omega))); have HI5 := Lib.hid (HI3.out.below hb5); obtain ⟨v0, v1, v2, v3⟩ := row4 hn5; clear hb5 hn5 hr5; dsimp only
 go_wp2_with (with_reducible show wpList _ _ _ (⟨none, .store _ (.tmp 4) _, _, _, _, _⟩ :: _) _ _
              refine wpList_store_row rfl 49 (.tmp 4) (.tmp 41) rfl w.heap.size #[.int .i64 t.k, .int .i64 t.n, .string t.s, .slice a t.args.length c] rfl rfl _ _ HR5.out size_term rfl (one4 _ _ _ _ _ _) ?_)
 have hz := setRow_heap _ w.heap.size _ #[.int .i64 t.k, .int .i64 t.n, .string t.s, .slice a t.args.length c] _ _ HR5.out; refine bodyPost_ret (v := .tuple #[aggT t a c, .int .i64 0]) ?_ rfl ⟨a, c, rfl, HI5.out.imp (fun b hb => by omega) fun b hb _ => setRow_other _ _ _ _ (by omega), below_setRow HB5.out (Nat.le_refl _) _⟩; exact Push.results_cell_tmp Try.results19 _ _ w.heap.size _ _ _ _ _ rfl (by simp) hz Try.underlying49 rfl (by kernel_rfl)
end Go.Proofs.Ytcbijikalfodnaa.Tms
