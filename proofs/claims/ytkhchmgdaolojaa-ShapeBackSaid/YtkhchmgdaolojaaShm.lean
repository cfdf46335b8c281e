
/-
  Layer 17: what arguments are made one with (shape.made).
-/
import Derived.Test.YtkhchmgdaolojaaShw
import Derived.Test.YtkhchmgdaolojaaTs
import Derived.Test.YtkhchmgdaolojaaJnt
import Derived.Test.YtkhchmgdaolojaaChd
namespace Go.Proofs.Ytkhchmgdaolojaa.Tms
open Go Go.RowKit Go.Proofs.Ytkhchmgdaolojaa.Reg Go.Proofs.Ytkhchmgdaolojaa.Rws Go.Instr
set_option linter.unusedVariables false
set_option linter.unusedSimpArgs false

theorem row7 {w : World} {g : Nat} {y0 y1 y2 y3 y4 y5 y6 : Value} {T : TypeId} {fr : Nat × Nat} (h : w.heap[g]? = some (.cells #[y0, y1, y2, y3, y4, y5, y6] T fr)) :
    w.cell? ⟨g, 0, none⟩ = some y0 ∧ w.cell? ⟨g, 1, none⟩ = some y1 ∧ w.cell? ⟨g, 2, none⟩ = some y2 ∧ w.cell? ⟨g, 3, none⟩ = some y3 ∧ w.cell? ⟨g, 4, none⟩ = some y4 ∧ w.cell? ⟨g, 5, none⟩ = some y5 ∧ w.cell? ⟨g, 6, none⟩ = some y6 :=
  ⟨cell_of_row w g 0 _ _ _ h, cell_of_row w g 1 _ _ _ h, cell_of_row w g 2 _ _ _ h, cell_of_row w g 3 _ _ _ h, cell_of_row w g 4 _ _ _ h, cell_of_row w g 5 _ _ _ h, cell_of_row w g 6 _ _ _ h⟩
theorem OwnSl.move {w w' : World} {base : Nat} {P P' : Nat → Prop} {v : Value} {ts : List Tm} (h : OwnSl w base P v ts) (hs : w.heap.size ≤ w'.heap.size) (hv : ∀ b, v.ownBlock = some b → b < w.heap.size → w'.heap[b]? = w.heap[b]?) (hP : ∀ b, P b → b < w.heap.size → P' b ∧ w'.heap[b]? = w.heap[b]?) : OwnSl w' base P' v ts := by
  obtain ⟨xs, h1, h2⟩ := h
  refine ⟨xs, ⟨h1.1, ?_⟩, h2.imp2 (fun b h => ⟨(hP b h.1 h.2.2).1, h.2.1, Nat.lt_of_lt_of_le h.2.2 hs⟩) fun b h hlt => (hP b h.1 hlt).2⟩
  rcases h1.2 with h | ⟨g, cap, cur, e, h, hg, rest⟩
  · exact .inl h
  · exact .inr ⟨g, cap, cur, e, h, (hv g (by rw [e]; rfl) (Array.getElem?_eq_some_iff.1 hg).1).trans hg, rest⟩
theorem IsSl.lt {w : World} {P : Nat → Prop} {v : Value} {ts : List Tm} (h : IsSl w P v ts) : IsSl w (fun b => P b ∧ b < w.heap.size) v ts := by
  obtain ⟨a, c, rfl⟩ := h.form
  refine IsSl.mk' fun i hi => ?_
  obtain ⟨b, off, e, hp, hat⟩ := h.at i hi
  obtain ⟨_, _, hc, _⟩ := hat.read
  exact ⟨b, off, e, ⟨hp, World.block_lt_of_cell? _ _ hc⟩, hat.lt⟩
theorem size_did : (Try.prog.info? 71).map (·.size) = some 7 := by kernel_rfl
theorem one7 (b : Bool) (q1 q2 : Option Addr) (n1 k1 n2 k2 : Nat) : (#[Value.bool b, .slice q1 n1 k1, .slice q2 n2 k2, .int .i64 0, .int .i64 0, .string ⟨#[]⟩, .slice none 0 0].all fun v => v.oneCell') = true := by simp [Value.oneCell']
def firsts (f : Int) (n : Nat) : List Int := (List.range n).map fun (i : Nat) => f + (i : Int)
theorem firsts_succ (f : Int) (n : Nat) : firsts f (n + 1) = firsts f n ++ [f + (n : Int)] := by unfold firsts; rw [List.range_succ, List.map_append]; rfl
theorem firsts_len (f : Int) (n : Nat) : (firsts f n).length = n := by simp [firsts]
/-- d, and what it has so far -/
structure SmdAt (f : Int) (ts : List Tm) (w : World) (i j : Nat) (va vt : Value) (wr : World) : Prop where
  row : wr.heap[w.heap.size + 1]? = some (.cells #[.bool true, va, vt, .int .i64 0, .int .i64 0, .string ⟨#[]⟩, .slice none 0 0] 71 (0, 0))
  res : ∃ cs, wr.heap[w.heap.size]? = some (.cells cs 71 (0, 0)) ∧ cs.size = 7
  args : Own jKind wr (w.heap.size + 2) (fun _ => False) va (firsts f i)
  terms : OwnSl wr (w.heap.size + 2) (fun b => w.heap.size + 2 ≤ b ∧ va.ownBlock ≠ some b) vt (ts.take j)
  apart : ∀ b, va.ownBlock = some b → vt.ownBlock ≠ some b
  bel : Below w.heap.size w wr
def SmdRel (f : Int) (ts : List Tm) (w : World) (vi : Value) (wr : World) : Prop := ∃ (i : Nat) (va vt : Value), i ≤ ts.length ∧ vi = .int .i64 i ∧ SmdAt f ts w i i va vt wr
theorem SmdAt.below {f : Int} {ts : List Tm} {w wr w' : World} {i j : Nat} {va vt : Value} (h : SmdAt f ts w i j va vt wr) (hb : Below wr.heap.size wr w') : SmdAt f ts w i j va vt w' :=
  ⟨(hb.block _ (Array.getElem?_eq_some_iff.1 h.row).1).trans h.row, let ⟨cs, h1, h2⟩ := h.res; ⟨cs, (hb.block _ (Array.getElem?_eq_some_iff.1 h1).1).trans h1, h2⟩, h.args.below hb, h.terms.below hb, h.apart, h.bel.trans (hb.mono h.bel.size)⟩
/-- the next number is put behind d's -/
theorem SmdAt.num {f : Int} {ts : List Tm} {w W w9 : World} {i j : Nat} {va vt va' : Value} (h : SmdAt f ts w i j va vt W) (ho : Own jKind w9 (w.heap.size + 2) (fun _ => False) va' (firsts f i ++ [f + (i : Int)])) (hb : Below (w.heap.size + 2) W w9) (hg : W.grownBy w9 va.ownBlock)
    (hv : ∀ k, va'.ownBlock = some k → va.ownBlock = some k ∨ W.heap.size ≤ k) :
    w9.cell? ⟨w.heap.size + 1, 1, none⟩ = some va ∧ w9.frozen? ⟨w.heap.size + 1, 1, none⟩ = false ∧ SmdAt f ts w (i + 1) j va' vt (w9.setCell ⟨w.heap.size + 1, 1, none⟩ va') := by
  have r9 := (hb.block (w.heap.size + 1) (by omega)).trans h.row
  have hoth : ∀ b, b ≠ w.heap.size + 1 → (w9.setCell ⟨w.heap.size + 1, 1, none⟩ va').heap[b]? = w9.heap[b]? := fun b hb => Below.heap_setCell _ _ _ _ hb
  have hsz : (w9.setCell ⟨w.heap.size + 1, 1, none⟩ va').heap.size = w9.heap.size := by simp [World.setCell]
  obtain ⟨cs, c1, c2⟩ := h.res
  refine ⟨(row7 r9).2.1, frozen_of_row w9 _ _ _ _ r9, heap_setCell_same w9 (w.heap.size + 1) 1 _ _ va' r9, ⟨cs, (hoth _ (by omega)).trans ((hb.block _ (by omega)).trans c1), c2⟩, ?_, ?_, fun b e e2 => ?_, ?_⟩
  · rw [firsts_succ]
    exact ho.keep (by omega) fun b _ hbb => hoth b (by
      rcases hbb with h | h
      · exact h.elim
      · have := (ho.low b h).1; omega)
  · have t9 := h.terms.move (w' := w9) (P' := fun b => w.heap.size + 2 ≤ b ∧ va'.ownBlock ≠ some b) hg.size (fun b e hlt => hg.block b hlt fun e2 => h.apart b e2.symm e) (fun b hp hlt => ⟨⟨hp.1, fun e => (hv b e).elim hp.2 fun h => by omega⟩, hg.block b hlt fun e2 => hp.2 e2.symm⟩)
    exact t9.move (by omega) (fun b e _ => hoth b (by have := (t9.low b e).1; omega)) fun b hp _ => ⟨hp, hoth b (by omega)⟩
  · have := (h.terms.low b e2).2
    rcases hv b e with h' | h'
    · exact h.apart b h' e2
    · omega
  · exact (h.bel.trans (hb.mono (by omega))).setCell (by simp) _
/-- the next term is put behind d's -/
theorem SmdAt.trm {f : Int} {ts : List Tm} {w W w9 : World} {i j : Nat} {va vt vt' : Value} {T : Tm} (h : SmdAt f ts w i j va vt W) (ho : OwnSl w9 (w.heap.size + 2) (fun b => w.heap.size + 2 ≤ b ∧ va.ownBlock ≠ some b) vt' (ts.take j ++ [T])) (htk : ts.take (j + 1) = ts.take j ++ [T])
    (hb : Below (w.heap.size + 2) W w9) (hg : W.grownBy w9 vt.ownBlock) (hv : ∀ k, vt'.ownBlock = some k → vt.ownBlock = some k ∨ W.heap.size ≤ k) :
    w9.cell? ⟨w.heap.size + 1, 2, none⟩ = some vt ∧ w9.frozen? ⟨w.heap.size + 1, 2, none⟩ = false ∧ SmdAt f ts w i (j + 1) va vt' (w9.setCell ⟨w.heap.size + 1, 2, none⟩ vt') := by
  have r9 := (hb.block (w.heap.size + 1) (by omega)).trans h.row
  have hoth : ∀ b, b ≠ w.heap.size + 1 → (w9.setCell ⟨w.heap.size + 1, 2, none⟩ vt').heap[b]? = w9.heap[b]? := fun b hb => Below.heap_setCell _ _ _ _ hb
  have hsz : (w9.setCell ⟨w.heap.size + 1, 2, none⟩ vt').heap.size = w9.heap.size := by simp [World.setCell]
  obtain ⟨cs, c1, c2⟩ := h.res
  refine ⟨(row7 r9).2.2.1, frozen_of_row w9 _ _ _ _ r9, heap_setCell_same w9 (w.heap.size + 1) 2 _ _ vt' r9, ⟨cs, (hoth _ (by omega)).trans ((hb.block _ (by omega)).trans c1), c2⟩, ?_, ?_, fun b e e2 => ?_, ?_⟩
  · have a9 := h.args.keep (w' := w9) hg.size fun b hlt hbb => hg.block b hlt (by
      rcases hbb with h' | h'
      · exact h'.elim
      · exact fun e2 => h.apart b h' e2.symm)
    exact a9.keep (by omega) fun b _ hbb => hoth b (by
      rcases hbb with h' | h'
      · exact h'.elim
      · have := (a9.low b h').1; omega)
  · rw [htk]
    exact ho.move (by omega) (fun b e _ => hoth b (by have := (ho.low b e).1; omega)) fun b hp _ => ⟨hp, hoth b (by omega)⟩
  · have := (h.args.low b e).2
    rcases hv b e2 with h' | h'
    · exact h.apart b e h'
    · omega
  · exact (h.bel.trans (hb.mono (by omega))).setCell (by simp) _
set_option maxRecDepth 100000 in
set_option maxHeartbeats 4000000 in
theorem sh_made (f : Int) (ts : List Tm) (v : Value) (P : Nat → Prop) (w : World) (hf0 : 0 ≤ f) (hf1 : f ≤ 100) (hn : ts.length ≤ 100) (hM : ∀ t ∈ ts, t.size ≤ 1000000000) (h : IsSl w P v ts) :
    Calls Try.prog 106 #[.int .i64 f, v] w (fun e w' => ∃ va vt, e = .returned (.agg #[.bool true, va, vt, .int .i64 0, .int .i64 0, .string ⟨#[]⟩, .slice none 0 0]) ∧ IntSl w' (fun b => w.heap.size + 2 ≤ b) va (firsts f ts.length) ∧ IsSl w' (fun b => w.heap.size ≤ b) vt ts ∧ Below w.heap.size w w') := by
  obtain ⟨a, c, rfl⟩ := h.form
  have H := Lib.hid h.lt
  clear h
  obtain ⟨w1, w2, w3, w4⟩ := two w (.cells #[.bool false, .slice none 0 0, .slice none 0 0, .int .i64 0, .int .i64 0, .string ⟨#[]⟩, .slice none 0 0] 71 (0, 0)) (.cells #[.bool true, .slice none 0 0, .slice none 0 0, .int .i64 0, .int .i64 0, .string ⟨#[]⟩, .slice none 0 0] 71 (0, 0))
  have HST := Lib.hid (show SmdRel f ts w (.int .i64 ((0 : Nat) : Int)) _ from ⟨0, _, _, by omega, rfl, w2, ⟨_, w1, rfl⟩, Own.nil _ _ _, OwnSl.nil _ _ _, fun b e => by simp [Value.ownBlock] at e, w4⟩)
  clear w1 w2 w3 w4
  go_enter Try.func106, Try.ntmps106
  go_wp2
  go_loopw [11] (fun v11 wr => SmdRel f ts w v11 wr) (fun v11 _ => ts.length - (intOf v11).toNat)
  case atStart => exact HST.out
  case round =>
    clear HST
    obtain ⟨i, va, vt, hi, rfl, hm⟩ := hrel
    obtain ⟨q1, k1, e1⟩ := own_formX hm.args
    rw [firsts_len] at e1
    subst e1
    obtain ⟨q2, k2, e2⟩ := hm.terms.form
    rw [List.length_take, Nat.min_eq_left hi] at e2
    subst e2
    have hlt1 := (Array.getElem?_eq_some_iff.1 hm.row).1
    have HM := Lib.hid hm
    clear hm
    by_cases hin : i < ts.length
    · have b1 : decide ((i : Int) < (ts.length : Int)) = true := by simp; omega
      obtain ⟨bk, off, e1, hbk, hat⟩ := (H.out.below HM.out.bel).at i hin
      subst e1
      obtain ⟨T, hT⟩ : ∃ T, T = ts[i] := ⟨_, rfl⟩
      rw [← hT] at hat
      obtain ⟨qa, qc, y0, y1, y2, y3, hit, hbw⟩ := hat.read
      have htk : ts.take (i + 1) = ts.take i ++ [T] := by rw [List.take_succ_eq_append_getElem hin, hT]
      have hTs : T.size ≤ 1000000000 := by rw [hT]; exact hM _ (List.getElem_mem _)
      have hba : Below wr.heap.size wr (wr.alloc (.cells #[.int .i64 T.k, .int .i64 T.n, .string T.s, .slice qa T.args.length qc] 49 (0, 0))) := (Below.refl _ _).alloc (Nat.le_refl _) _
      have hbb : Below wr.heap.size wr ((wr.alloc (.cells #[.int .i64 T.k, .int .i64 T.n, .string T.s, .slice qa T.args.length qc] 49 (0, 0))).alloc (.cells #[.int .i64 (f + (i : Int))] 3 (0, 0))) := hba.alloc hba.size _
      have HIT := Lib.hid (hit.below hbb)
      have HM2 := Lib.hid (HM.out.below hbb)
      have HTK := Lib.hid htk
      have HN := Lib.hid (two wr (.cells #[.int .i64 T.k, .int .i64 T.n, .string T.s, .slice qa T.args.length qc] 49 (0, 0)) (.cells #[.int .i64 (f + (i : Int))] 3 (0, 0))).2.1
      have HTR := Lib.hid (two wr (.cells #[.int .i64 T.k, .int .i64 T.n, .string T.s, .slice qa T.args.length qc] 49 (0, 0)) (.cells #[.int .i64 (f + (i : Int))] 3 (0, 0))).1
      obtain ⟨z0, z1, z2, -⟩ := row7 HM.out.row
      have hbw2 := HM2.out.bel.size
      have hrlt := (Array.getElem?_eq_some_iff.1 HM2.out.row).1
      have HZ := Lib.hid (show w.heap.size + 2 ≤ ((wr.alloc (.cells #[.int .i64 T.k, .int .i64 T.n, .string T.s, .slice qa T.args.length qc] 49 (0, 0))).alloc (.cells #[.int .i64 (f + (i : Int))] 3 (0, 0))).heap.size by omega)
      clear hT hat hit htk hba hbb hbw2 hrlt
      go_wp2_with (with_reducible show wpList _ _ _ (⟨some 22, _, _, _, _, _⟩ :: _) _ _
                   go_must (
                     refine wpList_put (K := jKind) rfl (.tmp 17) (.tmp 21) _ rfl Try.underlying38 info_j rfl (w.heap.size + 2) (fun _ => False) _ (firsts f i) [.int .i64 (f + (i : Int))] (f + (i : Int)) _ _ _ _ rfl HM2.out.args rfl HN.out rfl (by rw [firsts_len]; unfold maxLen; omega) (by rw [firsts_len]; omega) HZ.out ?_
                     intro va' w9 ho9 hb9 hg9 hv9
                     obtain ⟨q3, k3, e3⟩ := own_formX ho9
                     rw [List.length_append, firsts_len, List.length_singleton] at e3
                     subst e3
                     obtain ⟨hx1, hfz, hm9⟩ := HM2.out.num ho9 hb9 hg9 hv9
                     have HM9 := Lib.hid hm9
                     have hit9 := HIT.out.lt.imp (w' := w9.setCell ⟨w.heap.size + 1, 1, none⟩ (.slice q3 (i + 1) k3)) (P' := fun b => b < w.heap.size) (fun b hb => hb.1.2) (fun b hb hlt => (Below.heap_setCell _ _ _ _ (show b ≠ w.heap.size + 1 by have := hb.1.2; omega)).trans (hb9.block b (by have := hb.1.2; omega)))
                     have HIT9 := Lib.hid hit9
                     have HTR9 := Lib.hid ((Below.heap_setCell w9 ⟨w.heap.size + 1, 1, none⟩ (.slice q3 (i + 1) k3) wr.heap.size (by show wr.heap.size ≠ w.heap.size + 1; omega)).trans ((hg9.block wr.heap.size (by simp; omega) (fun e => by have := (HM.out.args.low _ e.symm).2; omega)).trans HTR.out))
                     clear hit9
                     clear ho9 hb9 hv9 hm9 hg9 z0 z1 z2))
      clear HM2 HTR HN HZ HIT
      go_upto_region 6 with fail
      generalize w9.setCell ⟨w.heap.size + 1, 1, none⟩ (.slice q3 (i + 1) k3) = W1 at *
      refine wp_region_rest (by kernel_rfl) ?_
      have hd := (Below.refl W1.heap.size W1).drew
      have HMA := Lib.hid (HM9.out.below hd)
      have HITA := Lib.hid (HIT9.out.below hd)
      have HTRA := Lib.hid ((hd.block _ (Array.getElem?_eq_some_iff.1 HTR9.out).1).trans HTR9.out)
      clear hd HM9 HIT9 HTR9 hx1 hfz
      generalize W1.drew = W2 at *
      have ltd := (Array.getElem?_eq_some_iff.1 HMA.out.row).1
      have ltt := (Array.getElem?_eq_some_iff.1 HTRA.out).1
      have hvd : (Value.slice q2 i k2).ownBlock ≠ some (w.heap.size + 1) := fun e => by have := (HMA.out.terms.low _ e).1; omega
      have hvt : (Value.slice q2 i k2).ownBlock ≠ some wr.heap.size := fun e => by have := (HM.out.terms.low _ e).2; omega
      refine rest_chainM (fun u => Keeps W2 u (fun b => (Value.slice q2 i k2).ownBlock = some b)) 0 5 [(false, 0), (false, 1), (false, 2), (true, 3), (true, 4)] [(false, _), (false, _), (false, _), (true, _), (true, _)] rfl (by kernel_rfl) (by kernel_rfl) (by kernel_rfl) (by kernel_rfl) (.inr (by kernel_rfl)) (Keeps.refl _ _) ?_
      refine chainM_soft (a1 := ?ma1) (by kernel_rfl) ?mh1 ?mr1
      case mh1 =>
        intro u hu E hE
        go_wp2
        rfl
      refine chainM_soft (a1 := ?ma2) (by kernel_rfl) ?mh2 ?mr2
      case mh2 =>
        intro u hu E hE
        obtain ⟨-, -, z2, -⟩ := row7 ((hu.block _ ltd hvd).trans HMA.out.row)
        go_wp2
        rfl
      refine chainM_soft (a1 := ?ma3) (by kernel_rfl) ?mh3 ?mr3
      case mh3 =>
        intro u hu E hE
        obtain ⟨t0, t1, t2, t3⟩ := row4 ((hu.block _ ltt hvt).trans HTRA.out)
        go_wp2
        rfl
      refine chainM_one ?_
      intro E hE
      go_wp2_with (refine (sh_own T.size T _ _ _ (Nat.le_refl _) hTs HITA.out).mono ?_; rintro e10 w10 ⟨ta, tc, rfl, hi10, hb10⟩; have HB10 := Lib.hid hb10; have HI10 := Lib.hid hi10; clear hb10 hi10)
      refine ⟨Keeps.of HB10.out, ?_⟩
      unfold aggT
      refine chainM_one ?_
      intro E hE
      go_wp2
      refine ⟨Keeps.of (HB10.out.trans (((Below.refl w10.heap.size w10).alloc (Nat.le_refl _) _).mono HB10.out.size)), ?_⟩
      refine chainM_nil ?_
      have hbc : Below w10.heap.size w10 (w10.alloc (.cells #[.int .i64 T.k, .int .i64 T.n, .string T.s, .slice ta T.args.length tc] 49 (0, 0))) := (Below.refl w10.heap.size w10).alloc (Nat.le_refl _) _
      have HMB := Lib.hid ((HMA.out.below HB10.out).below hbc)
      have HMC := Lib.hid (HMA.out.below HB10.out)
      refine rest_lineL 5 8 [_, _, _] rfl (by kernel_rfl) (by decide) (by decide) (by kernel_rfl) ?_
      have hit := (HI10.out.below hbc).imp (P' := fun b => (w.heap.size + 2 ≤ b ∧ (Value.slice q3 (i + 1) k3).ownBlock ≠ some b) ∧ (Value.slice q2 i k2).ownBlock ≠ some b) (fun b hb => ⟨⟨by omega, fun e => by have := (HMA.out.args.low _ e).2; omega⟩, fun e => by have := (HMA.out.terms.low _ e).2; omega⟩) fun _ _ _ => rfl
      have HIT3 := Lib.hid hit
      have hn10 := heap_alloc_new w10 (.cells #[.int .i64 T.k, .int .i64 T.n, .string T.s, .slice ta T.args.length tc] 49 (0, 0))
      have HN10 := Lib.hid hn10
      have HZ10 := Lib.hid (show w.heap.size + 2 ≤ (w10.alloc (.cells #[.int .i64 T.k, .int .i64 T.n, .string T.s, .slice ta T.args.length tc] 49 (0, 0))).heap.size by have := hbc.size; have := HB10.out.size; omega)
      clear hit hn10 hbc HI10 HMC
      go_wp2_with (with_reducible show wpList _ _ _ (⟨some 29, _, _, _, _, _⟩ :: _) _ _
                   go_must (
                     refine wpList_push_at rfl (.tmp 25) (.tmp 28) rfl (w.heap.size + 2) (fun b => w.heap.size + 2 ≤ b ∧ (Value.slice q3 (i + 1) k3).ownBlock ≠ some b) (.slice q2 i k2) (ts.take i) _ _ _ _ T _ _ _ _ rfl HMB.out.terms rfl HN10.out HIT3.out (by rw [List.length_take]; omega) HZ10.out ?_
                     intro vt' w11 ho11 hb11 hg11 hv11
                     obtain ⟨q4, k4, e4⟩ := ho11.form
                     rw [List.length_append, List.length_take, Nat.min_eq_left hi, List.length_singleton] at e4
                     subst e4
                     obtain ⟨hx2, hfz2, hm11⟩ := HMB.out.trm ho11 HTK.out hb11 hg11 hv11
                     have HRL := Lib.hid (show SmdRel f ts w (.int .i64 ((i + 1 : Nat) : Int)) _ from ⟨i + 1, _, _, by omega, rfl, hm11⟩)
                     clear ho11 hb11 hg11 hv11 hm11))
      refine then_rest (rest_end (by decide) ?_)
      go_wp2
      go_roundw
      case measure => simp [intOf]; omega
      case rel => exact HRL.out
    · have b1 : decide ((i : Int) < (ts.length : Int)) = false := by simp; omega
      have e : i = ts.length := by omega
      subst e
      obtain ⟨z0, z1, z2, z3, z4, z5, z6⟩ := row7 HM.out.row
      obtain ⟨cs, hcs, hcz⟩ := HM.out.res
      have HCS := Lib.hid hcs
      clear hcs
      go_wp2_with (with_reducible show wpList _ _ _ (⟨none, .store _ (.tmp 4) _, _, _, _, _⟩ :: _) _ _
                   go_must (
                     refine wpList_store_row rfl 71 (.tmp 4) (.tmp 32) rfl w.heap.size #[.bool true, .slice q1 ts.length k1, .slice q2 ts.length k2, .int .i64 0, .int .i64 0, .string ⟨#[]⟩, .slice none 0 0] rfl rfl _ _ HCS.out size_did hcz (one7 _ _ _ _ _ _ _) ?_))
      have hz := setRow_heap wr w.heap.size _ (#[.bool true, .slice q1 ts.length k1, .slice q2 ts.length k2, .int .i64 0, .int .i64 0, .string ⟨#[]⟩, .slice none 0 0] : Array Value) _ _ HCS.out
      have hl := HM.out.bel
      have hai := HM.out.args.keep (w' := wr.setRow w.heap.size #[.bool true, .slice q1 ts.length k1, .slice q2 ts.length k2, .int .i64 0, .int .i64 0, .string ⟨#[]⟩, .slice none 0 0]) (by simp) fun b _ hbb => setRow_other _ _ _ _ (by
        rcases hbb with h' | h'
        · exact h'.elim
        · have := (HM.out.args.low b h').1; omega)
      have hti := HM.out.terms.reads.imp (w' := wr.setRow w.heap.size #[.bool true, .slice q1 ts.length k1, .slice q2 ts.length k2, .int .i64 0, .int .i64 0, .string ⟨#[]⟩, .slice none 0 0]) (P' := fun b => w.heap.size ≤ b) (fun b hb => by rcases hb with h' | h' <;> omega) fun b hb _ => setRow_other _ _ _ _ (by rcases hb with h' | h' <;> omega)
      rw [List.take_length] at hti
      exact bodyPost_ret (v := .agg #[.bool true, .slice q1 ts.length k1, .slice q2 ts.length k2, .int .i64 0, .int .i64 0, .string ⟨#[]⟩, .slice none 0 0]) (results_cell_row Try.results106 _ _ w.heap.size _ _ _ _ rfl hz Try.underlying71 rfl (by kernel_rfl)) rfl ⟨_, _, rfl, own_intsJ hai, hti, ⟨hl.os, hl.tape, hl.output, by simpa using hl.size, fun b hb => (setRow_other _ _ _ _ (by omega)).trans (hl.block b hb)⟩⟩
end Go.Proofs.Ytkhchmgdaolojaa.Tms
