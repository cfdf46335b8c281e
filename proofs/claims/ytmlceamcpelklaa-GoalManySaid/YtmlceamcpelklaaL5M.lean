
/-
  GoalMany, walked over the program.
-/
import Derived.Test.YtmlceamcpelklaaL5B
import Derived.Test.YtmlceamcpelklaaChw
import Derived.Test.YtmlceamcpelklaaPss
namespace Go.Proofs.Ytmlceamcpelklaa.Tms
open Go Go.RowKit Go.Proofs.Ytmlceamcpelklaa.Reg Go.Proofs.Ytmlceamcpelklaa.Rws
set_option linter.unusedVariables false

theorem goalS_snoc (O : List Tm) (T : Tm) : goalS (O ++ [T]) = goalS O ++ flatG T := by
  induction O with
  | nil => simp [goalS]
  | cons x O ih => simp only [List.cons_append, goalS, ih, List.append_assoc]
/-- the two slices that the first loop keeps, apart from one another -/
structure Mn (w : World) (O : List Tm) (vo vf : Value) (wr : World) (Po Pf : Nat → Prop) : Prop where
  own : Own tmKind wr w.heap.size Po vo O
  flat : Own tmKind wr w.heap.size Pf vf (goalS O)
  pO : ∀ b, Po b → b < wr.heap.size ∧ vf.ownBlock ≠ some b
  pF : ∀ b, Pf b → b < wr.heap.size ∧ vo.ownBlock ≠ some b
  apart : ∀ b, vo.ownBlock = some b → vf.ownBlock ≠ some b
  bel : Below w.heap.size w wr
def MnRel (w : World) (LL : List (List Pt)) (vo vf vi : Value) (wr : World) : Prop :=
  ∃ (k : Nat) (Po Pf : Nat → Prop), k ≤ LL.length ∧ vi = .int .i64 (k : Int) ∧ Mn w ((LL.take k).map goodT) vo vf wr Po Pf ∧ sizeL ((LL.take k).map goodT) ≤ 421 * k
theorem mn_start (w wr : World) (LL : List (List Pt)) (hb : Below w.heap.size w wr) : MnRel w LL (.slice none 0 0) (.slice none 0 0) (.int .i64 ((0 : Nat) : Int)) wr :=
  ⟨0, fun _ => False, fun _ => False, by omega, rfl, ⟨Own.nil _ _ _, Own.nil _ _ _, fun _ h => h.elim, fun _ h => h.elim, fun b h => by simp [Value.ownBlock] at h, hb⟩, by simp [sizeL]⟩

theorem Keeps.put {w u : World} {M : Nat → Prop} {b : Nat} (h : Keeps w u M) (hM : M b) (cs : Array Value) : Keeps w (u.setRow b cs) M :=
  ⟨h.os, h.tape, h.output, by have := h.size; simpa using this, fun k hk hn => (setRow_other _ _ _ _ (fun e => hn (by rw [e]; exact hM))).trans (h.block k hk hn)⟩
/-- the two variables of the second loop -/
structure Lm (O : List Tm) (n1 p8 p9 : Nat) (W2 wr : World) (m : Nat) (T : Tm) (q : Option Addr) (c : Nat) (T' : Tm) (q' : Option Addr) (c' : Nat) : Prop where
  l : wr.heap[p8]? = some (rowT T q c)
  li : IsTm wr (fun b => b ≠ p8 ∧ b ≠ p9) (aggT T q c) T
  lf : flatG T = goalS (O.take (m + 1))
  ls : T.size ≤ 6001 * (m + 1)
  r : wr.heap[p9]? = some (rowT T' q' c')
  ri : IsTm wr (fun b => b ≠ p8 ∧ b ≠ p9) (aggT T' q' c') T'
  rf : flatG T' = goalS (O.drop (n1 - m))
  rs : T'.size ≤ 6001 * (m + 1)
  keeps : Keeps W2 wr (fun b => b = p8 ∨ b = p9)
def LmRel (O : List Tm) (n1 p8 p9 : Nat) (W2 : World) (vi : Value) (wr : World) : Prop := ∃ m T q c T' q' c', m ≤ n1 ∧ vi = .int .i64 ((m + 1 : Nat) : Int) ∧ Lm O n1 p8 p9 W2 wr m T q c T' q' c'
theorem goalS_size : ∀ l : List Tm, sizeL (goalS l) ≤ sizeL l
  | [] => by simp [goalS]
  | t :: l => by
    have app : ∀ l m : List Tm, sizeL (l ++ m) = sizeL l + sizeL m := by
      intro l m
      induction l with
      | nil => simp [sizeL]
      | cons t l ih => simp only [List.cons_append, sizeL, ih]; omega
    have h1 := flatG_size _ t (Nat.le_refl _)
    have h2 := goalS_size l
    simp only [goalS, app, sizeL]; omega
theorem goalS_one (T : Tm) : goalS [T] = flatG T := by simp [goalS]
theorem twin_rows (w : World) (a b : Obj) : (((w.alloc a).alloc b).heap[w.heap.size]? = some a) ∧ (((w.alloc a).alloc b).heap[w.heap.size + 1]? = some b) ∧ Below w.heap.size w ((w.alloc a).alloc b) ∧ ((w.alloc a).alloc b).heap.size = w.heap.size + 1 + 1 := by
  refine ⟨?_, ?_, ((Below.refl _ _).alloc (Nat.le_refl _) _).alloc (by simp) _, by simp⟩
  · rw [heap_alloc_old _ _ (by simp), heap_alloc_new]
  · have := heap_alloc_new (w.alloc a) b; simpa using this

set_option maxRecDepth 100000 in
set_option maxHeartbeats 16000000 in
theorem law_many (LL : List (List Pt)) (v1 : Value) (w : World) (h1 : PsSl w v1 LL) : Calls Try.prog 6 #[v1] w (Says true w) := by
  obtain ⟨a1, c1, rfl, hc1, hm1, hat⟩ := h1
  have HAT := Lib.hid hat
  clear hat
  by_cases g0 : LL.length = 0
  · have d0 : ((LL.length : Int) == 0) = true := by simp [g0]
    have GZ := Lib.hid g0
    clear g0
    go_enter Try.func6, Try.ntmps6
    go_wp2_with (go_at_call 14; refine (l5_alive _).mono ?_; rintro e1 w1 ⟨rfl, hb1⟩; have HB := Lib.hid hb1; clear hb1)
    go_ret
    exact ⟨rfl, HB.out⟩
  have d0 : ((LL.length : Int) == 0) = false := by rw [beq_eq_false_iff_ne]; omega
  by_cases g1 : 12 < LL.length
  · have d1 : decide (12 < (LL.length : Int)) = true := by simp; omega
    go_enter Try.func6, Try.ntmps6
    go_wp2_with (go_at_call 14; refine (l5_alive _).mono ?_; rintro e1 w1 ⟨rfl, hb1⟩; have HB := Lib.hid hb1; clear hb1)
    go_ret
    exact ⟨rfl, HB.out⟩
  have d1 : decide (12 < (LL.length : Int)) = false := by simp; omega
  go_enter Try.func6, Try.ntmps6
  go_wp2_with (go_at_call 14; refine (l5_alive _).mono ?_; rintro e1 w1 ⟨rfl, hb1⟩; have HB := Lib.hid hb1; clear hb1)
  have HST := Lib.hid (mn_start w w1 LL HB.out)
  go_loopw [3, 4, 23] (fun vo vf vi wr => MnRel w LL vo vf vi wr) (fun _ _ vi _ => LL.length - (intOf vi).toNat)
  case atStart => exact HST.out
  case round =>
    obtain ⟨k, Po, Pf, hk, rfl, inv, hsz⟩ := hrel
    have INV := Lib.hid inv
    have HSZ := Lib.hid hsz
    clear HST inv hsz
    by_cases hkl : k < LL.length
    · obtain ⟨b, off, u, ea, hlt, hcell, hpt⟩ := HAT.out k hkl
      obtain ⟨pa, pc, rfl, hp1, hp2⟩ := hpt.form
      have x0 := (INV.out.bel.cell (p := ⟨b, off + k, none⟩) hlt).trans hcell
      have HPT := Lib.hid (hpt.below INV.out.bel)
      have hin : (k : Int) < (LL.length : Int) := by omega
      have htk : (LL.take (k + 1)).map goodT = (LL.take k).map goodT ++ [goodT LL[k]] := by rw [List.take_succ_eq_append_getElem hkl, List.map_append]; rfl
      have HTK := Lib.hid htk
      subst ea
      clear hpt hcell htk
      by_cases g3 : 60 < LL[k].length
      · have d3 : decide (60 < (LL[k].length : Int)) = true := by simp; omega
        generalize LL[k] = N at *
        go_wp2_with (go_at_call 15; refine (ref_great N _ _ HPT.out).mono ?_; rintro e2 w2 ⟨rfl, rfl⟩)
        go_ret
        exact ⟨rfl, INV.out.bel⟩
      have d3 : decide (60 < (LL[k].length : Int)) = false := by simp; omega
      generalize LL[k] = N at *
      have zN := goodT_size N
      have hll : ((LL.take k).map goodT).length = k := by simp; omega
      have HLL := Lib.hid hll
      clear hll
      go_wp2_with fail
      refine (ref_great N _ _ HPT.out).mono ?_; rintro e2 w2 ⟨rfl, rfl⟩
      go_wp2_with fail
      refine (ref_good N _ _ (by omega) HPT.out).mono ?_
      rintro e2 w2 ⟨v2, rfl, hi2, hb2⟩
      obtain ⟨qt, ct, rfl⟩ := hi2.form
      generalize goodT N = T at *
      generalize (LL.take k).map goodT = O at *
      have VT := Lib.hid (Var.new hi2)
      have IT := Lib.hid (hi2.below (below_new w2 (rowT T qt ct)))
      have hb3 := hb2.trans ((below_new w2 (rowT T qt ct)).mono hb2.size)
      have HB3 := Lib.hid hb3
      have HB3z := Lib.hid hb2.size
      clear x0 hi2 hb2 hb3
      go_wp2
      refine wp_region_rest (by kernel_rfl) ?_
      have hdw : Below (w2.alloc (rowT T qt ct)).heap.size (w2.alloc (rowT T qt ct)) (w2.alloc (rowT T qt ct)).drew := (Below.refl _ _).drew
      replace VT := Lib.hid (VT.out.below hdw)
      have IT0 := Lib.hid ((IT.out.below hdw).lt.imp (P' := fun b => wr.heap.size ≤ b ∧ b < (w2.alloc (rowT T qt ct)).drew.heap.size) (fun b h => ⟨h.1.elim (fun h => h.elim) fun h => h, h.2⟩) fun _ _ _ => rfl)
      replace HB3 := Lib.hid (HB3.out.trans (hdw.mono HB3.out.size))
      have hp7 : wr.heap.size ≤ w2.heap.size := by have h := HB3z.out; exact h
      clear hdw IT
      generalize (w2.alloc (rowT T qt ct)).drew = W0 at *
      generalize w2.heap.size = p7 at *
      have hlo : ∀ b, u3.ownBlock = some b → b < wr.heap.size := fun b h => (INV.out.own.low b h).2
      have hlf : ∀ b, u4.ownBlock = some b → b < wr.heap.size := fun b h => (INV.out.flat.low b h).2
      have hwr : w.heap.size ≤ wr.heap.size := INV.out.bel.size
      have hW0 : wr.heap.size ≤ W0.heap.size := HB3.out.size
      have OWN0 := Lib.hid ((Own.mono INV.out.own (P' := fun b => (Po b ∧ b < wr.heap.size) ∨ (wr.heap.size ≤ b ∧ b < W0.heap.size)) fun b h hb => .inl ⟨h, hb⟩).below HB3.out)
      have FLAT0 := Lib.hid ((Own.mono INV.out.flat (P' := fun b => Pf b ∧ b < wr.heap.size) fun b h hb => ⟨h, hb⟩).below HB3.out)
      have hpt : p7 < W0.heap.size := VT.out.lt
      have hOl : O.length = k := HLL.out
      refine rest_chainM (fun u => Keeps W0 u (fun b => u3.ownBlock = some b)) 0 7 [(false, 0), (false, 1), (false, 4), (false, 5), (true, 2), (true, 3), (true, 6)] [(false, _), (false, _), (false, _), (false, _), (true, _), (true, _), (true, _)] rfl (by kernel_rfl) (by kernel_rfl) (by kernel_rfl) (by kernel_rfl) (.inr (by kernel_rfl)) (Keeps.refl _ _) ?_
      refine chainM_soft (a1 := ?ma1) (by kernel_rfl) ?mh1 ?mr1
      case mh1 =>
        intro u hu E hE
        go_wp2
        rfl
      refine chainM_soft (a1 := ?ma2) (by kernel_rfl) ?mh2 ?mr2
      case mh2 =>
        intro u hu E hE
        obtain ⟨y0, y1, y2, y3⟩ := row4 ((hu.block p7 hpt (fun e => by have := hlo p7 e; omega)).trans VT.out.row)
        go_wp2
        rfl
      refine chainM_soft (a1 := ?ma3) (by kernel_rfl) ?mh3 ?mr3
      case mh3 =>
        intro u hu E hE
        go_wp2
        rfl
      refine chainM_soft (a1 := ?ma4) (by kernel_rfl) ?mh4 ?mr4
      case mh4 =>
        intro u hu E hE
        obtain ⟨y0, y1, y2, y3⟩ := row4 ((hu.block p7 hpt (fun e => by have := hlo p7 e; omega)).trans VT.out.row)
        go_wp2
        rfl
      refine chainM_one ?_
      intro E hE
      go_wp2
      refine ⟨Keeps.of (below_new W0 (rowT T qt ct)), ?_⟩
      have hb1 := below_new W0 (rowT T qt ct)
      have hr1 := heap_alloc_new W0 (rowT T qt ct)
      have hz1 : (W0.alloc (rowT T qt ct)).heap.size = W0.heap.size + 1 := by simp
      generalize W0.alloc (rowT T qt ct) = u1 at *
      have OWN1 := Lib.hid (OWN0.out.below hb1)
      have FLAT1 := Lib.hid (FLAT0.out.below hb1)
      have IT1 := Lib.hid (IT0.out.below hb1)
      have HB1 := Lib.hid hb1
      have HR1 := Lib.hid hr1
      have YR : Hid (tmKind.R u1 (fun b => ((Po b ∧ b < wr.heap.size) ∨ (wr.heap.size ≤ b ∧ b < W0.heap.size)) ∧ u3.ownBlock ≠ some b) [.int .i64 T.k, .int .i64 T.n, .string T.s, .slice qt T.args.length ct] T) :=
        Lib.hid (tmKind.mono (fun b h => ⟨.inr h, fun e => by have := hlo b e; have := h.1; omega⟩) (fun _ _ _ => rfl) IT1.out.cells)
      clear hb1 hr1
      refine chainM_one ?_
      intro E hE
      refine wpList_put (K := tmKind) rfl (.tmp 31) (.tmp 33) _ rfl Try.underlying25 info_tm rfl w.heap.size _ _ O _ T W0.heap.size 1 _ _ rfl OWN1.out rfl HR1.out YR.out (by unfold maxLen; omega) (by omega) (by omega) ?_
      intro v9 w9 hown hb9 hgr hv9
      have k9 : Keeps W0 w9 (fun b => u3.ownBlock = some b) := (Keeps.of (M := fun b => u3.ownBlock = some b) HB1.out).trans (Keeps.grown (M := fun b => u3.ownBlock = some b) hgr fun b e => .inl e) fun b h => .inl h
      have hlo9 := hown.low
      have OWN9 := Lib.hid hown
      have FLAT9 := Lib.hid (Own.keep FLAT1.out hgr.size fun b hb h => hgr.block b hb fun e => by
        rcases h with h | h
        · exact (INV.out.pF b h.1).2 e.symm
        · exact INV.out.apart b e.symm h)
      have IT9 := Lib.hid (IT1.out.imp (w' := w9) (fun _ h => h) fun b h hb => hgr.block b hb fun e => by have := hlo b e.symm; have := h.1; omega)
      have HG9 := Lib.hid hgr.size
      have HV9 := Lib.hid hv9
      have K9 := Lib.hid k9
      have HBB9 := Lib.hid hb9
      clear hown hb9 hgr hv9 k9
      go_wp2
      refine ⟨K9.out, ?_⟩
      refine chainM_one ?_
      intro E hE
      go_wp2_with (refine (goal_Flat T _ _ _ (by omega) IT9.out).mono ?_; rintro e10 w10 ⟨vF, rfl, hoF, hb10⟩; have HOF := Lib.hid hoF; have HB10 := Lib.hid hb10; clear hoF hb10)
      refine ⟨K9.out.trans (Keeps.of (M := fun b => u3.ownBlock = some b) HB10.out) (fun b h => .inl h), ?_⟩
      refine chainM_nil ?_
      have lT := flatG_len _ T (Nat.le_refl _)
      have nT := flatG_pos _ T (Nat.le_refl _)
      have lO := goalS_len O
      have hsz := HSZ.out
      have hz9 : W0.heap.size + 1 ≤ w9.heap.size := by have := HG9.out; omega
      have hz10 : w9.heap.size ≤ w10.heap.size := HB10.out.size
      have FLAT10 := Lib.hid ((Own.mono FLAT9.out (P' := fun b => (Pf b ∧ b < wr.heap.size) ∨ (wr.heap.size ≤ b ∧ b < W0.heap.size) ∨ (w9.heap.size ≤ b ∧ b < w10.heap.size)) fun b h _ => .inl h).below HB10.out)
      obtain ⟨yss, ⟨r1, r2⟩, r3⟩ := HOF.out
      rcases r2 with ⟨-, hn⟩ | ⟨gb, cb, cur, rfl, hgb, hgc⟩
      · omega
      have hcell := World.ownsRow.cells (g := gb) (⟨r1, .inr ⟨gb, cb, cur, rfl, hgb, hgc⟩⟩ : w10.ownsRow (w9.heap.size + 1) tmKind.T tmKind.sz (.slice (some ⟨gb, 0, none⟩) (flatG T).length cb) (flatG T).length yss.flatten) rfl
      have hy : Each tmKind w10 (fun b => ((Pf b ∧ b < wr.heap.size) ∨ (wr.heap.size ≤ b ∧ b < W0.heap.size) ∨ (w9.heap.size ≤ b ∧ b < w10.heap.size)) ∧ u4.ownBlock ≠ some b) yss (flatG T) :=
        r3.mono (fun b h => ⟨.inr (h.1.imp (fun h => h) fun h2 => ⟨h2, h.2.2⟩), fun e => by have := hlf b e; rcases h.1 with h | h <;> omega⟩) fun _ _ _ => rfl
      have HCELL := Lib.hid hcell
      have HY := Lib.hid hy
      clear hcell hy r1 r3 hgc HOF
      refine rest_lineL 7 10 [_, _, _] rfl (by kernel_rfl) (by decide) (by decide) (by kernel_rfl) ?_
      refine wpList_putN (K := tmKind) rfl (.tmp 35) (.tmp 37) _ rfl Try.underlying25 info_tm rfl w.heap.size _ _ (goalS O) yss (flatG T) ⟨gb, 0, none⟩ cb rfl FLAT10.out rfl (fun j v hv => HCELL.out j v hv) nT HY.out (by unfold maxLen; omega) (by omega) (by omega) ?_
      intro v11 w11 hown11 hb11 hgr11 hv11
      have hz11 := hgr11.size
      have hno : ∀ b, ((Po b ∧ b < wr.heap.size) ∨ (wr.heap.size ≤ b ∧ b < W0.heap.size)) ∨ v9.ownBlock = some b → u4.ownBlock ≠ some b := fun b h e => by
        have h4 := hlf b e
        rcases h with (h | h) | h
        · exact (INV.out.pO b h.1).2 e
        · omega
        · rcases HV9.out b h with h | h
          · exact INV.out.apart b h e
          · omega
      have hnew : Mn w (O ++ [T]) v9 v11 w11 (fun b => (Po b ∧ b < wr.heap.size) ∨ (wr.heap.size ≤ b ∧ b < W0.heap.size)) (fun b => (Pf b ∧ b < wr.heap.size) ∨ (wr.heap.size ≤ b ∧ b < W0.heap.size) ∨ (w9.heap.size ≤ b ∧ b < w10.heap.size)) := by
        refine ⟨?_, by rw [goalS_snoc]; exact hown11, fun b h => ⟨by omega, fun e => ?_⟩, fun b h => ⟨by omega, fun e => ?_⟩, fun b h e => ?_, ?_⟩
        · exact Own.keep (OWN9.out.below HB10.out) hgr11.size fun b hb h => hgr11.block b hb fun e => hno b h e.symm
        · rcases hv11 b e with e | e
          · exact hno b (.inl h) e
          · omega
        · have h9 := hlo9 b e
          rcases HV9.out b e with e | e
          · have h3 := hlo b e
            rcases h with h | h | h
            · exact (INV.out.pF b h.1).2 e
            · omega
            · omega
          · omega
        · have h9 := hlo9 b h
          rcases hv11 b e with e | e
          · exact hno b (.inr h) e
          · omega
        · exact INV.out.bel.trans ((HB3.out.mono hwr).trans ((HB1.out.mono (by omega)).trans (HBB9.out.trans ((HB10.out.mono (by omega)).trans hb11))))
      have HNEW := Lib.hid hnew
      clear hown11 hb11 hgr11 hv11 hnew hno HY HCELL FLAT10 FLAT9 OWN9 IT9 HV9
      go_wp2
      refine then_rest (rest_end (by decide) ?_)
      go_wp2
      go_roundw
      case rel => exact ⟨k + 1, _, _, by omega, by go_num, by rw [HTK.out]; exact HNEW.out, by rw [HTK.out, sizeL_snoc]; omega⟩
      case measure => simp [intOf]; omega
    · obtain rfl : k = LL.length := by omega
      have inv := INV.out
      have hsz := HSZ.out
      rw [List.take_length] at inv hsz
      have hOl : (LL.map goodT).length = LL.length := by simp
      obtain ⟨n1, hn1⟩ : ∃ n1, LL.length = n1 + 1 := ⟨LL.length - 1, by omega⟩
      have hn1s : n1 ≤ 11 := by omega
      generalize LL.map goodT = O at *
      rw [hn1] at hOl
      have hs5 : sizeL O ≤ 6000 := by omega
      obtain ⟨g, cap, e3⟩ : ∃ g cap, u3 = .slice (some ⟨g, 0, none⟩) (n1 + 1) cap := by
        rcases inv.own.form with h | ⟨g, cap, e⟩
        · rw [h.2] at hOl; simp at hOl
        · exact ⟨g, cap, by rw [e, hOl]⟩
      subst e3
      have io := own_reads inv.own
      have ifl := own_reads inv.flat
      have hgl := (inv.own.low g rfl).2
      obtain ⟨fa, fc, rfl⟩ := ifl.form
      have IO := Lib.hid io
      have IFL := Lib.hid ifl
      have HB2 := Lib.hid inv.bel
      have HOL := Lib.hid hOl
      clear INV HSZ inv hsz hOl io ifl hkl hk hn1 HAT
      go_wp2
      refine wp_region_rest (by kernel_rfl) ?_
      have hdw : Below wr.heap.size wr wr.drew := (Below.refl _ _).drew
      replace IO := Lib.hid (IO.out.below hdw).lt
      replace IFL := Lib.hid (IFL.out.below hdw).lt
      replace HB2 := Lib.hid (HB2.out.trans (hdw.mono HB2.out.size))
      have hglt : g < wr.drew.heap.size := hgl
      clear hdw hgl
      generalize wr.drew = W0 at *
      obtain ⟨B0, hB0⟩ : ∃ B0, B0 = W0.heap.size := ⟨_, rfl⟩
      rw [← hB0] at hglt
      obtain ⟨ga, go, eg, -, m0⟩ := IO.out.at 0 (by have := HOL.out; omega)
      obtain ⟨ga', go', eg', -, m1⟩ := IO.out.at n1 (by have := HOL.out; omega)
      simp only [Option.some.injEq, Addr.mk.injEq, and_true] at eg eg'
      obtain ⟨rfl, rfl⟩ := eg
      obtain ⟨rfl, rfl⟩ := eg'
      obtain ⟨pa, pc, p0, p1, p2, p3, pi, -⟩ := m0.read
      obtain ⟨qa, qc, q0, q1, q2, q3, qi, -⟩ := m1.read
      have hl0 : 0 < O.length := by have := HOL.out; omega
      have hA0 : O.take 1 = [O[0]] := by
        have h := List.take_succ_eq_append_getElem hl0
        simpa using h
      have hZ0 : O.drop n1 = [O[n1]'(by have := HOL.out; omega)] := by
        rw [List.drop_eq_getElem_cons (by have := HOL.out; omega), List.drop_of_length_le (by have := HOL.out; omega)]
      have sA := mem_sizeL (List.getElem_mem (l := O) (n := 0) (by have := HOL.out; omega))
      have sZ := mem_sizeL (List.getElem_mem (l := O) (n := n1) (by have := HOL.out; omega))
      simp only [Nat.zero_mul, Nat.add_zero, Nat.zero_add] at p0 p1 p2 p3 q0 q1 q2 q3
      generalize O[0] = A at *
      generalize O[n1]'(by have := HOL.out; omega) = Z at *
      have PI := Lib.hid (pi.lt.imp (P' := fun b => b < B0) (fun _ h => hB0 ▸ h.2) fun _ _ _ => rfl)
      have QI := Lib.hid (qi.lt.imp (P' := fun b => b < B0) (fun _ h => hB0 ▸ h.2) fun _ _ _ => rfl)
      have hnn : ((n1 : Int) + 1 - 1) = n1 := by omega
      have HA0 := Lib.hid hA0
      have HZ0 := Lib.hid hZ0
      clear pi qi m0 m1 hA0 hZ0
      refine rest_chainW (fun u => Below B0 W0 u) 0 12 [.soft 0, .soft 1, .soft 2, .soft 3, .soft 4, .soft 5, .soft 6, .soft 7, .soft 8, .two 9 10, .one 11] [.soft _, .soft _, .soft _, .soft _, .soft _, .soft _, .soft _, .soft _, .soft _, .two _ _, .one _] ⟨rfl, rfl, rfl, rfl, rfl, rfl, rfl, rfl, rfl, rfl, rfl, rfl, trivial⟩ (by kernel_rfl) (by kernel_rfl) (by kernel_rfl) (by kernel_rfl) (.inr (by kernel_rfl)) (Below.refl _ _) ?_
      refine chainW_soft (a1 := ?ma5) (by kernel_rfl) ?mh5 ?mr5
      case mh5 =>
        intro u hu E hE
        go_wp2
        rfl
      refine chainW_soft (a1 := ?ma6) (by kernel_rfl) ?mh6 ?mr6
      case mh6 =>
        intro u hu E hE
        go_wp2
        rfl
      refine chainW_soft (a1 := ?ma7) (by kernel_rfl) ?mh7 ?mr7
      case mh7 =>
        intro u hu E hE
        have up0 := (hu.cell (p := ⟨g, 0, none⟩) hglt).trans p0
        have up1 := (hu.cell (p := ⟨g, 1, none⟩) hglt).trans p1
        have up2 := (hu.cell (p := ⟨g, 2, none⟩) hglt).trans p2
        have up3 := (hu.cell (p := ⟨g, 3, none⟩) hglt).trans p3
        go_wp2
        rfl
      refine chainW_soft (a1 := ?ma8) (by kernel_rfl) ?mh8 ?mr8
      case mh8 =>
        intro u hu E hE
        go_wp2
        rfl
      refine chainW_soft (a1 := ?ma9) (by kernel_rfl) ?mh9 ?mr9
      case mh9 =>
        intro u hu E hE
        go_wp2
        rfl
      refine chainW_soft (a1 := ?ma10) (by kernel_rfl) ?mh10 ?mr10
      case mh10 =>
        intro u hu E hE
        go_wp2
        rfl
      refine chainW_soft (a1 := ?ma11) (by kernel_rfl) ?mh11 ?mr11
      case mh11 =>
        intro u hu E hE
        go_wp2
        rfl
      refine chainW_soft (a1 := ?ma12) (by kernel_rfl) ?mh12 ?mr12
      case mh12 =>
        intro u hu E hE
        go_wp2
        rfl
      refine chainW_soft (a1 := ?ma13) (by kernel_rfl) ?mh13 ?mr13
      case mh13 =>
        intro u hu E hE
        have uq0 := (hu.cell (p := ⟨g, n1 * 4, none⟩) hglt).trans q0
        have uq1 := (hu.cell (p := ⟨g, n1 * 4 + 1, none⟩) hglt).trans q1
        have uq2 := (hu.cell (p := ⟨g, n1 * 4 + 2, none⟩) hglt).trans q2
        have uq3 := (hu.cell (p := ⟨g, n1 * 4 + 3, none⟩) hglt).trans q3
        go_wp2
        rfl
      obtain ⟨r0, r1, rb, rz⟩ := twin_rows W0 (.cells zeroC 27 (0, 0)) (.cells zeroC 27 (0, 0))
      have R0 := Lib.hid r0
      have R1 := Lib.hid r1
      have RB := Lib.hid rb
      have RZ := Lib.hid rz
      have HB0 := Lib.hid hB0
      clear r0 r1 rb rz p0 p1 p2 p3 q0 q1 q2 q3 hB0
      refine chainW_two ?_ ?_
      · intro E hE
        go_wp2
        refine ⟨(below_new W0 _).mono (by have := HB0.out; omega), ?_⟩
        intro E2 hE2
        go_wp2
        have hub : Below B0 W0 ((W0.alloc (.cells zeroC 27 (0, 0))).alloc (.cells zeroC 27 (0, 0))) := RB.out.mono (by have := HB0.out; omega)
        refine ⟨hub, ?_⟩
        generalize (W0.alloc (.cells zeroC 27 (0, 0))).alloc (.cells zeroC 27 (0, 0)) = u at *
        obtain ⟨p8, e8⟩ : ∃ p, p = W0.heap.size := ⟨_, rfl⟩
        obtain ⟨p9, e9⟩ : ∃ p, p = W0.heap.size + 1 := ⟨_, rfl⟩
        have R8 : Hid (u.heap[p8]? = some (.cells zeroC 27 (0, 0))) := Lib.hid (by rw [e8]; exact R0.out)
        have R9 : Hid (u.heap[p9]? = some (.cells zeroC 27 (0, 0))) := Lib.hid (by rw [e9]; exact R1.out)
        have hp : B0 ≤ p8 ∧ B0 ≤ p9 ∧ p8 ≠ p9 ∧ p8 < u.heap.size ∧ p9 < u.heap.size := by have := HB0.out; have := RZ.out; refine ⟨by omega, by omega, by omega, by omega, by omega⟩
        rw [← e9, ← e8]
        have HW0 := Lib.hid HB2.out
        clear e8 e9 R0 R1 RB RZ
        refine chainW_one ?_
        intro E hE
        refine wpList_store_row rfl 27 (.tmp 8) (.tmp 42) rfl p8 #[.int .i64 A.k, .int .i64 A.n, .string A.s, .slice pa A.args.length pc] rfl rfl _ _ R8.out size_term rfl (one4 _ _ _ _ _ _) ?_
        refine hE _ _ ⟨below_setRow hub hp.1 _, ?_⟩
        refine chainW_nil ?_
        refine rest_lineL 12 13 [_] rfl (by kernel_rfl) (by decide) (by decide) (by kernel_rfl) ?_
        have R9' : Hid ((u.setRow p8 #[.int .i64 A.k, .int .i64 A.n, .string A.s, .slice pa A.args.length pc]).heap[p9]? = some (.cells zeroC 27 (0, 0))) := Lib.hid ((setRow_other _ _ _ _ (Ne.symm hp.2.2.1)).trans R9.out)
        refine wpList_store_row rfl 27 (.tmp 9) (.tmp 48) rfl p9 #[.int .i64 Z.k, .int .i64 Z.n, .string Z.s, .slice qa Z.args.length qc] rfl rfl _ _ R9'.out size_term rfl (one4 _ _ _ _ _ _) ?_
        refine then_rest (rest_end (by decide) ?_)
        have hbl : Below B0 W0 ((u.setRow p8 #[.int .i64 A.k, .int .i64 A.n, .string A.s, .slice pa A.args.length pc]).setRow p9 #[.int .i64 Z.k, .int .i64 Z.n, .string Z.s, .slice qa Z.args.length qc]) := below_setRow (below_setRow hub hp.1 _) hp.2.1 _
        have rA : ((u.setRow p8 #[.int .i64 A.k, .int .i64 A.n, .string A.s, .slice pa A.args.length pc]).setRow p9 #[.int .i64 Z.k, .int .i64 Z.n, .string Z.s, .slice qa Z.args.length qc]).heap[p8]? = some (rowT A pa pc) := (setRow_other _ _ _ _ hp.2.2.1).trans (setRow_heap _ _ _ _ _ _ R8.out)
        have rZ : ((u.setRow p8 #[.int .i64 A.k, .int .i64 A.n, .string A.s, .slice pa A.args.length pc]).setRow p9 #[.int .i64 Z.k, .int .i64 Z.n, .string Z.s, .slice qa Z.args.length qc]).heap[p9]? = some (rowT Z qa qc) := setRow_heap _ _ _ _ _ _ R9'.out
        have hB := HB0.out
        have hwB : w.heap.size ≤ B0 := by have := HW0.out.size; omega
        have hzz : u.heap.size ≤ ((u.setRow p8 #[.int .i64 A.k, .int .i64 A.n, .string A.s, .slice pa A.args.length pc]).setRow p9 #[.int .i64 Z.k, .int .i64 Z.n, .string Z.s, .slice qa Z.args.length qc]).heap.size := by simp
        generalize (u.setRow p8 #[.int .i64 A.k, .int .i64 A.n, .string A.s, .slice pa A.args.length pc]).setRow p9 #[.int .i64 Z.k, .int .i64 Z.n, .string Z.s, .slice qa Z.args.length qc] = W2 at *
        have IO2 := Lib.hid (IO.out.imp (w' := W2) (P' := fun b => b < B0) (fun b h => by have := h.2; omega) fun b h _ => hbl.block b (by have := h.2; omega))
        have IF2 := Lib.hid (IFL.out.imp (w' := W2) (P' := fun b => b < B0) (fun b h => by have := h.2; omega) fun b h _ => hbl.block b (by have := h.2; omega))
        have HBW := Lib.hid (HW0.out.trans (hbl.mono hwB))
        have hst : LmRel O n1 p8 p9 W2 (.int .i64 ((0 + 1 : Nat) : Int)) W2 := ⟨0, A, pa, pc, Z, qa, qc, by omega, rfl,
          ⟨rA, PI.out.imp (w' := W2) (fun b h => by refine ⟨?_, ?_⟩ <;> (have h1 := hp.1; have h2 := hp.2.1; have : b < B0 := h; omega)) (fun b h _ => hbl.block b h), by rw [HA0.out, goalS_one], by omega, rZ,
            QI.out.imp (w' := W2) (fun b h => by refine ⟨?_, ?_⟩ <;> (have h1 := hp.1; have h2 := hp.2.1; have : b < B0 := h; omega)) (fun b h _ => hbl.block b h), by rw [Nat.sub_zero, HZ0.out, goalS_one], by omega, Keeps.refl _ _⟩⟩
        have HST := Lib.hid hst
        have hgB : g < B0 := hglt
        have hp2 : p8 < W2.heap.size ∧ p9 < W2.heap.size := ⟨by omega, by omega⟩
        clear hst rA rZ hbl R8 R9 R9' hub IO IFL PI QI HA0 HZ0 HB2 hB sA sZ hnn
        go_wp2
        go_loopw [10] (fun c wr => LmRel O n1 p8 p9 W2 c wr) (fun c _ => n1 + 2 - (intOf c).toNat)
        case atStart => exact HST.out
        case round =>
          obtain ⟨m, T, q, c, T', q', c', hm, rfl, lm⟩ := hrel
          have LM := Lib.hid lm
          have hcast : ((m + 1 : Nat) : Int) = (m : Int) + 1 := by omega
          rw [hcast]
          clear HST lm hcast
          by_cases hmn : m < n1
          · have hlt : (m : Int) + 1 < (n1 : Int) + 1 := by omega
            have hgk : ∀ b, b < B0 → ¬ (b = p8 ∨ b = p9) := fun b h e => by have h1 := hp.1; have h2 := hp.2.1; rcases e with e | e <;> omega
            have IOr := Lib.hid (IO2.out.imp (w' := wr) (P' := fun b => b < B0) (fun _ h => h) fun b h hlt => LM.out.keeps.block b hlt (hgk b h))
            have hzr := LM.out.keeps.size
            obtain ⟨ga, go, eg, -, m0⟩ := IOr.out.at (m + 1) (by have := HOL.out; omega)
            simp only [Option.some.injEq, Addr.mk.injEq, and_true] at eg
            obtain ⟨rfl, rfl⟩ := eg
            obtain ⟨xa, xc, p0, p1, p2, p3, pi, -⟩ := m0.read
            have sX := mem_sizeL (List.getElem_mem (l := O) (n := m + 1) (by have := HOL.out; omega))
            have hTk : O.take (m + 1 + 1) = O.take (m + 1) ++ [O[m + 1]'(by have := HOL.out; omega)] := List.take_succ_eq_append_getElem (by have := HOL.out; omega)
            simp only [Nat.zero_add] at p0 p1 p2 p3
            generalize O[m + 1]'(by have := HOL.out; omega) = X at *
            have HTK := Lib.hid hTk
            have PX := Lib.hid pi
            clear pi m0 hTk
            obtain ⟨y0, y1, y2, y3⟩ := row4 LM.out.l
            have hp8r : p8 < wr.heap.size := by omega
            have hp9r : p9 < wr.heap.size := by omega
            have hgr : g < wr.heap.size := World.block_lt_of_cell? _ _ p0
            go_wp2
            refine wp_region_rest (by kernel_rfl) ?_
            have hdw : Below wr.heap.size wr wr.drew := (Below.refl _ _).drew
            have K0 := Lib.hid (LM.out.keeps.trans (Keeps.of (M := fun b => b = p8 ∨ b = p9) hdw) fun b h => .inl h)
            have L8 := Lib.hid ((hdw.block p8 hp8r).trans LM.out.l)
            have L9 := Lib.hid ((hdw.block p9 hp9r).trans LM.out.r)
            have LI := Lib.hid (LM.out.li.below hdw)
            have RI := Lib.hid (LM.out.ri.below hdw)
            have PX0 := Lib.hid ((PX.out.below hdw).imp (P' := fun b => b ≠ p8 ∧ b ≠ p9) (fun b h => ⟨fun e => hgk b h (.inl e), fun e => hgk b h (.inr e)⟩) fun _ _ _ => rfl)
            replace y0 := (hdw.cell (p := ⟨p8, 0, none⟩) hp8r).trans y0
            replace y1 := (hdw.cell (p := ⟨p8, 1, none⟩) hp8r).trans y1
            replace y2 := (hdw.cell (p := ⟨p8, 2, none⟩) hp8r).trans y2
            replace y3 := (hdw.cell (p := ⟨p8, 3, none⟩) hp8r).trans y3
            replace p0 := (hdw.cell (p := ⟨g, (m + 1) * 4, none⟩) hgr).trans p0
            replace p1 := (hdw.cell (p := ⟨g, (m + 1) * 4 + 1, none⟩) hgr).trans p1
            replace p2 := (hdw.cell (p := ⟨g, (m + 1) * 4 + 2, none⟩) hgr).trans p2
            replace p3 := (hdw.cell (p := ⟨g, (m + 1) * 4 + 3, none⟩) hgr).trans p3
            replace hp8r : p8 < wr.drew.heap.size := hp8r
            replace hp9r : p9 < wr.drew.heap.size := hp9r
            clear hdw IOr hzr PX
            generalize wr.drew = V0 at *
            refine rest_chain 0 7 [(false, [0, 1, 2, 3, 4]), (true, [5]), (true, [6])] [(false, [_, _, _, _, _]), (true, [_]), (true, [_])] rfl (by kernel_rfl) (by kernel_rfl) rfl (by kernel_rfl) (by kernel_rfl) (.inr (by kernel_rfl)) ?_
            refine chain_soft ?_
            intro E hE
            go_wp2
            clear y0 y1 y2 y3 p0 p1 p2 p3
            refine chain_one ?_
            intro E hE
            go_wp2
            have hb5 := below_new V0 (.cells #[.int .i64 T.k, .int .i64 T.n, .string T.s, .slice q T.args.length c, .int .i64 X.k, .int .i64 X.n, .string X.s, .slice xa X.args.length xc] 27 (0, 0))
            refine ⟨hb5, ?_⟩
            have i5 := two_sl (P := fun b => b ≠ p8 ∧ b ≠ p9) (w := V0) (x := T) (y := X) (a := q) (c := c) (a' := xa) (c' := xc) LI.out PX0.out
            have hz5 : (V0.alloc (.cells #[.int .i64 T.k, .int .i64 T.n, .string T.s, .slice q T.args.length c, .int .i64 X.k, .int .i64 X.n, .string X.s, .slice xa X.args.length xc] 27 (0, 0))).heap.size = V0.heap.size + 1 := by simp
            generalize V0.alloc (.cells #[.int .i64 T.k, .int .i64 T.n, .string T.s, .slice q T.args.length c, .int .i64 X.k, .int .i64 X.n, .string X.s, .slice xa X.args.length xc] 27 (0, 0)) = u5 at *
            have hlt5 : p8 < V0.heap.size ∧ p9 < V0.heap.size := ⟨hp8r, hp9r⟩
            have I5 := Lib.hid (i5.imp (P' := fun b => b ≠ p8 ∧ b ≠ p9) (fun b h => h.elim (fun h => h) fun h => ⟨by omega, by omega⟩) fun _ _ _ => rfl)
            have HB5 := Lib.hid hb5
            clear i5 hb5
            generalize hs5' : V0.heap.size = s5 at *
            refine chain_one ?_
            intro E hE
            go_wp2_with (refine (l5_f _ _ _ _ _).mono ?_; rintro e6 u6 ⟨rfl, hb6⟩; have HB6 := Lib.hid hb6; clear hb6)
            refine ⟨HB6.out, ?_⟩
            refine chain_nil ?_
            have hb60 : Below V0.heap.size V0 u6 := by have h5 := HB5.out; rw [← hs5'] at h5; exact h5.trans (HB6.out.mono h5.size)
            have R6 := Lib.hid ((hb60.block p8 (by omega)).trans L8.out)
            have R69 := Lib.hid ((hb60.block p9 (by omega)).trans L9.out)
            have LI6 := Lib.hid (comp_is (s := (⟨#[44]⟩ : ByteArray)) (l := [T, X]) (I5.out.below HB6.out))
            have RI6 := Lib.hid (RI.out.below hb60)
            have K6 := Lib.hid (K0.out.trans (Keeps.of (M := fun b => b = p8 ∨ b = p9) hb60) fun b h => .inl h)
            have hz6 : V0.heap.size ≤ u6.heap.size := hb60.size
            clear I5 HB5 HB6 hb60 L8 L9 LI RI K0 PX0
            refine rest_lineL 7 8 [_] rfl (by kernel_rfl) (by decide) (by decide) (by kernel_rfl) ?_
            refine wpList_store_row rfl 27 (.tmp 8) (.tmp 61) rfl p8 #[.int .i64 4, .int .i64 0, .string (⟨#[44]⟩ : ByteArray), .slice (some ⟨s5, 0, none⟩) 2 2] rfl rfl _ _ R6.out size_term rfl (one4 _ _ _ _ _ _) ?_
            refine then_rest (rest_end (by decide) ?_)
            have k7 := Keeps.put K6.out (.inl rfl) #[.int .i64 4, .int .i64 0, .string (⟨#[44]⟩ : ByteArray), .slice (some ⟨s5, 0, none⟩) 2 2]
            have v7 : (u6.setRow p8 #[.int .i64 4, .int .i64 0, .string (⟨#[44]⟩ : ByteArray), .slice (some ⟨s5, 0, none⟩) 2 2]).heap[p8]? = some (rowT (compT (⟨#[44]⟩ : ByteArray) [T, X]) (some ⟨s5, 0, none⟩) 2) := setRow_heap _ _ _ _ _ _ R6.out
            have v79 : (u6.setRow p8 #[.int .i64 4, .int .i64 0, .string (⟨#[44]⟩ : ByteArray), .slice (some ⟨s5, 0, none⟩) 2 2]).heap[p9]? = some (rowT T' q' c') := (setRow_other _ _ _ _ (Ne.symm hp.2.2.1)).trans R69.out
            have li7 := LI6.out.imp (w' := u6.setRow p8 #[.int .i64 4, .int .i64 0, .string (⟨#[44]⟩ : ByteArray), .slice (some ⟨s5, 0, none⟩) 2 2]) (P' := fun b => b ≠ p8 ∧ b ≠ p9) (fun _ h => h) fun b h _ => setRow_other _ _ _ _ h.1
            have ri7 := RI6.out.imp (w' := u6.setRow p8 #[.int .i64 4, .int .i64 0, .string (⟨#[44]⟩ : ByteArray), .slice (some ⟨s5, 0, none⟩) 2 2]) (P' := fun b => b ≠ p8 ∧ b ≠ p9) (fun _ h => h) fun b h _ => setRow_other _ _ _ _ h.1
            generalize u6.setRow p8 #[.int .i64 4, .int .i64 0, .string (⟨#[44]⟩ : ByteArray), .slice (some ⟨s5, 0, none⟩) 2 2] = W3 at *
            have V7 := Lib.hid v7
            have V79 := Lib.hid v79
            have LI7 := Lib.hid li7
            have RI7 := Lib.hid ri7
            have K7 := Lib.hid k7
            clear k7 v7 v79 li7 ri7 R6 R69 LI6 RI6 K6 hz6 hp8r hp9r hlt5 hs5' hgr
            obtain ⟨r, hr⟩ : ∃ r, n1 = m + 1 + r := ⟨n1 - (m + 1), by omega⟩
            have hidx : ((n1 : Int) - ((m : Int) + 1)) = (r : Int) := by omega
            have hnn : ((n1 : Int) + 1 - 1) = n1 := by omega
            have hrl : (r : Int) < (n1 : Int) + 1 := by omega
            have HR := Lib.hid hr
            have hrO : r < O.length := by have := HOL.out; omega
            have IO7 := Lib.hid (IO2.out.imp (w' := W3) (P' := fun b => b < B0) (fun _ h => h) fun b h hlt => K7.out.block b hlt (hgk b h))
            obtain ⟨gc, go', eg', -, m1⟩ := IO7.out.at r hrO
            simp only [Option.some.injEq, Addr.mk.injEq, and_true] at eg'
            obtain ⟨rfl, rfl⟩ := eg'
            obtain ⟨ya, yc, q0, q1, q2, q3, pi2, -⟩ := m1.read
            have sY := mem_sizeL (List.getElem_mem (l := O) (n := r) hrO)
            have hDr : O.drop r = O[r] :: O.drop (r + 1) := List.drop_eq_getElem_cons hrO
            simp only [Nat.zero_add] at q0 q1 q2 q3
            generalize O[r] = Y at *
            have HDR := Lib.hid hDr
            have PY := Lib.hid pi2
            have hp9r : p9 < W3.heap.size := (Array.getElem?_eq_some_iff.1 V79.out).1
            have hp8r : p8 < W3.heap.size := (Array.getElem?_eq_some_iff.1 V7.out).1
            have hgr : g < W3.heap.size := World.block_lt_of_cell? _ _ q0
            obtain ⟨y0, y1, y2, y3⟩ := row4 V79.out
            clear pi2 m1 hDr hr hrO
            go_wp2
            refine wp_region_rest (by kernel_rfl) ?_
            have hdw : Below W3.heap.size W3 W3.drew := (Below.refl _ _).drew
            have K8 := Lib.hid (K7.out.trans (Keeps.of (M := fun b => b = p8 ∨ b = p9) hdw) fun b h => .inl h)
            have L8 := Lib.hid ((hdw.block p8 hp8r).trans V7.out)
            have L9 := Lib.hid ((hdw.block p9 hp9r).trans V79.out)
            have LI8 := Lib.hid (LI7.out.below hdw)
            have RI8 := Lib.hid (RI7.out.below hdw)
            have PY0 := Lib.hid ((PY.out.below hdw).imp (P' := fun b => b ≠ p8 ∧ b ≠ p9) (fun b h => ⟨fun e => hgk b h (.inl e), fun e => hgk b h (.inr e)⟩) fun _ _ _ => rfl)
            replace y0 := (hdw.cell (p := ⟨p9, 0, none⟩) hp9r).trans y0
            replace y1 := (hdw.cell (p := ⟨p9, 1, none⟩) hp9r).trans y1
            replace y2 := (hdw.cell (p := ⟨p9, 2, none⟩) hp9r).trans y2
            replace y3 := (hdw.cell (p := ⟨p9, 3, none⟩) hp9r).trans y3
            replace q0 := (hdw.cell (p := ⟨g, r * 4, none⟩) hgr).trans q0
            replace q1 := (hdw.cell (p := ⟨g, r * 4 + 1, none⟩) hgr).trans q1
            replace q2 := (hdw.cell (p := ⟨g, r * 4 + 2, none⟩) hgr).trans q2
            replace q3 := (hdw.cell (p := ⟨g, r * 4 + 3, none⟩) hgr).trans q3
            replace hp8r : p8 < W3.drew.heap.size := hp8r
            replace hp9r : p9 < W3.drew.heap.size := hp9r
            clear hdw IO7 PY K7 V7 V79 LI7 RI7
            generalize W3.drew = V1 at *
            refine rest_chain 0 11 [(false, [0, 1, 2, 3, 4, 5, 6, 7, 8]), (true, [9]), (true, [10])] [(false, [_, _, _, _, _, _, _, _, _]), (true, [_]), (true, [_])] rfl (by kernel_rfl) (by kernel_rfl) rfl (by kernel_rfl) (by kernel_rfl) (.inr (by kernel_rfl)) ?_
            refine chain_soft ?_
            intro E hE
            go_wp2
            clear y0 y1 y2 y3 q0 q1 q2 q3
            refine chain_one ?_
            intro E hE
            go_wp2
            have hb9 := below_new V1 (.cells #[.int .i64 Y.k, .int .i64 Y.n, .string Y.s, .slice ya Y.args.length yc, .int .i64 T'.k, .int .i64 T'.n, .string T'.s, .slice q' T'.args.length c'] 27 (0, 0))
            refine ⟨hb9, ?_⟩
            have i9 := two_sl (P := fun b => b ≠ p8 ∧ b ≠ p9) (w := V1) (x := Y) (y := T') (a := ya) (c := yc) (a' := q') (c' := c') PY0.out RI8.out
            generalize V1.alloc (.cells #[.int .i64 Y.k, .int .i64 Y.n, .string Y.s, .slice ya Y.args.length yc, .int .i64 T'.k, .int .i64 T'.n, .string T'.s, .slice q' T'.args.length c'] 27 (0, 0)) = u9 at *
            have I9 := Lib.hid (i9.imp (P' := fun b => b ≠ p8 ∧ b ≠ p9) (fun b h => h.elim (fun h => h) fun h => ⟨by omega, by omega⟩) fun _ _ _ => rfl)
            have HB9 := Lib.hid hb9
            clear i9 hb9
            generalize hs7' : V1.heap.size = s7 at *
            refine chain_one ?_
            intro E hE
            go_wp2_with (refine (l5_f _ _ _ _ _).mono ?_; rintro e10 u10 ⟨rfl, hb10⟩; have HB10 := Lib.hid hb10; clear hb10)
            refine ⟨HB10.out, ?_⟩
            refine chain_nil ?_
            have hb10 : Below V1.heap.size V1 u10 := by have h5 := HB9.out; rw [← hs7'] at h5; exact h5.trans (HB10.out.mono h5.size)
            have R10 := Lib.hid ((hb10.block p9 (by omega)).trans L9.out)
            have R108 := Lib.hid ((hb10.block p8 (by omega)).trans L8.out)
            have RI10 := Lib.hid (comp_is (s := (⟨#[44]⟩ : ByteArray)) (l := [Y, T']) (I9.out.below HB10.out))
            have LI10 := Lib.hid (LI8.out.below hb10)
            have K10 := Lib.hid (K8.out.trans (Keeps.of (M := fun b => b = p8 ∨ b = p9) hb10) fun b h => .inl h)
            clear I9 HB9 HB10 hb10 L8 L9 LI8 RI8 K8 PY0
            refine rest_lineL 11 12 [_] rfl (by kernel_rfl) (by decide) (by decide) (by kernel_rfl) ?_
            refine wpList_store_row rfl 27 (.tmp 9) (.tmp 72) rfl p9 #[.int .i64 4, .int .i64 0, .string (⟨#[44]⟩ : ByteArray), .slice (some ⟨s7, 0, none⟩) 2 2] rfl rfl _ _ R10.out size_term rfl (one4 _ _ _ _ _ _) ?_
            refine then_rest (rest_end (by decide) ?_)
            have hlm : Lm O n1 p8 p9 W2 (u10.setRow p9 #[.int .i64 4, .int .i64 0, .string (⟨#[44]⟩ : ByteArray), .slice (some ⟨s7, 0, none⟩) 2 2]) (m + 1) (compT (⟨#[44]⟩ : ByteArray) [T, X]) (some ⟨s5, 0, none⟩) 2 (compT (⟨#[44]⟩ : ByteArray) [Y, T']) (some ⟨s7, 0, none⟩) 2 := by
              have h1 := comma_size T X
              have h2 := comma_size Y T'
              have h3 := LM.out.ls
              have h4 := LM.out.rs
              have h5 := HR.out
              have h6 : n1 - m = r + 1 := by omega
              have h7 : n1 - (m + 1) = r := by omega
              refine ⟨(setRow_other _ _ _ _ hp.2.2.1).trans R108.out, LI10.out.imp (fun _ h => h) fun b h _ => setRow_other _ _ _ _ h.2, ?_, by omega, setRow_heap _ _ _ _ _ _ R10.out, RI10.out.imp (fun _ h => h) fun b h _ => setRow_other _ _ _ _ h.2, ?_, by omega, Keeps.put K10.out (.inr rfl) _⟩
              · rw [comma_flat, LM.out.lf, HTK.out, goalS_snoc]
              · rw [comma_flat, LM.out.rf, h6, h7, HDR.out]; rfl
            have HLM := Lib.hid hlm
            clear hlm R10 R108 RI10 LI10 K10
            go_wp2
            go_roundw
            case rel => exact ⟨m + 1, _, _, _, _, _, _, by omega, by go_num, HLM.out⟩
            case measure => simp [intOf]; omega
          · have hmm : m = n1 := by omega
            have lm := LM.out
            have hgk : ∀ b, b < B0 → ¬ (b = p8 ∨ b = p9) := fun b h e => by have h1 := hp.1; have h2 := hp.2.1; rcases e with e | e <;> omega
            have e1 : flatG T = goalS O := by rw [lm.lf, List.take_of_length_le (by have := HOL.out; omega)]
            have e2 : flatG T' = goalS O := by rw [lm.rf, hmm, Nat.sub_self, List.drop_zero]
            have sT : T.size ≤ 1000000 := by have := lm.ls; omega
            have sT' : T'.size ≤ 1000000 := by have := lm.rs; omega
            have sG := goalS_size O
            have IFr := Lib.hid (IF2.out.imp (w' := wr) (P' := fun b => b < B0) (fun _ h => h) fun b h hlt => lm.keeps.block b hlt (hgk b h))
            have hbk : Below w.heap.size W2 wr := ⟨lm.keeps.os, lm.keeps.tape, lm.keeps.output, lm.keeps.size, fun b hb => lm.keeps.block b (by have := HBW.out.size; omega) (hgk b (by omega))⟩
            have HBr := Lib.hid (HBW.out.trans hbk)
            have V8 := Lib.hid (Var.mk lm.l lm.li.any)
            have V9 := Lib.hid (Var.mk lm.r lm.ri.any)
            have E1 := Lib.hid e1
            have E2 := Lib.hid e2
            have HMM := Lib.hid hmm
            clear lm hbk e1 e2 LM hmm IO2 IF2 HBW
            obtain rfl := HMM.out
            clear HMM
            obtain ⟨y0, y1, y2, y3⟩ := row4 V8.out.row
            go_wp2_with fail
            refine (goal_Flat T _ _ _ sT V8.out.is).mono ?_
            rw [E1.out]
            rintro e1 t1 ⟨va, rfl, hoa, hba⟩
            have IA := Lib.hid (own_reads hoa)
            obtain ⟨aa, ac, rfl⟩ := IA.out.form
            replace IFr := Lib.hid (IFr.out.below hba)
            replace V9 := Lib.hid (V9.out.below hba)
            replace HBr := Lib.hid (HBr.out.trans (hba.mono HBr.out.size))
            clear hoa hba y0 y1 y2 y3 V8
            go_wp2_with fail
            refine (ref_all (goalS O) (goalS O) _ _ _ _ _ (by omega) IA.out IFr.out).mono ?_
            rintro e2 t2 ⟨rfl, hb2⟩
            rw [sameL_self]
            replace IFr := Lib.hid (IFr.out.below hb2)
            replace V9 := Lib.hid (V9.out.below hb2)
            replace HBr := Lib.hid (HBr.out.trans (hb2.mono HBr.out.size))
            clear hb2 IA
            obtain ⟨y0, y1, y2, y3⟩ := row4 V9.out.row
            go_wp2_with fail
            refine (goal_Flat T' _ _ _ sT' V9.out.is).mono ?_
            rw [E2.out]
            rintro e3 t3 ⟨vb, rfl, hob, hbb⟩
            have IB := Lib.hid (own_reads hob)
            obtain ⟨ba, bc, rfl⟩ := IB.out.form
            replace IFr := Lib.hid (IFr.out.below hbb)
            replace HBr := Lib.hid (HBr.out.trans (hbb.mono HBr.out.size))
            clear hob hbb y0 y1 y2 y3 V9
            go_wp2_with fail
            refine (ref_all (goalS O) (goalS O) _ _ _ _ _ (by omega) IB.out IFr.out).mono ?_
            rintro e4 t4 ⟨rfl, hb4⟩
            rw [sameL_self]
            have HF := Lib.hid (HBr.out.trans (hb4.mono HBr.out.size))
            clear hb4
            go_wp2
            go_ret
            exact ⟨rfl, HF.out⟩
      · intro E hE
        go_wp2
        refine ⟨(below_new W0 _).mono (by have := HB0.out; omega), ?_⟩
        intro E2 hE2
        go_wp2
        have hub : Below B0 W0 ((W0.alloc (.cells zeroC 27 (0, 0))).alloc (.cells zeroC 27 (0, 0))) := RB.out.mono (by have := HB0.out; omega)
        refine ⟨hub, ?_⟩
        generalize (W0.alloc (.cells zeroC 27 (0, 0))).alloc (.cells zeroC 27 (0, 0)) = u at *
        obtain ⟨p9, e9⟩ : ∃ p, p = W0.heap.size := ⟨_, rfl⟩
        obtain ⟨p8, e8⟩ : ∃ p, p = W0.heap.size + 1 := ⟨_, rfl⟩
        have R9 : Hid (u.heap[p9]? = some (.cells zeroC 27 (0, 0))) := Lib.hid (by rw [e9]; exact R0.out)
        have R8 : Hid (u.heap[p8]? = some (.cells zeroC 27 (0, 0))) := Lib.hid (by rw [e8]; exact R1.out)
        have hp : B0 ≤ p8 ∧ B0 ≤ p9 ∧ p8 ≠ p9 ∧ p8 < u.heap.size ∧ p9 < u.heap.size := by have := HB0.out; have := RZ.out; refine ⟨by omega, by omega, by omega, by omega, by omega⟩
        rw [← e8, ← e9]
        have HW0 := Lib.hid HB2.out
        clear e8 e9 R0 R1 RB RZ
        refine chainW_one ?_
        intro E hE
        refine wpList_store_row rfl 27 (.tmp 8) (.tmp 42) rfl p8 #[.int .i64 A.k, .int .i64 A.n, .string A.s, .slice pa A.args.length pc] rfl rfl _ _ R8.out size_term rfl (one4 _ _ _ _ _ _) ?_
        refine hE _ _ ⟨below_setRow hub hp.1 _, ?_⟩
        refine chainW_nil ?_
        refine rest_lineL 12 13 [_] rfl (by kernel_rfl) (by decide) (by decide) (by kernel_rfl) ?_
        have R9' : Hid ((u.setRow p8 #[.int .i64 A.k, .int .i64 A.n, .string A.s, .slice pa A.args.length pc]).heap[p9]? = some (.cells zeroC 27 (0, 0))) := Lib.hid ((setRow_other _ _ _ _ (Ne.symm hp.2.2.1)).trans R9.out)
        refine wpList_store_row rfl 27 (.tmp 9) (.tmp 48) rfl p9 #[.int .i64 Z.k, .int .i64 Z.n, .string Z.s, .slice qa Z.args.length qc] rfl rfl _ _ R9'.out size_term rfl (one4 _ _ _ _ _ _) ?_
        refine then_rest (rest_end (by decide) ?_)
        have hbl : Below B0 W0 ((u.setRow p8 #[.int .i64 A.k, .int .i64 A.n, .string A.s, .slice pa A.args.length pc]).setRow p9 #[.int .i64 Z.k, .int .i64 Z.n, .string Z.s, .slice qa Z.args.length qc]) := below_setRow (below_setRow hub hp.1 _) hp.2.1 _
        have rA : ((u.setRow p8 #[.int .i64 A.k, .int .i64 A.n, .string A.s, .slice pa A.args.length pc]).setRow p9 #[.int .i64 Z.k, .int .i64 Z.n, .string Z.s, .slice qa Z.args.length qc]).heap[p8]? = some (rowT A pa pc) := (setRow_other _ _ _ _ hp.2.2.1).trans (setRow_heap _ _ _ _ _ _ R8.out)
        have rZ : ((u.setRow p8 #[.int .i64 A.k, .int .i64 A.n, .string A.s, .slice pa A.args.length pc]).setRow p9 #[.int .i64 Z.k, .int .i64 Z.n, .string Z.s, .slice qa Z.args.length qc]).heap[p9]? = some (rowT Z qa qc) := setRow_heap _ _ _ _ _ _ R9'.out
        have hB := HB0.out
        have hwB : w.heap.size ≤ B0 := by have := HW0.out.size; omega
        have hzz : u.heap.size ≤ ((u.setRow p8 #[.int .i64 A.k, .int .i64 A.n, .string A.s, .slice pa A.args.length pc]).setRow p9 #[.int .i64 Z.k, .int .i64 Z.n, .string Z.s, .slice qa Z.args.length qc]).heap.size := by simp
        generalize (u.setRow p8 #[.int .i64 A.k, .int .i64 A.n, .string A.s, .slice pa A.args.length pc]).setRow p9 #[.int .i64 Z.k, .int .i64 Z.n, .string Z.s, .slice qa Z.args.length qc] = W2 at *
        have IO2 := Lib.hid (IO.out.imp (w' := W2) (P' := fun b => b < B0) (fun b h => by have := h.2; omega) fun b h _ => hbl.block b (by have := h.2; omega))
        have IF2 := Lib.hid (IFL.out.imp (w' := W2) (P' := fun b => b < B0) (fun b h => by have := h.2; omega) fun b h _ => hbl.block b (by have := h.2; omega))
        have HBW := Lib.hid (HW0.out.trans (hbl.mono hwB))
        have hst : LmRel O n1 p8 p9 W2 (.int .i64 ((0 + 1 : Nat) : Int)) W2 := ⟨0, A, pa, pc, Z, qa, qc, by omega, rfl,
          ⟨rA, PI.out.imp (w' := W2) (fun b h => by refine ⟨?_, ?_⟩ <;> (have h1 := hp.1; have h2 := hp.2.1; have : b < B0 := h; omega)) (fun b h _ => hbl.block b h), by rw [HA0.out, goalS_one], by omega, rZ,
            QI.out.imp (w' := W2) (fun b h => by refine ⟨?_, ?_⟩ <;> (have h1 := hp.1; have h2 := hp.2.1; have : b < B0 := h; omega)) (fun b h _ => hbl.block b h), by rw [Nat.sub_zero, HZ0.out, goalS_one], by omega, Keeps.refl _ _⟩⟩
        have HST := Lib.hid hst
        have hgB : g < B0 := hglt
        have hp2 : p8 < W2.heap.size ∧ p9 < W2.heap.size := ⟨by omega, by omega⟩
        clear hst rA rZ hbl R8 R9 R9' hub IO IFL PI QI HA0 HZ0 HB2 hB sA sZ hnn
        go_wp2
        go_loopw [10] (fun c wr => LmRel O n1 p8 p9 W2 c wr) (fun c _ => n1 + 2 - (intOf c).toNat)
        case atStart => exact HST.out
        case round =>
          obtain ⟨m, T, q, c, T', q', c', hm, rfl, lm⟩ := hrel
          have LM := Lib.hid lm
          have hcast : ((m + 1 : Nat) : Int) = (m : Int) + 1 := by omega
          rw [hcast]
          clear HST lm hcast
          by_cases hmn : m < n1
          · have hlt : (m : Int) + 1 < (n1 : Int) + 1 := by omega
            have hgk : ∀ b, b < B0 → ¬ (b = p8 ∨ b = p9) := fun b h e => by have h1 := hp.1; have h2 := hp.2.1; rcases e with e | e <;> omega
            have IOr := Lib.hid (IO2.out.imp (w' := wr) (P' := fun b => b < B0) (fun _ h => h) fun b h hlt => LM.out.keeps.block b hlt (hgk b h))
            have hzr := LM.out.keeps.size
            obtain ⟨ga, go, eg, -, m0⟩ := IOr.out.at (m + 1) (by have := HOL.out; omega)
            simp only [Option.some.injEq, Addr.mk.injEq, and_true] at eg
            obtain ⟨rfl, rfl⟩ := eg
            obtain ⟨xa, xc, p0, p1, p2, p3, pi, -⟩ := m0.read
            have sX := mem_sizeL (List.getElem_mem (l := O) (n := m + 1) (by have := HOL.out; omega))
            have hTk : O.take (m + 1 + 1) = O.take (m + 1) ++ [O[m + 1]'(by have := HOL.out; omega)] := List.take_succ_eq_append_getElem (by have := HOL.out; omega)
            simp only [Nat.zero_add] at p0 p1 p2 p3
            generalize O[m + 1]'(by have := HOL.out; omega) = X at *
            have HTK := Lib.hid hTk
            have PX := Lib.hid pi
            clear pi m0 hTk
            obtain ⟨y0, y1, y2, y3⟩ := row4 LM.out.l
            have hp8r : p8 < wr.heap.size := by omega
            have hp9r : p9 < wr.heap.size := by omega
            have hgr : g < wr.heap.size := World.block_lt_of_cell? _ _ p0
            go_wp2
            refine wp_region_rest (by kernel_rfl) ?_
            have hdw : Below wr.heap.size wr wr.drew := (Below.refl _ _).drew
            have K0 := Lib.hid (LM.out.keeps.trans (Keeps.of (M := fun b => b = p8 ∨ b = p9) hdw) fun b h => .inl h)
            have L8 := Lib.hid ((hdw.block p8 hp8r).trans LM.out.l)
            have L9 := Lib.hid ((hdw.block p9 hp9r).trans LM.out.r)
            have LI := Lib.hid (LM.out.li.below hdw)
            have RI := Lib.hid (LM.out.ri.below hdw)
            have PX0 := Lib.hid ((PX.out.below hdw).imp (P' := fun b => b ≠ p8 ∧ b ≠ p9) (fun b h => ⟨fun e => hgk b h (.inl e), fun e => hgk b h (.inr e)⟩) fun _ _ _ => rfl)
            replace y0 := (hdw.cell (p := ⟨p8, 0, none⟩) hp8r).trans y0
            replace y1 := (hdw.cell (p := ⟨p8, 1, none⟩) hp8r).trans y1
            replace y2 := (hdw.cell (p := ⟨p8, 2, none⟩) hp8r).trans y2
            replace y3 := (hdw.cell (p := ⟨p8, 3, none⟩) hp8r).trans y3
            replace p0 := (hdw.cell (p := ⟨g, (m + 1) * 4, none⟩) hgr).trans p0
            replace p1 := (hdw.cell (p := ⟨g, (m + 1) * 4 + 1, none⟩) hgr).trans p1
            replace p2 := (hdw.cell (p := ⟨g, (m + 1) * 4 + 2, none⟩) hgr).trans p2
            replace p3 := (hdw.cell (p := ⟨g, (m + 1) * 4 + 3, none⟩) hgr).trans p3
            replace hp8r : p8 < wr.drew.heap.size := hp8r
            replace hp9r : p9 < wr.drew.heap.size := hp9r
            clear hdw IOr hzr PX
            generalize wr.drew = V0 at *
            refine rest_chain 0 7 [(false, [0, 1, 2, 3, 4]), (true, [5]), (true, [6])] [(false, [_, _, _, _, _]), (true, [_]), (true, [_])] rfl (by kernel_rfl) (by kernel_rfl) rfl (by kernel_rfl) (by kernel_rfl) (.inr (by kernel_rfl)) ?_
            refine chain_soft ?_
            intro E hE
            go_wp2
            clear y0 y1 y2 y3 p0 p1 p2 p3
            refine chain_one ?_
            intro E hE
            go_wp2
            have hb5 := below_new V0 (.cells #[.int .i64 T.k, .int .i64 T.n, .string T.s, .slice q T.args.length c, .int .i64 X.k, .int .i64 X.n, .string X.s, .slice xa X.args.length xc] 27 (0, 0))
            refine ⟨hb5, ?_⟩
            have i5 := two_sl (P := fun b => b ≠ p8 ∧ b ≠ p9) (w := V0) (x := T) (y := X) (a := q) (c := c) (a' := xa) (c' := xc) LI.out PX0.out
            have hz5 : (V0.alloc (.cells #[.int .i64 T.k, .int .i64 T.n, .string T.s, .slice q T.args.length c, .int .i64 X.k, .int .i64 X.n, .string X.s, .slice xa X.args.length xc] 27 (0, 0))).heap.size = V0.heap.size + 1 := by simp
            generalize V0.alloc (.cells #[.int .i64 T.k, .int .i64 T.n, .string T.s, .slice q T.args.length c, .int .i64 X.k, .int .i64 X.n, .string X.s, .slice xa X.args.length xc] 27 (0, 0)) = u5 at *
            have hlt5 : p8 < V0.heap.size ∧ p9 < V0.heap.size := ⟨hp8r, hp9r⟩
            have I5 := Lib.hid (i5.imp (P' := fun b => b ≠ p8 ∧ b ≠ p9) (fun b h => h.elim (fun h => h) fun h => ⟨by omega, by omega⟩) fun _ _ _ => rfl)
            have HB5 := Lib.hid hb5
            clear i5 hb5
            generalize hs5' : V0.heap.size = s5 at *
            refine chain_one ?_
            intro E hE
            go_wp2_with (refine (l5_f _ _ _ _ _).mono ?_; rintro e6 u6 ⟨rfl, hb6⟩; have HB6 := Lib.hid hb6; clear hb6)
            refine ⟨HB6.out, ?_⟩
            refine chain_nil ?_
            have hb60 : Below V0.heap.size V0 u6 := by have h5 := HB5.out; rw [← hs5'] at h5; exact h5.trans (HB6.out.mono h5.size)
            have R6 := Lib.hid ((hb60.block p8 (by omega)).trans L8.out)
            have R69 := Lib.hid ((hb60.block p9 (by omega)).trans L9.out)
            have LI6 := Lib.hid (comp_is (s := (⟨#[44]⟩ : ByteArray)) (l := [T, X]) (I5.out.below HB6.out))
            have RI6 := Lib.hid (RI.out.below hb60)
            have K6 := Lib.hid (K0.out.trans (Keeps.of (M := fun b => b = p8 ∨ b = p9) hb60) fun b h => .inl h)
            have hz6 : V0.heap.size ≤ u6.heap.size := hb60.size
            clear I5 HB5 HB6 hb60 L8 L9 LI RI K0 PX0
            refine rest_lineL 7 8 [_] rfl (by kernel_rfl) (by decide) (by decide) (by kernel_rfl) ?_
            refine wpList_store_row rfl 27 (.tmp 8) (.tmp 61) rfl p8 #[.int .i64 4, .int .i64 0, .string (⟨#[44]⟩ : ByteArray), .slice (some ⟨s5, 0, none⟩) 2 2] rfl rfl _ _ R6.out size_term rfl (one4 _ _ _ _ _ _) ?_
            refine then_rest (rest_end (by decide) ?_)
            have k7 := Keeps.put K6.out (.inl rfl) #[.int .i64 4, .int .i64 0, .string (⟨#[44]⟩ : ByteArray), .slice (some ⟨s5, 0, none⟩) 2 2]
            have v7 : (u6.setRow p8 #[.int .i64 4, .int .i64 0, .string (⟨#[44]⟩ : ByteArray), .slice (some ⟨s5, 0, none⟩) 2 2]).heap[p8]? = some (rowT (compT (⟨#[44]⟩ : ByteArray) [T, X]) (some ⟨s5, 0, none⟩) 2) := setRow_heap _ _ _ _ _ _ R6.out
            have v79 : (u6.setRow p8 #[.int .i64 4, .int .i64 0, .string (⟨#[44]⟩ : ByteArray), .slice (some ⟨s5, 0, none⟩) 2 2]).heap[p9]? = some (rowT T' q' c') := (setRow_other _ _ _ _ (Ne.symm hp.2.2.1)).trans R69.out
            have li7 := LI6.out.imp (w' := u6.setRow p8 #[.int .i64 4, .int .i64 0, .string (⟨#[44]⟩ : ByteArray), .slice (some ⟨s5, 0, none⟩) 2 2]) (P' := fun b => b ≠ p8 ∧ b ≠ p9) (fun _ h => h) fun b h _ => setRow_other _ _ _ _ h.1
            have ri7 := RI6.out.imp (w' := u6.setRow p8 #[.int .i64 4, .int .i64 0, .string (⟨#[44]⟩ : ByteArray), .slice (some ⟨s5, 0, none⟩) 2 2]) (P' := fun b => b ≠ p8 ∧ b ≠ p9) (fun _ h => h) fun b h _ => setRow_other _ _ _ _ h.1
            generalize u6.setRow p8 #[.int .i64 4, .int .i64 0, .string (⟨#[44]⟩ : ByteArray), .slice (some ⟨s5, 0, none⟩) 2 2] = W3 at *
            have V7 := Lib.hid v7
            have V79 := Lib.hid v79
            have LI7 := Lib.hid li7
            have RI7 := Lib.hid ri7
            have K7 := Lib.hid k7
            clear k7 v7 v79 li7 ri7 R6 R69 LI6 RI6 K6 hz6 hp8r hp9r hlt5 hs5' hgr
            obtain ⟨r, hr⟩ : ∃ r, n1 = m + 1 + r := ⟨n1 - (m + 1), by omega⟩
            have hidx : ((n1 : Int) - ((m : Int) + 1)) = (r : Int) := by omega
            have hnn : ((n1 : Int) + 1 - 1) = n1 := by omega
            have hrl : (r : Int) < (n1 : Int) + 1 := by omega
            have HR := Lib.hid hr
            have hrO : r < O.length := by have := HOL.out; omega
            have IO7 := Lib.hid (IO2.out.imp (w' := W3) (P' := fun b => b < B0) (fun _ h => h) fun b h hlt => K7.out.block b hlt (hgk b h))
            obtain ⟨gc, go', eg', -, m1⟩ := IO7.out.at r hrO
            simp only [Option.some.injEq, Addr.mk.injEq, and_true] at eg'
            obtain ⟨rfl, rfl⟩ := eg'
            obtain ⟨ya, yc, q0, q1, q2, q3, pi2, -⟩ := m1.read
            have sY := mem_sizeL (List.getElem_mem (l := O) (n := r) hrO)
            have hDr : O.drop r = O[r] :: O.drop (r + 1) := List.drop_eq_getElem_cons hrO
            simp only [Nat.zero_add] at q0 q1 q2 q3
            generalize O[r] = Y at *
            have HDR := Lib.hid hDr
            have PY := Lib.hid pi2
            have hp9r : p9 < W3.heap.size := (Array.getElem?_eq_some_iff.1 V79.out).1
            have hp8r : p8 < W3.heap.size := (Array.getElem?_eq_some_iff.1 V7.out).1
            have hgr : g < W3.heap.size := World.block_lt_of_cell? _ _ q0
            obtain ⟨y0, y1, y2, y3⟩ := row4 V79.out
            clear pi2 m1 hDr hr hrO
            go_wp2
            refine wp_region_rest (by kernel_rfl) ?_
            have hdw : Below W3.heap.size W3 W3.drew := (Below.refl _ _).drew
            have K8 := Lib.hid (K7.out.trans (Keeps.of (M := fun b => b = p8 ∨ b = p9) hdw) fun b h => .inl h)
            have L8 := Lib.hid ((hdw.block p8 hp8r).trans V7.out)
            have L9 := Lib.hid ((hdw.block p9 hp9r).trans V79.out)
            have LI8 := Lib.hid (LI7.out.below hdw)
            have RI8 := Lib.hid (RI7.out.below hdw)
            have PY0 := Lib.hid ((PY.out.below hdw).imp (P' := fun b => b ≠ p8 ∧ b ≠ p9) (fun b h => ⟨fun e => hgk b h (.inl e), fun e => hgk b h (.inr e)⟩) fun _ _ _ => rfl)
            replace y0 := (hdw.cell (p := ⟨p9, 0, none⟩) hp9r).trans y0
            replace y1 := (hdw.cell (p := ⟨p9, 1, none⟩) hp9r).trans y1
            replace y2 := (hdw.cell (p := ⟨p9, 2, none⟩) hp9r).trans y2
            replace y3 := (hdw.cell (p := ⟨p9, 3, none⟩) hp9r).trans y3
            replace q0 := (hdw.cell (p := ⟨g, r * 4, none⟩) hgr).trans q0
            replace q1 := (hdw.cell (p := ⟨g, r * 4 + 1, none⟩) hgr).trans q1
            replace q2 := (hdw.cell (p := ⟨g, r * 4 + 2, none⟩) hgr).trans q2
            replace q3 := (hdw.cell (p := ⟨g, r * 4 + 3, none⟩) hgr).trans q3
            replace hp8r : p8 < W3.drew.heap.size := hp8r
            replace hp9r : p9 < W3.drew.heap.size := hp9r
            clear hdw IO7 PY K7 V7 V79 LI7 RI7
            generalize W3.drew = V1 at *
            refine rest_chain 0 11 [(false, [0, 1, 2, 3, 4, 5, 6, 7, 8]), (true, [9]), (true, [10])] [(false, [_, _, _, _, _, _, _, _, _]), (true, [_]), (true, [_])] rfl (by kernel_rfl) (by kernel_rfl) rfl (by kernel_rfl) (by kernel_rfl) (.inr (by kernel_rfl)) ?_
            refine chain_soft ?_
            intro E hE
            go_wp2
            clear y0 y1 y2 y3 q0 q1 q2 q3
            refine chain_one ?_
            intro E hE
            go_wp2
            have hb9 := below_new V1 (.cells #[.int .i64 Y.k, .int .i64 Y.n, .string Y.s, .slice ya Y.args.length yc, .int .i64 T'.k, .int .i64 T'.n, .string T'.s, .slice q' T'.args.length c'] 27 (0, 0))
            refine ⟨hb9, ?_⟩
            have i9 := two_sl (P := fun b => b ≠ p8 ∧ b ≠ p9) (w := V1) (x := Y) (y := T') (a := ya) (c := yc) (a' := q') (c' := c') PY0.out RI8.out
            generalize V1.alloc (.cells #[.int .i64 Y.k, .int .i64 Y.n, .string Y.s, .slice ya Y.args.length yc, .int .i64 T'.k, .int .i64 T'.n, .string T'.s, .slice q' T'.args.length c'] 27 (0, 0)) = u9 at *
            have I9 := Lib.hid (i9.imp (P' := fun b => b ≠ p8 ∧ b ≠ p9) (fun b h => h.elim (fun h => h) fun h => ⟨by omega, by omega⟩) fun _ _ _ => rfl)
            have HB9 := Lib.hid hb9
            clear i9 hb9
            generalize hs7' : V1.heap.size = s7 at *
            refine chain_one ?_
            intro E hE
            go_wp2_with (refine (l5_f _ _ _ _ _).mono ?_; rintro e10 u10 ⟨rfl, hb10⟩; have HB10 := Lib.hid hb10; clear hb10)
            refine ⟨HB10.out, ?_⟩
            refine chain_nil ?_
            have hb10 : Below V1.heap.size V1 u10 := by have h5 := HB9.out; rw [← hs7'] at h5; exact h5.trans (HB10.out.mono h5.size)
            have R10 := Lib.hid ((hb10.block p9 (by omega)).trans L9.out)
            have R108 := Lib.hid ((hb10.block p8 (by omega)).trans L8.out)
            have RI10 := Lib.hid (comp_is (s := (⟨#[44]⟩ : ByteArray)) (l := [Y, T']) (I9.out.below HB10.out))
            have LI10 := Lib.hid (LI8.out.below hb10)
            have K10 := Lib.hid (K8.out.trans (Keeps.of (M := fun b => b = p8 ∨ b = p9) hb10) fun b h => .inl h)
            clear I9 HB9 HB10 hb10 L8 L9 LI8 RI8 K8 PY0
            refine rest_lineL 11 12 [_] rfl (by kernel_rfl) (by decide) (by decide) (by kernel_rfl) ?_
            refine wpList_store_row rfl 27 (.tmp 9) (.tmp 72) rfl p9 #[.int .i64 4, .int .i64 0, .string (⟨#[44]⟩ : ByteArray), .slice (some ⟨s7, 0, none⟩) 2 2] rfl rfl _ _ R10.out size_term rfl (one4 _ _ _ _ _ _) ?_
            refine then_rest (rest_end (by decide) ?_)
            have hlm : Lm O n1 p8 p9 W2 (u10.setRow p9 #[.int .i64 4, .int .i64 0, .string (⟨#[44]⟩ : ByteArray), .slice (some ⟨s7, 0, none⟩) 2 2]) (m + 1) (compT (⟨#[44]⟩ : ByteArray) [T, X]) (some ⟨s5, 0, none⟩) 2 (compT (⟨#[44]⟩ : ByteArray) [Y, T']) (some ⟨s7, 0, none⟩) 2 := by
              have h1 := comma_size T X
              have h2 := comma_size Y T'
              have h3 := LM.out.ls
              have h4 := LM.out.rs
              have h5 := HR.out
              have h6 : n1 - m = r + 1 := by omega
              have h7 : n1 - (m + 1) = r := by omega
              refine ⟨(setRow_other _ _ _ _ hp.2.2.1).trans R108.out, LI10.out.imp (fun _ h => h) fun b h _ => setRow_other _ _ _ _ h.2, ?_, by omega, setRow_heap _ _ _ _ _ _ R10.out, RI10.out.imp (fun _ h => h) fun b h _ => setRow_other _ _ _ _ h.2, ?_, by omega, Keeps.put K10.out (.inr rfl) _⟩
              · rw [comma_flat, LM.out.lf, HTK.out, goalS_snoc]
              · rw [comma_flat, LM.out.rf, h6, h7, HDR.out]; rfl
            have HLM := Lib.hid hlm
            clear hlm R10 R108 RI10 LI10 K10
            go_wp2
            go_roundw
            case rel => exact ⟨m + 1, _, _, _, _, _, _, by omega, by go_num, HLM.out⟩
            case measure => simp [intOf]; omega
          · have hmm : m = n1 := by omega
            have lm := LM.out
            have hgk : ∀ b, b < B0 → ¬ (b = p8 ∨ b = p9) := fun b h e => by have h1 := hp.1; have h2 := hp.2.1; rcases e with e | e <;> omega
            have e1 : flatG T = goalS O := by rw [lm.lf, List.take_of_length_le (by have := HOL.out; omega)]
            have e2 : flatG T' = goalS O := by rw [lm.rf, hmm, Nat.sub_self, List.drop_zero]
            have sT : T.size ≤ 1000000 := by have := lm.ls; omega
            have sT' : T'.size ≤ 1000000 := by have := lm.rs; omega
            have sG := goalS_size O
            have IFr := Lib.hid (IF2.out.imp (w' := wr) (P' := fun b => b < B0) (fun _ h => h) fun b h hlt => lm.keeps.block b hlt (hgk b h))
            have hbk : Below w.heap.size W2 wr := ⟨lm.keeps.os, lm.keeps.tape, lm.keeps.output, lm.keeps.size, fun b hb => lm.keeps.block b (by have := HBW.out.size; omega) (hgk b (by omega))⟩
            have HBr := Lib.hid (HBW.out.trans hbk)
            have V8 := Lib.hid (Var.mk lm.l lm.li.any)
            have V9 := Lib.hid (Var.mk lm.r lm.ri.any)
            have E1 := Lib.hid e1
            have E2 := Lib.hid e2
            have HMM := Lib.hid hmm
            clear lm hbk e1 e2 LM hmm IO2 IF2 HBW
            obtain rfl := HMM.out
            clear HMM
            obtain ⟨y0, y1, y2, y3⟩ := row4 V8.out.row
            go_wp2_with fail
            refine (goal_Flat T _ _ _ sT V8.out.is).mono ?_
            rw [E1.out]
            rintro e1 t1 ⟨va, rfl, hoa, hba⟩
            have IA := Lib.hid (own_reads hoa)
            obtain ⟨aa, ac, rfl⟩ := IA.out.form
            replace IFr := Lib.hid (IFr.out.below hba)
            replace V9 := Lib.hid (V9.out.below hba)
            replace HBr := Lib.hid (HBr.out.trans (hba.mono HBr.out.size))
            clear hoa hba y0 y1 y2 y3 V8
            go_wp2_with fail
            refine (ref_all (goalS O) (goalS O) _ _ _ _ _ (by omega) IA.out IFr.out).mono ?_
            rintro e2 t2 ⟨rfl, hb2⟩
            rw [sameL_self]
            replace IFr := Lib.hid (IFr.out.below hb2)
            replace V9 := Lib.hid (V9.out.below hb2)
            replace HBr := Lib.hid (HBr.out.trans (hb2.mono HBr.out.size))
            clear hb2 IA
            obtain ⟨y0, y1, y2, y3⟩ := row4 V9.out.row
            go_wp2_with fail
            refine (goal_Flat T' _ _ _ sT' V9.out.is).mono ?_
            rw [E2.out]
            rintro e3 t3 ⟨vb, rfl, hob, hbb⟩
            have IB := Lib.hid (own_reads hob)
            obtain ⟨ba, bc, rfl⟩ := IB.out.form
            replace IFr := Lib.hid (IFr.out.below hbb)
            replace HBr := Lib.hid (HBr.out.trans (hbb.mono HBr.out.size))
            clear hob hbb y0 y1 y2 y3 V9
            go_wp2_with fail
            refine (ref_all (goalS O) (goalS O) _ _ _ _ _ (by omega) IB.out IFr.out).mono ?_
            rintro e4 t4 ⟨rfl, hb4⟩
            rw [sameL_self]
            have HF := Lib.hid (HBr.out.trans (hb4.mono HBr.out.size))
            clear hb4
            go_wp2
            go_ret
            exact ⟨rfl, HF.out⟩
end Go.Proofs.Ytmlceamcpelklaa.Tms
