
/-
  The statements of layer 16: TextDoes, walked over the program.
-/
import Derived.Test.YtkhchmgdaolojaaDoorDoa
import Derived.Handy
import Derived.LoopN
namespace Go.Proofs.YtkhchmgdaolojaaDoor.Tms
open Go Go.RowKit Go.Proofs.YtkhchmgdaolojaaDoor.Reg Go.Proofs.YtkhchmgdaolojaaDoor.Rws Go.Proofs.YtkhchmgdaolojaaDoor.Maps Go.Instr
set_option linter.unusedVariables false
set_option linter.unusedSimpArgs false

theorem OwnSl.move16 {w w' : World} {base : Nat} {P P' : Nat → Prop} {v : Value} {ts : List Tm} (h : OwnSl w base P v ts) (hs : w.heap.size ≤ w'.heap.size) (hv : ∀ b, v.ownBlock = some b → b < w.heap.size → w'.heap[b]? = w.heap[b]?) (hP : ∀ b, P b → b < w.heap.size → P' b ∧ w'.heap[b]? = w.heap[b]?) : OwnSl w' base P' v ts := by
  obtain ⟨xs, h1, h2⟩ := h
  refine ⟨xs, ⟨h1.1, ?_⟩, h2.imp2 (fun b h => ⟨(hP b h.1 h.2.2).1, h.2.1, Nat.lt_of_lt_of_le h.2.2 hs⟩) fun b h hlt => (hP b h.1 hlt).2⟩
  rcases h1.2 with h | ⟨g, cap, cur, e, h, hg, rest⟩
  · exact .inl h
  · exact .inr ⟨g, cap, cur, e, h, (hv g (by rw [e]; rfl) (Array.getElem?_eq_some_iff.1 hg).1).trans hg, rest⟩
/-- of two slices that the call keeps beside each other one is appended to -/
theorem own_beside {w w' : World} {B : Nat} {v v' u : Value} {C : List Tm} (hu : OwnSl w B (fun b => v.ownBlock ≠ some b) u C) (sep : ∀ k, v.ownBlock = some k → u.ownBlock ≠ some k) (hg : w.grownBy w' v.ownBlock) (hv : ∀ k, v'.ownBlock = some k → v.ownBlock = some k ∨ w.heap.size ≤ k) : OwnSl w' B (fun b => v'.ownBlock ≠ some b) u C ∧ (∀ k, v'.ownBlock = some k → u.ownBlock ≠ some k) := by
  have hlow := hu.low
  refine ⟨hu.move16 hg.size (fun b hb hl => hg.block b hl (fun e => sep b e.symm hb)) (fun b hb hl => ⟨fun e => ?_, hg.block b hl (fun e => hb e.symm)⟩), fun k hk hu' => ?_⟩
  · rcases hv b e with h | h
    · exact hb h
    · omega
  · rcases hv k hk with h | h
    · exact sep k h hu'
    · have := (hlow k hu').2; omega
structure DsRel (LL : List (List Pt)) (W0 : World) (v5 v6 v29 : Value) (wr : World) : Prop where
  ex : ∃ i : Nat, i ≤ LL.length ∧ v29 = .int .i64 i ∧ (∀ L ∈ LL.take i, L.length ≤ 60) ∧ OwnSl wr W0.heap.size (fun b => v6.ownBlock ≠ some b) v5 ((LL.take i).map rawT) ∧ OwnSl wr W0.heap.size (fun b => v5.ownBlock ≠ some b) v6 ((LL.take i).map goodT)
  sep : ∀ k, v5.ownBlock = some k → v6.ownBlock ≠ some k
  bel : Below W0.heap.size W0 wr
theorem take_map16 {α β : Type} (f : α → β) (l : List α) (i : Nat) (h : i < l.length) : (l.take i).map f ++ [f l[i]] = (l.take (i + 1)).map f := by rw [List.take_succ_eq_append_getElem h, List.map_append]; rfl
set_option maxRecDepth 100000 in
set_option maxHeartbeats 16000000 in
theorem law_does0 (s : ByteArray) (LL : List (List Pt)) (v1 : Value) (w : World) (ht : Num.Tab w) (h1 : PsSl w v1 LL) (hs : s.size ≤ 100) (hl : LL.length ≤ 5) (hf : ∀ L ∈ LL, ∀ p ∈ L, Num.Fit p.n) :
    Calls Tryd.prog 3 #[.string s, v1] w (Says true w) := by
  obtain ⟨a, cap, rfl, hc, hm, hcell⟩ := h1
  unfold maxLen at hm
  have HTB := Lib.hid ht
  have HCL := Lib.hid hcell
  have HFT := Lib.hid hf
  have g1 : decide ((5 : Int) < (LL.length : Int)) = false := decide_eq_false (by omega)
  have g2 : decide ((100 : Int) < (s.size : Int)) = false := decide_eq_false (by omega)
  clear ht hcell hf
  go_enter Tryd.func3, Tryd.ntmps3
  go_wp2_with fail
  refine (l16_alive _ HTB.out).mono ?_
  rintro e w1 ⟨rfl, hb1⟩
  have HB := Lib.hid hb1
  clear hb1
  go_wp2
  go_loopw [5, 6, 29] (fun v5 v6 v29 wr => DsRel LL w1 v5 v6 v29 wr) (fun _ _ v29 _ => LL.length - (intOf v29).toNat)
  case atStart => exact ⟨⟨0, by omega, rfl, by simp, OwnSl.nil _ _ _, OwnSl.nil _ _ _⟩, fun k h => by simp [Value.ownBlock] at h, Below.refl _ _⟩
  case round =>
    have HBW := Lib.hid (HB.out.trans (hrel.bel.mono HB.out.size))
    have HB1 := Lib.hid hrel.bel
    have HSEP := Lib.hid hrel.sep
    obtain ⟨i, hi, rfl, hsm, ho5, ho6⟩ := hrel.ex
    clear hrel
    obtain ⟨q5, k5, e5⟩ := ho5.form
    obtain ⟨q6, k6, e6⟩ := ho6.form
    rw [List.length_map, List.length_take, Nat.min_eq_left hi] at e5 e6
    subst e5 e6
    have hlow5 := ho5.low
    have hlow6 := ho6.low
    have HSM := Lib.hid hsm
    have HLW := Lib.hid (And.intro hlow5 hlow6)
    have HO5 := Lib.hid ho5
    have HO6 := Lib.hid ho6
    clear hsm ho5 ho6 hlow5 hlow6
    by_cases hin : i < LL.length
    · have b1 : decide ((i : Int) < (LL.length : Int)) = true := by simp; omega
      have b2 : decide (i < LL.length) = true := by simpa using hin
      obtain ⟨L, hL⟩ : ∃ L, L = LL[i] := ⟨_, rfl⟩
      obtain ⟨b, off, u, ea, hbl, hcu, hpt⟩ := HCL.out i hin
      rw [← hL] at hpt
      subst ea
      have hcu' := (HBW.out.cell (p := ⟨b, off + i, none⟩) hbl).trans hcu
      have hpt' := hpt.below HBW.out
      obtain ⟨pa, pc, rfl, -, -⟩ := hpt'.form
      have HPT := Lib.hid hpt'
      have HL := Lib.hid hL
      clear hpt hpt' hcu hL
      go_wp2_with fail
      refine (ref_great L _ _ HPT.out).mono ?_
      rintro e2 w2 ⟨rfl, rfl⟩
      by_cases hg : 60 < L.length
      · have d1 : decide (60 < (L.length : Int)) = true := by simp; omega
        rw [d1]
        clear hg
        go_wp2
        go_ret
        exact ⟨rfl, HBW.out⟩
      have d1 : decide (60 < (L.length : Int)) = false := by simp; omega
      rw [d1]
      have HG := Lib.hid hg
      clear hg d1
      go_wp2_with fail
      refine (ref_of L.length L _ _ (Nat.le_refl _) (by have := HG.out; omega) HPT.out).mono ?_
      rintro e3 w3 ⟨v3, rfl, hi3, hb3⟩
      obtain ⟨qa, qc, e4⟩ := hi3.form
      replace e4 : v3 = .agg #[.int .i64 (rawT L).k, .int .i64 (rawT L).n, .string (rawT L).s, .slice qa (rawT L).args.length qc] := e4
      subst e4
      have hi3' : IsTm w3 (fun b => wr.heap.size ≤ b ∧ b < w3.heap.size) (.agg #[.int .i64 (rawT L).k, .int .i64 (rawT L).n, .string (rawT L).s, .slice qa (rawT L).args.length qc]) (rawT L) := hi3.lt
      have ha4 := (Below.refl w3.heap.size w3).alloc (Nat.le_refl _) (.cells #[.int .i64 (rawT L).k, .int .i64 (rawT L).n, .string (rawT L).s, .slice qa (rawT L).args.length qc] 28 (0, 0))
      have hb4 := hb3.trans (ha4.mono hb3.size)
      have hr9 := heap_alloc_new w3 (.cells #[.int .i64 (rawT L).k, .int .i64 (rawT L).n, .string (rawT L).s, .slice qa (rawT L).args.length qc] 28 (0, 0))
      have HI4 := Lib.hid (hi3'.below ha4)
      have HZ := Lib.hid (And.intro hb3.size (show w3.heap.size + 1 ≤ (w3.alloc (.cells #[.int .i64 (rawT L).k, .int .i64 (rawT L).n, .string (rawT L).s, .slice qa (rawT L).args.length qc] 28 (0, 0))).heap.size by simp))
      have HO5a := Lib.hid (HO5.out.below hb4)
      have HO6a := Lib.hid (HO6.out.below hb4)
      have HBa := Lib.hid (HB1.out.trans (hb4.mono HB1.out.size))
      have HR9 := Lib.hid hr9
      clear hi3 hi3' ha4 hb3 hb4 hr9 HO5 HO6 HPT hcu'
      go_upto_region 12 with fail
      generalize w3.alloc (.cells #[.int .i64 (rawT L).k, .int .i64 (rawT L).n, .string (rawT L).s, .slice qa (rawT L).args.length qc] 28 (0, 0)) = W4 at *
      generalize w3.heap.size = g9 at *
      refine wp_region_rest (by kernel_rfl) ?_
      have hd := (Below.refl W4.heap.size W4).drew
      have HO5 := Lib.hid (HO5a.out.below hd)
      have HO6 := Lib.hid (HO6a.out.below hd)
      have HI := Lib.hid (HI4.out.below hd)
      have HBb := Lib.hid (HBa.out.trans (hd.mono HBa.out.size))
      have hr9 := row_on HR9.out hd
      have HZb := Lib.hid (And.intro HZ.out.1 (Nat.le_trans HZ.out.2 hd.size))
      clear hd HO5a HO6a HI4 HBa HR9 HZ
      generalize W4.drew = Wd at *
      have hlen5 : ((LL.take i).map rawT).length ≤ 1000000000 := by rw [List.length_map, List.length_take]; omega
      have hlen6 : ((LL.take i).map goodT).length ≤ 1000000000 := by rw [List.length_map, List.length_take]; omega
      have HLEN := Lib.hid (And.intro hlen5 hlen6)
      clear hlen5 hlen6
      refine rest_chainP (fun u => u.heap[g9]? = some (.cells #[.int .i64 (rawT L).k, .int .i64 (rawT L).n, .string (rawT L).s, .slice qa (rawT L).args.length qc] 28 (0, 0))) 0 8 (.soft 0 (.soft 1 (.soft 4 (.soft 5 (.one 2 (.one 3 (.one 6 (.one 7 .nil)))))))) (.soft _ (.soft _ (.soft _ (.soft _ (.one _ (.one _ (.one _ (.one _ .nil)))))))) ⟨rfl, ⟨rfl, ⟨rfl, ⟨rfl, ⟨rfl, ⟨rfl, ⟨rfl, ⟨rfl, trivial⟩⟩⟩⟩⟩⟩⟩⟩ (by kernel_rfl) (by kernel_rfl) (by kernel_rfl) (by kernel_rfl) (.inr (by kernel_rfl)) hr9 ?_
      refine chainP_softv ((.slice q5 i k5)) (by kernel_rfl) (by kernel_rfl) ?_ ?_
      · simp only [Act.put, List.getElem?_toArray, List.getElem?_cons_succ, List.getElem?_cons_zero, Option.bind_some, List.setIfInBounds_toArray, List.set_cons_succ, List.set_cons_zero, Nat.reduceAdd]
        intro u hu E hE
        go_wp2
        exact hE
      simp only [Act.put, List.getElem?_toArray, List.getElem?_cons_succ, List.getElem?_cons_zero, Option.bind_some, List.setIfInBounds_toArray, List.set_cons_succ, List.set_cons_zero, Nat.reduceAdd]
      refine chainP_softv (.agg #[.int .i64 (rawT L).k, .int .i64 (rawT L).n, .string (rawT L).s, .slice qa (rawT L).args.length qc]) (by kernel_rfl) (by kernel_rfl) ?_ ?_
      · simp only [Act.put, List.getElem?_toArray, List.getElem?_cons_succ, List.getElem?_cons_zero, Option.bind_some, List.setIfInBounds_toArray, List.set_cons_succ, List.set_cons_zero, Nat.reduceAdd]
        intro u hu E hE
        have c0 := (row4 hu).1
        have c1 := (row4 hu).2.1
        have c2 := (row4 hu).2.2.1
        have c3 := (row4 hu).2.2.2
        go_wp2
        exact hE
      simp only [Act.put, List.getElem?_toArray, List.getElem?_cons_succ, List.getElem?_cons_zero, Option.bind_some, List.setIfInBounds_toArray, List.set_cons_succ, List.set_cons_zero, Nat.reduceAdd]
      refine chainP_softv ((.slice q6 i k6)) (by kernel_rfl) (by kernel_rfl) ?_ ?_
      · simp only [Act.put, List.getElem?_toArray, List.getElem?_cons_succ, List.getElem?_cons_zero, Option.bind_some, List.setIfInBounds_toArray, List.set_cons_succ, List.set_cons_zero, Nat.reduceAdd]
        intro u hu E hE
        go_wp2
        exact hE
      simp only [Act.put, List.getElem?_toArray, List.getElem?_cons_succ, List.getElem?_cons_zero, Option.bind_some, List.setIfInBounds_toArray, List.set_cons_succ, List.set_cons_zero, Nat.reduceAdd]
      refine chainP_softv (.agg #[.int .i64 (rawT L).k, .int .i64 (rawT L).n, .string (rawT L).s, .slice qa (rawT L).args.length qc]) (by kernel_rfl) (by kernel_rfl) ?_ ?_
      · simp only [Act.put, List.getElem?_toArray, List.getElem?_cons_succ, List.getElem?_cons_zero, Option.bind_some, List.setIfInBounds_toArray, List.set_cons_succ, List.set_cons_zero, Nat.reduceAdd]
        intro u hu E hE
        have c0 := (row4 hu).1
        have c1 := (row4 hu).2.1
        have c2 := (row4 hu).2.2.1
        have c3 := (row4 hu).2.2.2
        go_wp2
        exact hE
      simp only [Act.put, List.getElem?_toArray, List.getElem?_cons_succ, List.getElem?_cons_zero, Option.bind_some, List.setIfInBounds_toArray, List.set_cons_succ, List.set_cons_zero, Nat.reduceAdd]
      refine chainP_one ?_
      intro E hE
      go_wp2
      refine ⟨row_on hr9 ((Below.refl Wd.heap.size Wd).alloc (Nat.le_refl _) (.cells #[.int .i64 (rawT L).k, .int .i64 (rawT L).n, .string (rawT L).s, .slice qa (rawT L).args.length qc] 28 (0, 0))), ?_⟩
      refine chainP_one ?_
      intro E hE
      have hbs := HBb.out.size
      have hzz := HZb.out
      refine wpList_push_term rfl (.tmp 40) (.tmp 42) rfl w1.heap.size (fun b => (Value.slice q6 i k6).ownBlock ≠ some b) (.slice q5 i k5) _ _ _ _ _ (rawT L) _ rfl HO5.out rfl rfl (HI.out.imp (fun b hb => ⟨fun e => by have := (HLW.out.2 b e).2; omega, fun e => by have := (HLW.out.1 b e).2; omega⟩) fun _ _ _ => rfl) HLEN.out.1 (by omega) ?_
      intro v5' w4 ho5' hb4 hg4 hv4
      have hrx := (hg4.block g9 (by omega) (fun e => by have := (HLW.out.1 g9 e.symm).2; omega)).trans hr9
      have hbe := own_beside HO6.out HSEP.out hg4 hv4
      rw [show rawT L = rawT LL[i] by rw [HL.out], take_map16 rawT LL i hin] at ho5'
      refine hE _ _ ⟨hrx, ?_⟩
      have HO5b := Lib.hid ho5'
      have HO6b := Lib.hid hbe.1
      have HSEPb := Lib.hid hbe.2
      have HBc := Lib.hid (HBb.out.trans ⟨hb4.os, hb4.tape, hb4.output, hb4.size, hb4.block⟩)
      have HRX := Lib.hid hrx
      have HSZ4 := Lib.hid hb4.size
      have HI4 := Lib.hid (HI.out.imp (P' := fun b => b < w4.heap.size) (fun b hb => by have := hb4.size; omega) (fun b hb _ => hg4.block b (by omega) (fun e => by have := (HLW.out.1 b e.symm).2; omega)))
      clear ho5' hb4 hg4 hv4 hbe hrx HO5 HO6 HI
      refine chainP_one ?_
      intro E hE
      go_wp2_with (refine (ref_mend _ (rawT L) _ (fun b => b < w4.heap.size) _ (Nat.le_refl _) (by have := ofN_small L.length L; have := HG.out; unfold rawT; omega) HI4.out).mono ?_; rintro e5 w5 ⟨v7, rfl, hi7, hb7⟩)
      obtain ⟨za, zc, e8⟩ := hi7.form
      replace e8 : v7 = .agg #[.int .i64 (goodT L).k, .int .i64 (goodT L).n, .string (goodT L).s, .slice za (goodT L).args.length zc] := e8
      subst e8
      replace hi7 : IsTm w5 (fun b => False ∨ w4.heap.size ≤ b) (.agg #[.int .i64 (goodT L).k, .int .i64 (goodT L).n, .string (goodT L).s, .slice za (goodT L).args.length zc]) (goodT L) := hi7
      have hrx5 := row_on HRX.out hb7
      refine ⟨hrx5, ?_⟩
      have HO5c := Lib.hid (HO5b.out.below hb7)
      have HO6c := Lib.hid (HO6b.out.below hb7)
      have HBd := Lib.hid (HBc.out.trans (hb7.mono HBc.out.size))
      have HLW6 := Lib.hid HO6b.out.low
      have HLW5 := Lib.hid HO5b.out.low
      have HI7 := Lib.hid hi7
      clear hb7 hi7 HO5b HO6b HBc HRX HI4
      refine chainP_one ?_
      intro E hE
      go_wp2
      refine ⟨row_on hrx5 ((Below.refl w5.heap.size w5).alloc (Nat.le_refl _) (.cells #[.int .i64 (goodT L).k, .int .i64 (goodT L).n, .string (goodT L).s, .slice za (goodT L).args.length zc] 28 (0, 0))), ?_⟩
      clear hrx5
      refine chainP_nil ?_
      refine rest_lineL 8 11 [_, _, _] rfl (by kernel_rfl) (by decide) (by decide) (by kernel_rfl) ?_
      have hbs := HBd.out.size
      refine wpList_push_term rfl (.tmp 44) (.tmp 47) rfl w1.heap.size (fun b => v5'.ownBlock ≠ some b) (.slice q6 i k6) _ _ _ _ _ (goodT L) _ rfl HO6c.out rfl rfl (HI7.out.imp (fun b hb => ⟨fun e => by have := (HLW5.out b e).2; rcases hb with hb | hb; (· exact hb); (· omega), fun e => by have := (HLW6.out b e).2; rcases hb with hb | hb; (· exact hb); (· omega)⟩) fun _ _ _ => rfl) HLEN.out.2 (by omega) ?_
      intro v6' w6 ho6' hb6 hg6 hv6
      have hbe := own_beside HO5c.out (fun k hk h => HSEPb.out k h hk) hg6 hv6
      rw [show goodT L = goodT LL[i] by rw [HL.out], take_map16 goodT LL i hin] at ho6'
      have HRL := Lib.hid (show DsRel LL w1 v5' v6' (.int .i64 ((i + 1 : Nat) : Int)) w6 from
        { ex := ⟨i + 1, by omega, rfl, fun M hM => by
            rw [List.take_succ_eq_append_getElem hin] at hM
            rcases List.mem_append.1 hM with hM | hM
            · exact HSM.out M hM
            · simp only [List.mem_singleton] at hM; rw [hM, ← HL.out]; have := HG.out; omega, hbe.1, ho6'⟩
          sep := fun k hk h => hbe.2 k h hk
          bel := HBd.out.trans ⟨hb6.os, hb6.tape, hb6.output, hb6.size, hb6.block⟩ })
      clear ho6' hb6 hg6 hv6 hbe
      go_wp2
      refine then_rest (rest_end (by decide) ?_)
      go_wp2
      go_roundw
      case measure => simp [intOf]; omega
      case rel => exact HRL.out
    · have b1 : decide ((i : Int) < (LL.length : Int)) = false := by simp; omega
      have b2 : decide (i < LL.length) = false := by simpa using hin
      obtain rfl : i = LL.length := by omega
      rw [List.take_length] at HO5 HO6 HSM
      have hraw : ∀ t ∈ LL.map rawT, t.size ≤ 1000000 ∧ Num.Fit t.n := fun t ht => by
        obtain ⟨L, hL, rfl⟩ := List.mem_map.1 ht
        exact raw_ok16 (HFT.out L hL) (HSM.out L hL)
      have hgoo : ∀ t ∈ LL.map goodT, t.size ≤ 1000000 ∧ Num.Fit t.n := fun t ht => by
        obtain ⟨L, hL, rfl⟩ := List.mem_map.1 ht
        exact good_ok16 (HFT.out L hL) (HSM.out L hL)
      obtain ⟨e1, d1, z1, p1, r1⟩ := both16 s _ hraw (by rw [List.length_map]; omega)
      obtain ⟨e2, d2, z2, p2, r2⟩ := both16 s _ hgoo (by rw [List.length_map]; omega)
      rw [List.length_map] at p1 r1 p2 r2
      have HP1 := Lib.hid p1
      have HR1 := Lib.hid r1
      have HP2 := Lib.hid p2
      have HR2 := Lib.hid r2
      have HZ1 := Lib.hid z1
      have HZ2 := Lib.hid z2
      have HS1 := Lib.hid HO5.out.reads
      have HS2 := Lib.hid HO6.out.reads
      clear hraw hgoo p1 r1 p2 r2 z1 z2 HO5 HO6 HB1
      go_wp2
      refine wp_loop_rounds 3 ?_
      rw [rounds_succ]
      have hix : ∀ W : World, (Instr.index 32 (.agg #[.slice q5 LL.length k5, .slice q6 LL.length k6]) (.int .i64 0)).run Tryd.prog W = .ok (.slice q5 LL.length k5) W := fun W => by kernel_rfl
      go_wp2_with fail
      refine (HP1.out _ _ _ _ HS1.out (HTB.out.on HBW.out)).mono ?_
      rintro e x1 ⟨v7, rfl, hd7, hb7⟩
      obtain ⟨ub, u1, u2, u3, un1, uk1, un2, uk2, un3, uk3, ux, uy, us, rfl⟩ := hd7.cells
      have ha7 := (Below.refl x1.heap.size x1).alloc (Nat.le_refl _) (.cells #[.bool ub, .slice u1 un1 uk1, .slice u2 un2 uk2, .int .i64 ux, .int .i64 uy, .string us, .slice u3 un3 uk3] 35 (0, 0))
      have hr7 := heap_alloc_new x1 (.cells #[.bool ub, .slice u1 un1 uk1, .slice u2 un2 uk2, .int .i64 ux, .int .i64 uy, .string us, .slice u3 un3 uk3] 35 (0, 0))
      have hb7' := hb7.trans (ha7.mono hb7.size)
      have HD7 := Lib.hid (hd7.below ha7)
      have HR7 := Lib.hid hr7
      replace HBW := Lib.hid (HBW.out.trans (hb7'.mono HBW.out.size))
      replace HS1 := Lib.hid (HS1.out.below hb7')
      replace HS2 := Lib.hid (HS2.out.below hb7')
      clear hd7 hb7 ha7 hr7 hb7' hix
      go_wp2_with fail
      generalize x1.alloc (.cells #[.bool ub, .slice u1 un1 uk1, .slice u2 un2 uk2, .int .i64 ux, .int .i64 uy, .string us, .slice u3 un3 uk3] 35 (0, 0)) = x2 at *
      generalize x1.heap.size = g13 at *
      refine (HR1.out _ _ _ _ HS1.out).mono ?_
      rintro e x3 ⟨v8, rfl, hd8, hb8⟩
      obtain ⟨vb, v1, v2, v3, vn1, vk1, vn2, vk2, vn3, vk3, vx, vy, vs, rfl⟩ := hd8.cells
      have ha8 := (Below.refl x3.heap.size x3).alloc (Nat.le_refl _) (.cells #[.bool vb, .slice v1 vn1 vk1, .slice v2 vn2 vk2, .int .i64 vx, .int .i64 vy, .string vs, .slice v3 vn3 vk3] 35 (0, 0))
      have hr8 := heap_alloc_new x3 (.cells #[.bool vb, .slice v1 vn1 vk1, .slice v2 vn2 vk2, .int .i64 vx, .int .i64 vy, .string vs, .slice v3 vn3 vk3] 35 (0, 0))
      have hb8' := hb8.trans (ha8.mono hb8.size)
      have HD8 := Lib.hid (hd8.below ha8)
      replace HD7 := Lib.hid (HD7.out.below hb8')
      obtain ⟨y0, y1, y2, y3, y4, y5, y6⟩ := row7 (row_on HR7.out hb8')
      obtain ⟨z0, z1, z2, z3, z4, z5, z6⟩ := row7 hr8
      replace HBW := Lib.hid (HBW.out.trans (hb8'.mono HBW.out.size))
      replace HS1 := Lib.hid (HS1.out.below hb8')
      replace HS2 := Lib.hid (HS2.out.below hb8')
      have hee : (e1 != e1) = false := by simp
      clear hd8 hb8 ha8 hr8 hb8' HR7
      go_wp2_with fail
      generalize x3.alloc (.cells #[.bool vb, .slice v1 vn1 vk1, .slice v2 vn2 vk2, .int .i64 vx, .int .i64 vy, .string vs, .slice v3 vn3 vk3] 35 (0, 0)) = x4 at *
      refine (r16_SameD HZ1.out HD7.out HD8.out).mono ?_
      rintro e x5 ⟨rfl, hb9⟩
      replace HBW := Lib.hid (HBW.out.trans (hb9.mono HBW.out.size))
      replace HS1 := Lib.hid (HS1.out.below hb9)
      replace HS2 := Lib.hid (HS2.out.below hb9)
      clear hb9 y0 y1 y2 y3 y4 y5 y6 z0 z1 z2 z3 z4 z5 z6 HD7 HD8 hee
      go_wp2_with fail
      rw [rounds_succ]
      have hix : ∀ W : World, (Instr.index 32 (.agg #[.slice q5 LL.length k5, .slice q6 LL.length k6]) (.int .i64 1)).run Tryd.prog W = .ok (.slice q6 LL.length k6) W := fun W => by kernel_rfl
      go_wp2_with fail
      refine (HP2.out _ _ _ _ HS2.out (HTB.out.on HBW.out)).mono ?_
      rintro e x1 ⟨v7, rfl, hd7, hb7⟩
      obtain ⟨ub, u1, u2, u3, un1, uk1, un2, uk2, un3, uk3, ux, uy, us, rfl⟩ := hd7.cells
      have ha7 := (Below.refl x1.heap.size x1).alloc (Nat.le_refl _) (.cells #[.bool ub, .slice u1 un1 uk1, .slice u2 un2 uk2, .int .i64 ux, .int .i64 uy, .string us, .slice u3 un3 uk3] 35 (0, 0))
      have hr7 := heap_alloc_new x1 (.cells #[.bool ub, .slice u1 un1 uk1, .slice u2 un2 uk2, .int .i64 ux, .int .i64 uy, .string us, .slice u3 un3 uk3] 35 (0, 0))
      have hb7' := hb7.trans (ha7.mono hb7.size)
      have HD7 := Lib.hid (hd7.below ha7)
      have HR7 := Lib.hid hr7
      replace HBW := Lib.hid (HBW.out.trans (hb7'.mono HBW.out.size))
      replace HS1 := Lib.hid (HS1.out.below hb7')
      replace HS2 := Lib.hid (HS2.out.below hb7')
      clear hd7 hb7 ha7 hr7 hb7' hix
      go_wp2_with fail
      generalize x1.alloc (.cells #[.bool ub, .slice u1 un1 uk1, .slice u2 un2 uk2, .int .i64 ux, .int .i64 uy, .string us, .slice u3 un3 uk3] 35 (0, 0)) = x2 at *
      generalize x1.heap.size = g13 at *
      refine (HR2.out _ _ _ _ HS2.out).mono ?_
      rintro e x3 ⟨v8, rfl, hd8, hb8⟩
      obtain ⟨vb, v1, v2, v3, vn1, vk1, vn2, vk2, vn3, vk3, vx, vy, vs, rfl⟩ := hd8.cells
      have ha8 := (Below.refl x3.heap.size x3).alloc (Nat.le_refl _) (.cells #[.bool vb, .slice v1 vn1 vk1, .slice v2 vn2 vk2, .int .i64 vx, .int .i64 vy, .string vs, .slice v3 vn3 vk3] 35 (0, 0))
      have hr8 := heap_alloc_new x3 (.cells #[.bool vb, .slice v1 vn1 vk1, .slice v2 vn2 vk2, .int .i64 vx, .int .i64 vy, .string vs, .slice v3 vn3 vk3] 35 (0, 0))
      have hb8' := hb8.trans (ha8.mono hb8.size)
      have HD8 := Lib.hid (hd8.below ha8)
      replace HD7 := Lib.hid (HD7.out.below hb8')
      obtain ⟨y0, y1, y2, y3, y4, y5, y6⟩ := row7 (row_on HR7.out hb8')
      obtain ⟨z0, z1, z2, z3, z4, z5, z6⟩ := row7 hr8
      replace HBW := Lib.hid (HBW.out.trans (hb8'.mono HBW.out.size))
      replace HS1 := Lib.hid (HS1.out.below hb8')
      replace HS2 := Lib.hid (HS2.out.below hb8')
      have hee : (e2 != e2) = false := by simp
      clear hd8 hb8 ha8 hr8 hb8' HR7
      go_wp2_with fail
      generalize x3.alloc (.cells #[.bool vb, .slice v1 vn1 vk1, .slice v2 vn2 vk2, .int .i64 vx, .int .i64 vy, .string vs, .slice v3 vn3 vk3] 35 (0, 0)) = x4 at *
      refine (r16_SameD HZ2.out HD7.out HD8.out).mono ?_
      rintro e x5 ⟨rfl, hb9⟩
      replace HBW := Lib.hid (HBW.out.trans (hb9.mono HBW.out.size))
      replace HS1 := Lib.hid (HS1.out.below hb9)
      replace HS2 := Lib.hid (HS2.out.below hb9)
      clear hb9 y0 y1 y2 y3 y4 y5 y6 z0 z1 z2 z3 z4 z5 z6 HD7 HD8 hee
      go_wp2_with fail
      rw [rounds_succ]
      clear HS1 HS2 HP1 HP2 HR1 HR2 HZ1 HZ2
      go_wp2_with fail
      refine (tx_Does _ _ _).mono ?_
      rintro e x6 ⟨rfl, rfl⟩
      go_wp2_with fail
      refine (r16_Does _ _ _).mono ?_
      rintro e x7 ⟨rfl, rfl⟩
      have hqq : (doesT s LL.length == doesT s LL.length) = true := by simp
      go_wp2
      go_ret
      exact ⟨rfl, HBW.out⟩
theorem wf_fit16 {a : Int} (h : (Lit.int .i64 a).wf = true) : Num.Fit a := by
  have h2 : IntKind.i64.min ≤ a ∧ a ≤ IntKind.i64.max := by simpa only [Lit.wf, Bool.and_eq_true, decide_eq_true_eq] using h
  have e1 : IntKind.i64.min = -9223372036854775808 := by decide
  have e2 : IntKind.i64.max = 9223372036854775807 := by decide
  unfold Num.Fit; rw [e1, e2] at h2; exact h2
set_option maxRecDepth 100000 in
set_option maxHeartbeats 4000000 in
theorem law_doesG (s : ByteArray) (LL : List (List Pt)) (v1 : Value) (w : World) (ht : Num.Tab w) (h1 : PsSl w v1 LL) (b1 b2 : Bool) (g1 : decide ((5 : Int) < (LL.length : Int)) = b1) (g2 : decide ((100 : Int) < (s.size : Int)) = b2) (hb : (b1 || b2) = true) :
    Calls Tryd.prog 3 #[.string s, v1] w (Says true w) := by
  obtain ⟨a, cap, rfl, hc, hm, -⟩ := h1
  have HTB := Lib.hid ht
  clear ht
  cases b1 <;> cases b2 <;> first
    | exact absurd hb (by decide)
    | (clear hb
       go_enter Tryd.func3, Tryd.ntmps3
       go_wp2_with fail
       refine (l16_alive _ HTB.out).mono ?_
       rintro e w1 ⟨rfl, hb1⟩
       have HB := Lib.hid hb1
       clear hb1
       go_wp2
       go_ret
       exact ⟨rfl, HB.out⟩)
theorem law_does (s : ByteArray) (LL : List (List Pt)) (v1 : Value) (w : World) (ht : Num.Tab w) (h1 : PsSl w v1 LL) (hf : ∀ L ∈ LL, ∀ p ∈ L, (Lit.int .i64 p.n).wf = true) : Calls Tryd.prog 3 #[.string s, v1] w (Says true w) := by
  by_cases h : LL.length ≤ 5 ∧ s.size ≤ 100
  · exact law_does0 s LL v1 w ht h1 h.2 h.1 fun L hL p hp => wf_fit16 (hf L hL p hp)
  · refine law_doesG s LL v1 w ht h1 _ _ rfl rfl ?_
    simp only [Bool.or_eq_true, decide_eq_true_eq]
    omega
end Go.Proofs.YtkhchmgdaolojaaDoor.Tms

