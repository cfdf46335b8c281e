
/-
  The statements of layer 16: TextNumbers, walked over the program.
  The statements of layer 16: TextNumbers holds, of whatever number and byte.
-/
import Derived.Test.YtkhchmgdaolojaaDoorTxq
import Derived.Test.YtkhchmgdaolojaaDoorSame
namespace Go.Proofs.YtkhchmgdaolojaaDoor.Tms
open Go Go.RowKit Go.Proofs.YtkhchmgdaolojaaDoor.Reg Go.Proofs.YtkhchmgdaolojaaDoor.Rws Go.Proofs.YtkhchmgdaolojaaDoor.Maps Go.Instr
set_option linter.unusedVariables false
set_option linter.unusedSimpArgs false

theorem dis_parts {f : Int} {t : Tm} {g : Nat} {w : World} {q q' : Option Addr} {k k' : Nat} {cs : Array Value} (hr : w.heap[g]? = some (.cells cs 35 (0, 0))) (h1 : IntSl w (fun b => b ≠ g) (.slice q 1 k) [f]) (h2 : IsSl w (fun b => b ≠ g) (.slice q' 1 k') [t]) :
    (w.setRow g #[.bool true, .slice q 1 k, .slice q' 1 k', .int .i64 0, .int .i64 0, .string ⟨#[]⟩, .slice none 0 0]).heap[g]? = some (.cells #[.bool true, .slice q 1 k, .slice q' 1 k', .int .i64 0, .int .i64 0, .string ⟨#[]⟩, .slice none 0 0] 35 (0, 0)) ∧ IntSl (w.setRow g #[.bool true, .slice q 1 k, .slice q' 1 k', .int .i64 0, .int .i64 0, .string ⟨#[]⟩, .slice none 0 0]) AnyB (.slice q 1 k) [f] ∧ IsSl (w.setRow g #[.bool true, .slice q 1 k, .slice q' 1 k', .int .i64 0, .int .i64 0, .string ⟨#[]⟩, .slice none 0 0]) (fun b => b ≠ g) (.slice q' 1 k') [t] :=
  ⟨setRow_heap w g _ _ _ _ hr, (h1.imp (fun _ h => h) (by simp) (fun b hb _ => setRow_other _ _ _ _ hb)).any16, h2.imp (fun _ h => h) fun b hb _ => setRow_other _ _ _ _ hb⟩
theorem same_int (n : Int) : sameT (intT n) (intT n) = true := by unfold intT sameT; simp [sameL]
set_option maxRecDepth 100000 in
set_option maxHeartbeats 16000000 in
theorem law_numbers0 (n : Int) (c : UInt8) (L : Tm) (w : World) (ht : Num.Tab w) (hf : Num.Fit n) (hL : numberD (intT n) (varT 0) = .is 1 L) (hB : numberD (varT 0) L = .is 0 (intT n)) (hLs : L.size ≤ 1000000 ∧ checkT L = 0 ∧ Num.Fit L.n ∧ L.s.size ≤ 100000)
    (hC : codeD (varT 0) (intT c.toNat) = .is 0 (atomT ⟨#[c]⟩)) (hD : codeD (atomT ⟨#[c]⟩) (varT 0) = .is 1 (intT c.toNat)) (hci : ∀ m : Int, checkT (intT m) = 0) (hca : checkT (atomT ⟨#[c]⟩) = 0) :
    Calls Tryd.prog 5 #[.int .i64 n, .int .u8 c.toNat] w (Says true w) := by
  have HTB := Lib.hid ht
  have HL := Lib.hid hL
  have HBK := Lib.hid hB
  have HLS := Lib.hid hLs
  have HCC := Lib.hid (And.intro hC hD)
  have HCI := Lib.hid hci
  have HCA := Lib.hid hca
  have HF := Lib.hid hf
  clear ht hL hB hLs hC hD hci hca hf
  go_enter Tryd.func5, Tryd.ntmps5
  go_wp2_with fail
  refine (l16_alive _ HTB.out).mono ?_
  rintro e w1 ⟨rfl, hb1⟩
  have hr1 := heap_alloc_new w1 (.cells #[.int .i64 2, .int .i64 n, .string ⟨#[]⟩, .slice none 0 0] 28 (0, 0))
  have ha1 := (Below.refl w1.heap.size w1).alloc (Nat.le_refl _) (.cells #[.int .i64 2, .int .i64 n, .string ⟨#[]⟩, .slice none 0 0] 28 (0, 0))
  have hbw := hb1.trans (ha1.mono hb1.size)
  have hp5 := (Array.getElem?_eq_some_iff.1 hr1).1
  clear ha1 hb1
  go_upto_region 4 with fail
  generalize w1.alloc (.cells #[.int .i64 2, .int .i64 n, .string ⟨#[]⟩, .slice none 0 0] 28 (0, 0)) = W4 at *
  generalize w1.heap.size = p5 at *
  have HR5 := Lib.hid hr1
  have HBW := Lib.hid hbw
  have HP5 := Lib.hid hp5
  clear hr1 hbw hp5
  go_cut [6, 7] from 18 to 24 (fun v6 v7 wx => ∃ p6, v6 = .pointer (some ⟨p6, 0, none⟩) ∧ v7 = .int .i64 0 ∧ p5 < p6 ∧ w.heap.size ≤ p6 ∧ DIs 1 L p6 wx ∧ wx.heap[p5]? = some (.cells #[.int .i64 2, .int .i64 n, .string ⟨#[]⟩, .slice none 0 0] 28 (0, 0)) ∧ Below w.heap.size w wx)
  case first =>
    have hr5 := HR5.out
    have hbw := HBW.out
    have hlt := HP5.out
    clear HR5 HBW HP5
    refine wp_region_rest (by kernel_rfl) ?_
    have hd := (Below.refl W4.heap.size W4).drew
    replace hr5 := row_on hr5 hd
    replace hbw := hbw.trans (hd.mono hbw.size)
    replace hlt := Nat.lt_of_lt_of_le hlt hd.size
    clear hd
    generalize W4.drew = W0 at *
    obtain ⟨y0, y1, y2, y3⟩ := row4 hr5
    have HR5 := Lib.hid hr5
    have HBW := Lib.hid hbw
    clear hr5 hbw
    refine rest_chainP (fun u => Below W0.heap.size W0 u) 0 10 (.soft 0 (.two 1 7 (.two 2 7 (.two 3 7 (.soft 4 (.soft 5 (.soft 6 (.one 7 (.one 8 (.soft 9 .nil)))))) (.one 3 (.soft 4 (.soft 5 (.soft 6 (.one 8 (.soft 9 .nil))))))) (.one 2 (.one 3 (.soft 4 (.soft 5 (.soft 6 (.one 8 (.soft 9 .nil)))))))) (.one 1 (.one 2 (.one 3 (.soft 4 (.soft 5 (.soft 6 (.one 8 (.soft 9 .nil)))))))))) (.soft _ (.two _ _ (.two _ _ (.two _ _ (.soft _ (.soft _ (.soft _ (.one _ (.one _ (.soft _ .nil)))))) (.one _ (.soft _ (.soft _ (.soft _ (.one _ (.soft _ .nil))))))) (.one _ (.one _ (.soft _ (.soft _ (.soft _ (.one _ (.soft _ .nil)))))))) (.one _ (.one _ (.one _ (.soft _ (.soft _ (.soft _ (.one _ (.soft _ .nil)))))))))) ⟨rfl, ⟨rfl, rfl, ⟨rfl, rfl, ⟨rfl, rfl, ⟨rfl, ⟨rfl, ⟨rfl, ⟨rfl, ⟨rfl, ⟨rfl, trivial⟩⟩⟩⟩⟩⟩, ⟨rfl, ⟨rfl, ⟨rfl, ⟨rfl, ⟨rfl, ⟨rfl, trivial⟩⟩⟩⟩⟩⟩⟩, ⟨rfl, ⟨rfl, ⟨rfl, ⟨rfl, ⟨rfl, ⟨rfl, ⟨rfl, trivial⟩⟩⟩⟩⟩⟩⟩⟩, ⟨rfl, ⟨rfl, ⟨rfl, ⟨rfl, ⟨rfl, ⟨rfl, ⟨rfl, ⟨rfl, trivial⟩⟩⟩⟩⟩⟩⟩⟩⟩⟩ (by kernel_rfl) (by kernel_rfl) (by kernel_rfl) (by kernel_rfl) (.inl rfl) (Below.refl _ _) ?_
    have hb0 := Below.refl W0.heap.size W0
    refine chainP_soft (a1 := ?ma1) (by kernel_rfl) (by kernel_rfl) ?mh1 ?mr1
    case mh1 =>
      intro u hu E hE
      have c0 := (hu.cell (p := ⟨p5, 0, none⟩) hlt).trans y0
      have c1 := (hu.cell (p := ⟨p5, 1, none⟩) hlt).trans y1
      have c2 := (hu.cell (p := ⟨p5, 2, none⟩) hlt).trans y2
      have c3 := (hu.cell (p := ⟨p5, 3, none⟩) hlt).trans y3
      go_wp2
      rfl
    refine chainP_two ?_ ?_
    · intro E hE
      go_wp2_with (refine (l16_v _ _).mono ?_; rintro e x1 ⟨rfl, hbn⟩)
      have hx1 := hb0.trans (hbn.mono hb0.size)
      clear hbn
      refine ⟨hx1, ?_⟩
      refine chainP_two ?_ ?_
      · intro E hE
        go_wp2
        have hrw : IsSl (x1.alloc (.cells #[.int .i64 2, .int .i64 n, .string ⟨#[]⟩, .slice none 0 0, .int .i64 1, .int .i64 0, .string ⟨#[]⟩, .slice none 0 0] 28 (0, 0))) (fun b => b < 0 ∨ b = x1.heap.size) (.slice (some ⟨x1.heap.size, 0, none⟩) 2 2) [intT n, varT 0] := row2P (x := intT n) (y := varT 0) (a := none) (c := 0) (a' := none) (c' := 0) (int_is _ _ _) (var_is _ _ _) (Or.inr rfl)
        have hbn := (Below.refl x1.heap.size x1).alloc (Nat.le_refl _) (.cells #[.int .i64 2, .int .i64 n, .string ⟨#[]⟩, .slice none 0 0, .int .i64 1, .int .i64 0, .string ⟨#[]⟩, .slice none 0 0] 28 (0, 0))
        have hrl := (Array.getElem?_eq_some_iff.1 (heap_alloc_new x1 (.cells #[.int .i64 2, .int .i64 n, .string ⟨#[]⟩, .slice none 0 0, .int .i64 1, .int .i64 0, .string ⟨#[]⟩, .slice none 0 0] 28 (0, 0)))).1
        have hx2 := hx1.trans (hbn.mono hx1.size)
        clear hbn
        refine ⟨hx2, ?_⟩
        generalize hGx2 : x1.alloc (.cells #[.int .i64 2, .int .i64 n, .string ⟨#[]⟩, .slice none 0 0, .int .i64 1, .int .i64 0, .string ⟨#[]⟩, .slice none 0 0] 28 (0, 0)) = x2 at *
        clear hGx2
        refine chainP_two ?_ ?_
        · intro E hE
          go_wp2_with (refine (tx_Do_number [intT n, varT 0] (intT n) (varT 0) _ _ _ _ hrw rfl (by intro t ht; simp only [List.mem_cons, List.not_mem_nil, or_false] at ht; rcases ht with rfl | rfl; (· exact ⟨by simp [intT, Tm.size, sizeL], HCI.out _⟩); (· exact ⟨by decide, by decide +kernel⟩)) HF.out (by decide) (by show (0 : Nat) ≤ _; omega) (by show (0 : Nat) ≤ _; omega) (HTB.out.on (HBW.out.trans (hx2.mono HBW.out.size)))).mono ?_; rintro e x3 hdp; rw [HL.out] at hdp; obtain ⟨p1, r1, p2, r2, rfl, hic, hsc, hbn⟩ := hdp.is)
          clear hrw hdp
          have HIC := Lib.hid hic.any16
          have HSC := Lib.hid (hsc.imp (P' := AnyB) (fun _ _ => trivial) (fun _ _ _ => rfl))
          clear hrl
          clear hic hsc
          have hx3 := hx2.trans (hbn.mono hx2.size)
          clear hbn
          refine ⟨hx3, ?_⟩
          refine chainP_softv (.tuple #[.agg #[.bool true, .slice p1 1 r1, .slice p2 1 r2, .int .i64 0, .int .i64 0, .string ⟨#[]⟩, .slice none 0 0], .int .i64 0]) (by kernel_rfl) (by kernel_rfl) ?_ ?_
          · simp only [Act.put, List.getElem?_toArray, List.getElem?_cons_succ, List.getElem?_cons_zero, Option.bind_some, List.setIfInBounds_toArray, List.set_cons_succ, List.set_cons_zero, Nat.reduceAdd]
            intro u hu E hE
            go_wp2
            exact hE
          simp only [Act.put, List.getElem?_toArray, List.getElem?_cons_succ, List.getElem?_cons_zero, Option.bind_some, List.setIfInBounds_toArray, List.set_cons_succ, List.set_cons_zero, Nat.reduceAdd]
          refine chainP_softv (.agg #[.bool true, .slice p1 1 r1, .slice p2 1 r2, .int .i64 0, .int .i64 0, .string ⟨#[]⟩, .slice none 0 0]) (by kernel_rfl) (by kernel_rfl) ?_ ?_
          · simp only [Act.put, List.getElem?_toArray, List.getElem?_cons_succ, List.getElem?_cons_zero, Option.bind_some, List.setIfInBounds_toArray, List.set_cons_succ, List.set_cons_zero, Nat.reduceAdd]
            intro u hu E hE
            go_wp2
            exact hE
          simp only [Act.put, List.getElem?_toArray, List.getElem?_cons_succ, List.getElem?_cons_zero, Option.bind_some, List.setIfInBounds_toArray, List.set_cons_succ, List.set_cons_zero, Nat.reduceAdd]
          refine chainP_softv (.int .i64 0) (by kernel_rfl) (by kernel_rfl) ?_ ?_
          · simp only [Act.put, List.getElem?_toArray, List.getElem?_cons_succ, List.getElem?_cons_zero, Option.bind_some, List.setIfInBounds_toArray, List.set_cons_succ, List.set_cons_zero, Nat.reduceAdd]
            intro u hu E hE
            go_wp2
            exact hE
          simp only [Act.put, List.getElem?_toArray, List.getElem?_cons_succ, List.getElem?_cons_zero, Option.bind_some, List.setIfInBounds_toArray, List.set_cons_succ, List.set_cons_zero, Nat.reduceAdd]
          refine chainP_one ?_
          intro E hE
          go_wp2
          have hrd := heap_alloc_new x3 (.cells #[.bool false, .slice none 0 0, .slice none 0 0, .int .i64 0, .int .i64 0, .string ⟨#[]⟩, .slice none 0 0] 35 (0, 0))
          have hbn := (Below.refl x3.heap.size x3).alloc (Nat.le_refl _) (.cells #[.bool false, .slice none 0 0, .slice none 0 0, .int .i64 0, .int .i64 0, .string ⟨#[]⟩, .slice none 0 0] 35 (0, 0))
          have hgl : W0.heap.size ≤ x3.heap.size := hx3.size
          replace HIC := Lib.hid (HIC.out.ne16 (g := x3.heap.size) (fun b _ hlt => by omega))
          replace HSC := Lib.hid (HSC.out.ne16 (g := x3.heap.size) (fun b _ hlt => by omega))
          replace HIC := Lib.hid (HIC.out.below hbn)
          replace HSC := Lib.hid (HSC.out.below hbn)
          have hx4 := hx3.trans (hbn.mono hx3.size)
          clear hbn
          refine ⟨hx4, ?_⟩
          generalize hGx4 : x3.alloc (.cells #[.bool false, .slice none 0 0, .slice none 0 0, .int .i64 0, .int .i64 0, .string ⟨#[]⟩, .slice none 0 0] 35 (0, 0)) = x4 at *
          clear hGx4
          refine chainP_one ?_
          intro E hE
          have HDR := Lib.hid (dis_store (f := 1) (t := L) hrd HIC.out HSC.out)
          go_wp2_with (refine wpList_store_row rfl 35 (.tmp 6) (.tmp 23) rfl (x3.heap.size) #[.bool true, .slice p1 1 r1, .slice p2 1 r2, .int .i64 0, .int .i64 0, .string ⟨#[]⟩, .slice none 0 0] rfl rfl _ _ hrd size_did rfl (by simp [Value.oneCell']) ?_)
          have hfin := below_row (cs := #[.bool true, .slice p1 1 r1, .slice p2 1 r2, .int .i64 0, .int .i64 0, .string ⟨#[]⟩, .slice none 0 0]) hx4 hgl
          refine ⟨hfin, ?_⟩
          refine chainP_softv (.int .i64 0) (by kernel_rfl) (by kernel_rfl) ?_ ?_
          · simp only [Act.put, List.getElem?_toArray, List.getElem?_cons_succ, List.getElem?_cons_zero, Option.bind_some, List.setIfInBounds_toArray, List.set_cons_succ, List.set_cons_zero, Nat.reduceAdd]
            intro u hu E hE
            go_wp2
            exact hE
          simp only [Act.put, List.getElem?_toArray, List.getElem?_cons_succ, List.getElem?_cons_zero, Option.bind_some, List.setIfInBounds_toArray, List.set_cons_succ, List.set_cons_zero, Nat.reduceAdd]
          have HFIN := Lib.hid hfin
          clear hrd HIC HSC hfin
          refine chainP_nil (rest_end (by decide) ?_)
          go_wp2
          go_meet
          exact ⟨_, rfl, rfl, by omega, Nat.le_trans HBW.out.size hgl, HDR.out, row_on HR5.out HFIN.out, HBW.out.trans (HFIN.out.mono HBW.out.size)⟩
        · intro E hE
          go_wp2
          have hrd := heap_alloc_new x2 (.cells #[.bool false, .slice none 0 0, .slice none 0 0, .int .i64 0, .int .i64 0, .string ⟨#[]⟩, .slice none 0 0] 35 (0, 0))
          have hbn := (Below.refl x2.heap.size x2).alloc (Nat.le_refl _) (.cells #[.bool false, .slice none 0 0, .slice none 0 0, .int .i64 0, .int .i64 0, .string ⟨#[]⟩, .slice none 0 0] 35 (0, 0))
          have hgl : W0.heap.size ≤ x2.heap.size := hx2.size
          have hgr : x1.heap.size ≠ x2.heap.size := by omega
          replace hrw := hrw.below hbn
          replace hrl := Nat.lt_of_lt_of_le hrl hbn.size
          have hx3 := hx2.trans (hbn.mono hx2.size)
          clear hbn
          refine ⟨hx3, ?_⟩
          generalize hGx3 : x2.alloc (.cells #[.bool false, .slice none 0 0, .slice none 0 0, .int .i64 0, .int .i64 0, .string ⟨#[]⟩, .slice none 0 0] 35 (0, 0)) = x3 at *
          clear hGx3
          refine chainP_one ?_
          intro E hE
          go_wp2_with (refine (tx_Do_number [intT n, varT 0] (intT n) (varT 0) _ _ _ _ hrw rfl (by intro t ht; simp only [List.mem_cons, List.not_mem_nil, or_false] at ht; rcases ht with rfl | rfl; (· exact ⟨by simp [intT, Tm.size, sizeL], HCI.out _⟩); (· exact ⟨by decide, by decide +kernel⟩)) HF.out (by decide) (by show (0 : Nat) ≤ _; omega) (by show (0 : Nat) ≤ _; omega) (HTB.out.on (HBW.out.trans (hx3.mono HBW.out.size)))).mono ?_; rintro e x4 hdp; rw [HL.out] at hdp; obtain ⟨p1, r1, p2, r2, rfl, hic, hsc, hbn⟩ := hdp.is)
          clear hrw hdp
          have hgl0 := (Array.getElem?_eq_some_iff.1 hrd).1
          have HIC := Lib.hid (hic.ne16 (g := x2.heap.size) (fun b hb _ => by rcases hb with ⟨hb | hb, hb2⟩ | hb <;> omega))
          have HSC := Lib.hid (hsc.ne16 (g := x2.heap.size) (fun b hb _ => by rcases hb with ⟨hb | hb, hb2⟩ | hb <;> omega))
          clear hgl0 hgr hrl
          clear hic hsc
          replace hrd := row_on hrd hbn
          have hx4 := hx3.trans (hbn.mono hx3.size)
          clear hbn
          refine ⟨hx4, ?_⟩
          refine chainP_softv (.tuple #[.agg #[.bool true, .slice p1 1 r1, .slice p2 1 r2, .int .i64 0, .int .i64 0, .string ⟨#[]⟩, .slice none 0 0], .int .i64 0]) (by kernel_rfl) (by kernel_rfl) ?_ ?_
          · simp only [Act.put, List.getElem?_toArray, List.getElem?_cons_succ, List.getElem?_cons_zero, Option.bind_some, List.setIfInBounds_toArray, List.set_cons_succ, List.set_cons_zero, Nat.reduceAdd]
            intro u hu E hE
            go_wp2
            exact hE
          simp only [Act.put, List.getElem?_toArray, List.getElem?_cons_succ, List.getElem?_cons_zero, Option.bind_some, List.setIfInBounds_toArray, List.set_cons_succ, List.set_cons_zero, Nat.reduceAdd]
          refine chainP_softv (.agg #[.bool true, .slice p1 1 r1, .slice p2 1 r2, .int .i64 0, .int .i64 0, .string ⟨#[]⟩, .slice none 0 0]) (by kernel_rfl) (by kernel_rfl) ?_ ?_
          · simp only [Act.put, List.getElem?_toArray, List.getElem?_cons_succ, List.getElem?_cons_zero, Option.bind_some, List.setIfInBounds_toArray, List.set_cons_succ, List.set_cons_zero, Nat.reduceAdd]
            intro u hu E hE
            go_wp2
            exact hE
          simp only [Act.put, List.getElem?_toArray, List.getElem?_cons_succ, List.getElem?_cons_zero, Option.bind_some, List.setIfInBounds_toArray, List.set_cons_succ, List.set_cons_zero, Nat.reduceAdd]
          refine chainP_softv (.int .i64 0) (by kernel_rfl) (by kernel_rfl) ?_ ?_
          · simp only [Act.put, List.getElem?_toArray, List.getElem?_cons_succ, List.getElem?_cons_zero, Option.bind_some, List.setIfInBounds_toArray, List.set_cons_succ, List.set_cons_zero, Nat.reduceAdd]
            intro u hu E hE
            go_wp2
            exact hE
          simp only [Act.put, List.getElem?_toArray, List.getElem?_cons_succ, List.getElem?_cons_zero, Option.bind_some, List.setIfInBounds_toArray, List.set_cons_succ, List.set_cons_zero, Nat.reduceAdd]
          refine chainP_one ?_
          intro E hE
          have HDR := Lib.hid (dis_store (f := 1) (t := L) hrd HIC.out HSC.out)
          go_wp2_with (refine wpList_store_row rfl 35 (.tmp 6) (.tmp 23) rfl (x2.heap.size) #[.bool true, .slice p1 1 r1, .slice p2 1 r2, .int .i64 0, .int .i64 0, .string ⟨#[]⟩, .slice none 0 0] rfl rfl _ _ hrd size_did rfl (by simp [Value.oneCell']) ?_)
          have hfin := below_row (cs := #[.bool true, .slice p1 1 r1, .slice p2 1 r2, .int .i64 0, .int .i64 0, .string ⟨#[]⟩, .slice none 0 0]) hx4 hgl
          refine ⟨hfin, ?_⟩
          refine chainP_softv (.int .i64 0) (by kernel_rfl) (by kernel_rfl) ?_ ?_
          · simp only [Act.put, List.getElem?_toArray, List.getElem?_cons_succ, List.getElem?_cons_zero, Option.bind_some, List.setIfInBounds_toArray, List.set_cons_succ, List.set_cons_zero, Nat.reduceAdd]
            intro u hu E hE
            go_wp2
            exact hE
          simp only [Act.put, List.getElem?_toArray, List.getElem?_cons_succ, List.getElem?_cons_zero, Option.bind_some, List.setIfInBounds_toArray, List.set_cons_succ, List.set_cons_zero, Nat.reduceAdd]
          have HFIN := Lib.hid hfin
          clear hrd HIC HSC hfin
          refine chainP_nil (rest_end (by decide) ?_)
          go_wp2
          go_meet
          exact ⟨_, rfl, rfl, by omega, Nat.le_trans HBW.out.size hgl, HDR.out, row_on HR5.out HFIN.out, HBW.out.trans (HFIN.out.mono HBW.out.size)⟩
      · intro E hE
        go_wp2
        have hrd := heap_alloc_new x1 (.cells #[.bool false, .slice none 0 0, .slice none 0 0, .int .i64 0, .int .i64 0, .string ⟨#[]⟩, .slice none 0 0] 35 (0, 0))
        have hbn := (Below.refl x1.heap.size x1).alloc (Nat.le_refl _) (.cells #[.bool false, .slice none 0 0, .slice none 0 0, .int .i64 0, .int .i64 0, .string ⟨#[]⟩, .slice none 0 0] 35 (0, 0))
        have hgl : W0.heap.size ≤ x1.heap.size := hx1.size
        have hx2 := hx1.trans (hbn.mono hx1.size)
        clear hbn
        refine ⟨hx2, ?_⟩
        generalize hGx2 : x1.alloc (.cells #[.bool false, .slice none 0 0, .slice none 0 0, .int .i64 0, .int .i64 0, .string ⟨#[]⟩, .slice none 0 0] 35 (0, 0)) = x2 at *
        clear hGx2
        refine chainP_one ?_
        intro E hE
        go_wp2
        have hrw : IsSl (x2.alloc (.cells #[.int .i64 2, .int .i64 n, .string ⟨#[]⟩, .slice none 0 0, .int .i64 1, .int .i64 0, .string ⟨#[]⟩, .slice none 0 0] 28 (0, 0))) (fun b => b < 0 ∨ b = x2.heap.size) (.slice (some ⟨x2.heap.size, 0, none⟩) 2 2) [intT n, varT 0] := row2P (x := intT n) (y := varT 0) (a := none) (c := 0) (a' := none) (c' := 0) (int_is _ _ _) (var_is _ _ _) (Or.inr rfl)
        have hbn := (Below.refl x2.heap.size x2).alloc (Nat.le_refl _) (.cells #[.int .i64 2, .int .i64 n, .string ⟨#[]⟩, .slice none 0 0, .int .i64 1, .int .i64 0, .string ⟨#[]⟩, .slice none 0 0] 28 (0, 0))
        have hrl := (Array.getElem?_eq_some_iff.1 (heap_alloc_new x2 (.cells #[.int .i64 2, .int .i64 n, .string ⟨#[]⟩, .slice none 0 0, .int .i64 1, .int .i64 0, .string ⟨#[]⟩, .slice none 0 0] 28 (0, 0)))).1
        have hgr : x2.heap.size ≠ x1.heap.size := by have := (Array.getElem?_eq_some_iff.1 hrd).1; omega
        replace hrd := row_on hrd hbn
        have hx3 := hx2.trans (hbn.mono hx2.size)
        clear hbn
        refine ⟨hx3, ?_⟩
        generalize hGx3 : x2.alloc (.cells #[.int .i64 2, .int .i64 n, .string ⟨#[]⟩, .slice none 0 0, .int .i64 1, .int .i64 0, .string ⟨#[]⟩, .slice none 0 0] 28 (0, 0)) = x3 at *
        clear hGx3
        refine chainP_one ?_
        intro E hE
        go_wp2_with (refine (tx_Do_number [intT n, varT 0] (intT n) (varT 0) _ _ _ _ hrw rfl (by intro t ht; simp only [List.mem_cons, List.not_mem_nil, or_false] at ht; rcases ht with rfl | rfl; (· exact ⟨by simp [intT, Tm.size, sizeL], HCI.out _⟩); (· exact ⟨by decide, by decide +kernel⟩)) HF.out (by decide) (by show (0 : Nat) ≤ _; omega) (by show (0 : Nat) ≤ _; omega) (HTB.out.on (HBW.out.trans (hx3.mono HBW.out.size)))).mono ?_; rintro e x4 hdp; rw [HL.out] at hdp; obtain ⟨p1, r1, p2, r2, rfl, hic, hsc, hbn⟩ := hdp.is)
        clear hrw hdp
        have hgl0 := (Array.getElem?_eq_some_iff.1 hrd).1
        have HIC := Lib.hid (hic.ne16 (g := x1.heap.size) (fun b hb _ => by rcases hb with ⟨hb | hb, hb2⟩ | hb <;> omega))
        have HSC := Lib.hid (hsc.ne16 (g := x1.heap.size) (fun b hb _ => by rcases hb with ⟨hb | hb, hb2⟩ | hb <;> omega))
        clear hgl0 hgr hrl
        clear hic hsc
        replace hrd := row_on hrd hbn
        have hx4 := hx3.trans (hbn.mono hx3.size)
        clear hbn
        refine ⟨hx4, ?_⟩
        refine chainP_softv (.tuple #[.agg #[.bool true, .slice p1 1 r1, .slice p2 1 r2, .int .i64 0, .int .i64 0, .string ⟨#[]⟩, .slice none 0 0], .int .i64 0]) (by kernel_rfl) (by kernel_rfl) ?_ ?_
        · simp only [Act.put, List.getElem?_toArray, List.getElem?_cons_succ, List.getElem?_cons_zero, Option.bind_some, List.setIfInBounds_toArray, List.set_cons_succ, List.set_cons_zero, Nat.reduceAdd]
          intro u hu E hE
          go_wp2
          exact hE
        simp only [Act.put, List.getElem?_toArray, List.getElem?_cons_succ, List.getElem?_cons_zero, Option.bind_some, List.setIfInBounds_toArray, List.set_cons_succ, List.set_cons_zero, Nat.reduceAdd]
        refine chainP_softv (.agg #[.bool true, .slice p1 1 r1, .slice p2 1 r2, .int .i64 0, .int .i64 0, .string ⟨#[]⟩, .slice none 0 0]) (by kernel_rfl) (by kernel_rfl) ?_ ?_
        · simp only [Act.put, List.getElem?_toArray, List.getElem?_cons_succ, List.getElem?_cons_zero, Option.bind_some, List.setIfInBounds_toArray, List.set_cons_succ, List.set_cons_zero, Nat.reduceAdd]
          intro u hu E hE
          go_wp2
          exact hE
        simp only [Act.put, List.getElem?_toArray, List.getElem?_cons_succ, List.getElem?_cons_zero, Option.bind_some, List.setIfInBounds_toArray, List.set_cons_succ, List.set_cons_zero, Nat.reduceAdd]
        refine chainP_softv (.int .i64 0) (by kernel_rfl) (by kernel_rfl) ?_ ?_
        · simp only [Act.put, List.getElem?_toArray, List.getElem?_cons_succ, List.getElem?_cons_zero, Option.bind_some, List.setIfInBounds_toArray, List.set_cons_succ, List.set_cons_zero, Nat.reduceAdd]
          intro u hu E hE
          go_wp2
          exact hE
        simp only [Act.put, List.getElem?_toArray, List.getElem?_cons_succ, List.getElem?_cons_zero, Option.bind_some, List.setIfInBounds_toArray, List.set_cons_succ, List.set_cons_zero, Nat.reduceAdd]
        refine chainP_one ?_
        intro E hE
        have HDR := Lib.hid (dis_store (f := 1) (t := L) hrd HIC.out HSC.out)
        go_wp2_with (refine wpList_store_row rfl 35 (.tmp 6) (.tmp 23) rfl (x1.heap.size) #[.bool true, .slice p1 1 r1, .slice p2 1 r2, .int .i64 0, .int .i64 0, .string ⟨#[]⟩, .slice none 0 0] rfl rfl _ _ hrd size_did rfl (by simp [Value.oneCell']) ?_)
        have hfin := below_row (cs := #[.bool true, .slice p1 1 r1, .slice p2 1 r2, .int .i64 0, .int .i64 0, .string ⟨#[]⟩, .slice none 0 0]) hx4 hgl
        refine ⟨hfin, ?_⟩
        refine chainP_softv (.int .i64 0) (by kernel_rfl) (by kernel_rfl) ?_ ?_
        · simp only [Act.put, List.getElem?_toArray, List.getElem?_cons_succ, List.getElem?_cons_zero, Option.bind_some, List.setIfInBounds_toArray, List.set_cons_succ, List.set_cons_zero, Nat.reduceAdd]
          intro u hu E hE
          go_wp2
          exact hE
        simp only [Act.put, List.getElem?_toArray, List.getElem?_cons_succ, List.getElem?_cons_zero, Option.bind_some, List.setIfInBounds_toArray, List.set_cons_succ, List.set_cons_zero, Nat.reduceAdd]
        have HFIN := Lib.hid hfin
        clear hrd HIC HSC hfin
        refine chainP_nil (rest_end (by decide) ?_)
        go_wp2
        go_meet
        exact ⟨_, rfl, rfl, by omega, Nat.le_trans HBW.out.size hgl, HDR.out, row_on HR5.out HFIN.out, HBW.out.trans (HFIN.out.mono HBW.out.size)⟩
    · intro E hE
      go_wp2
      have hrd := heap_alloc_new W0 (.cells #[.bool false, .slice none 0 0, .slice none 0 0, .int .i64 0, .int .i64 0, .string ⟨#[]⟩, .slice none 0 0] 35 (0, 0))
      have hbn := (Below.refl W0.heap.size W0).alloc (Nat.le_refl _) (.cells #[.bool false, .slice none 0 0, .slice none 0 0, .int .i64 0, .int .i64 0, .string ⟨#[]⟩, .slice none 0 0] 35 (0, 0))
      have hgl : W0.heap.size ≤ W0.heap.size := hb0.size
      have hx1 := hb0.trans (hbn.mono hb0.size)
      clear hbn
      refine ⟨hx1, ?_⟩
      generalize hGx1 : W0.alloc (.cells #[.bool false, .slice none 0 0, .slice none 0 0, .int .i64 0, .int .i64 0, .string ⟨#[]⟩, .slice none 0 0] 35 (0, 0)) = x1 at *
      clear hGx1
      refine chainP_one ?_
      intro E hE
      go_wp2_with (refine (l16_v _ _).mono ?_; rintro e x2 ⟨rfl, hbn⟩)
      replace hrd := row_on hrd hbn
      have hx2 := hx1.trans (hbn.mono hx1.size)
      clear hbn
      refine ⟨hx2, ?_⟩
      refine chainP_one ?_
      intro E hE
      go_wp2
      have hrw : IsSl (x2.alloc (.cells #[.int .i64 2, .int .i64 n, .string ⟨#[]⟩, .slice none 0 0, .int .i64 1, .int .i64 0, .string ⟨#[]⟩, .slice none 0 0] 28 (0, 0))) (fun b => b < 0 ∨ b = x2.heap.size) (.slice (some ⟨x2.heap.size, 0, none⟩) 2 2) [intT n, varT 0] := row2P (x := intT n) (y := varT 0) (a := none) (c := 0) (a' := none) (c' := 0) (int_is _ _ _) (var_is _ _ _) (Or.inr rfl)
      have hbn := (Below.refl x2.heap.size x2).alloc (Nat.le_refl _) (.cells #[.int .i64 2, .int .i64 n, .string ⟨#[]⟩, .slice none 0 0, .int .i64 1, .int .i64 0, .string ⟨#[]⟩, .slice none 0 0] 28 (0, 0))
      have hrl := (Array.getElem?_eq_some_iff.1 (heap_alloc_new x2 (.cells #[.int .i64 2, .int .i64 n, .string ⟨#[]⟩, .slice none 0 0, .int .i64 1, .int .i64 0, .string ⟨#[]⟩, .slice none 0 0] 28 (0, 0)))).1
      have hgr : x2.heap.size ≠ W0.heap.size := by have := (Array.getElem?_eq_some_iff.1 hrd).1; omega
      replace hrd := row_on hrd hbn
      have hx3 := hx2.trans (hbn.mono hx2.size)
      clear hbn
      refine ⟨hx3, ?_⟩
      generalize hGx3 : x2.alloc (.cells #[.int .i64 2, .int .i64 n, .string ⟨#[]⟩, .slice none 0 0, .int .i64 1, .int .i64 0, .string ⟨#[]⟩, .slice none 0 0] 28 (0, 0)) = x3 at *
      clear hGx3
      refine chainP_one ?_
      intro E hE
      go_wp2_with (refine (tx_Do_number [intT n, varT 0] (intT n) (varT 0) _ _ _ _ hrw rfl (by intro t ht; simp only [List.mem_cons, List.not_mem_nil, or_false] at ht; rcases ht with rfl | rfl; (· exact ⟨by simp [intT, Tm.size, sizeL], HCI.out _⟩); (· exact ⟨by decide, by decide +kernel⟩)) HF.out (by decide) (by show (0 : Nat) ≤ _; omega) (by show (0 : Nat) ≤ _; omega) (HTB.out.on (HBW.out.trans (hx3.mono HBW.out.size)))).mono ?_; rintro e x4 hdp; rw [HL.out] at hdp; obtain ⟨p1, r1, p2, r2, rfl, hic, hsc, hbn⟩ := hdp.is)
      clear hrw hdp
      have hgl0 := (Array.getElem?_eq_some_iff.1 hrd).1
      have HIC := Lib.hid (hic.ne16 (g := W0.heap.size) (fun b hb _ => by rcases hb with ⟨hb | hb, hb2⟩ | hb <;> omega))
      have HSC := Lib.hid (hsc.ne16 (g := W0.heap.size) (fun b hb _ => by rcases hb with ⟨hb | hb, hb2⟩ | hb <;> omega))
      clear hgl0 hgr hrl
      clear hic hsc
      replace hrd := row_on hrd hbn
      have hx4 := hx3.trans (hbn.mono hx3.size)
      clear hbn
      refine ⟨hx4, ?_⟩
      refine chainP_softv (.tuple #[.agg #[.bool true, .slice p1 1 r1, .slice p2 1 r2, .int .i64 0, .int .i64 0, .string ⟨#[]⟩, .slice none 0 0], .int .i64 0]) (by kernel_rfl) (by kernel_rfl) ?_ ?_
      · simp only [Act.put, List.getElem?_toArray, List.getElem?_cons_succ, List.getElem?_cons_zero, Option.bind_some, List.setIfInBounds_toArray, List.set_cons_succ, List.set_cons_zero, Nat.reduceAdd]
        intro u hu E hE
        go_wp2
        exact hE
      simp only [Act.put, List.getElem?_toArray, List.getElem?_cons_succ, List.getElem?_cons_zero, Option.bind_some, List.setIfInBounds_toArray, List.set_cons_succ, List.set_cons_zero, Nat.reduceAdd]
      refine chainP_softv (.agg #[.bool true, .slice p1 1 r1, .slice p2 1 r2, .int .i64 0, .int .i64 0, .string ⟨#[]⟩, .slice none 0 0]) (by kernel_rfl) (by kernel_rfl) ?_ ?_
      · simp only [Act.put, List.getElem?_toArray, List.getElem?_cons_succ, List.getElem?_cons_zero, Option.bind_some, List.setIfInBounds_toArray, List.set_cons_succ, List.set_cons_zero, Nat.reduceAdd]
        intro u hu E hE
        go_wp2
        exact hE
      simp only [Act.put, List.getElem?_toArray, List.getElem?_cons_succ, List.getElem?_cons_zero, Option.bind_some, List.setIfInBounds_toArray, List.set_cons_succ, List.set_cons_zero, Nat.reduceAdd]
      refine chainP_softv (.int .i64 0) (by kernel_rfl) (by kernel_rfl) ?_ ?_
      · simp only [Act.put, List.getElem?_toArray, List.getElem?_cons_succ, List.getElem?_cons_zero, Option.bind_some, List.setIfInBounds_toArray, List.set_cons_succ, List.set_cons_zero, Nat.reduceAdd]
        intro u hu E hE
        go_wp2
        exact hE
      simp only [Act.put, List.getElem?_toArray, List.getElem?_cons_succ, List.getElem?_cons_zero, Option.bind_some, List.setIfInBounds_toArray, List.set_cons_succ, List.set_cons_zero, Nat.reduceAdd]
      refine chainP_one ?_
      intro E hE
      have HDR := Lib.hid (dis_store (f := 1) (t := L) hrd HIC.out HSC.out)
      go_wp2_with (refine wpList_store_row rfl 35 (.tmp 6) (.tmp 23) rfl (W0.heap.size) #[.bool true, .slice p1 1 r1, .slice p2 1 r2, .int .i64 0, .int .i64 0, .string ⟨#[]⟩, .slice none 0 0] rfl rfl _ _ hrd size_did rfl (by simp [Value.oneCell']) ?_)
      have hfin := below_row (cs := #[.bool true, .slice p1 1 r1, .slice p2 1 r2, .int .i64 0, .int .i64 0, .string ⟨#[]⟩, .slice none 0 0]) hx4 hgl
      refine ⟨hfin, ?_⟩
      refine chainP_softv (.int .i64 0) (by kernel_rfl) (by kernel_rfl) ?_ ?_
      · simp only [Act.put, List.getElem?_toArray, List.getElem?_cons_succ, List.getElem?_cons_zero, Option.bind_some, List.setIfInBounds_toArray, List.set_cons_succ, List.set_cons_zero, Nat.reduceAdd]
        intro u hu E hE
        go_wp2
        exact hE
      simp only [Act.put, List.getElem?_toArray, List.getElem?_cons_succ, List.getElem?_cons_zero, Option.bind_some, List.setIfInBounds_toArray, List.set_cons_succ, List.set_cons_zero, Nat.reduceAdd]
      have HFIN := Lib.hid hfin
      clear hrd HIC HSC hfin
      refine chainP_nil (rest_end (by decide) ?_)
      go_wp2
      go_meet
      exact ⟨_, rfl, rfl, by omega, Nat.le_trans HBW.out.size hgl, HDR.out, row_on HR5.out HFIN.out, HBW.out.trans (HFIN.out.mono HBW.out.size)⟩
  case rest =>
  obtain ⟨p6, rfl, rfl, h56, hw6, hd6, hr5, hbw⟩ := hcut
  clear HR5 HBW HP5
  obtain ⟨q, k, q', k', r6, hi6, hs6⟩ := hd6
  obtain ⟨b0, b1, b2, b3, b4, b5, b6⟩ := row7 r6
  have HR5 := Lib.hid hr5
  have HBW := Lib.hid hbw
  have HR6 := Lib.hid r6
  clear hr5 hbw r6
  go_wp2_with fail
  refine (l16_only 1 L q q' k k' (fun b => b ≠ p6) wc hi6 hs6).mono ?_
  rintro e w5 ⟨la, lc, rfl, hi7, hb5⟩
  have hbw := HBW.out.trans (hb5.mono HBW.out.size)
  have hr5 := row_on HR5.out hb5
  have hr6 := row_on HR6.out hb5
  have hi7' := hi7.lt
  have hr8 := heap_alloc_new w5 (.cells #[.int .i64 L.k, .int .i64 L.n, .string L.s, .slice la L.args.length lc] 28 (0, 0))
  have ha8 := (Below.refl w5.heap.size w5).alloc (Nat.le_refl _) (.cells #[.int .i64 L.k, .int .i64 L.n, .string L.s, .slice la L.args.length lc] 28 (0, 0))
  replace hr5 := row_on hr5 ha8
  replace hr6 := row_on hr6 ha8
  replace hi7' := hi7'.below ha8
  replace hbw := hbw.trans (ha8.mono hbw.size)
  have h68 := (Array.getElem?_eq_some_iff.1 (row_on HR6.out hb5)).1
  clear hb5 ha8 hi7 hi6 hs6 HR5 HBW HR6 b0 b1 b2 b3 b4 b5 b6
  go_upto_region 6 with fail
  generalize w5.alloc (.cells #[.int .i64 L.k, .int .i64 L.n, .string L.s, .slice la L.args.length lc] 28 (0, 0)) = W6 at *
  generalize w5.heap.size = p8 at *
  have HS := Lib.hid (And.intro hr5 (And.intro hr6 (And.intro hi7' (And.intro hbw (And.intro hr8 h68)))))
  clear hr5 hr6 hi7' hbw hr8 h68
  go_cut [7] from 31 to 37 (fun v7 wx => v7 = .int .i64 0 ∧ DIs 0 (intT n) p6 wx ∧ wx.heap[p5]? = some (.cells #[.int .i64 2, .int .i64 n, .string ⟨#[]⟩, .slice none 0 0] 28 (0, 0)) ∧ Below w.heap.size w wx)
  case first =>
    obtain ⟨hr5, hrd, hi8, hbw, hr8, h68⟩ := HS.out
    clear HS
    refine wp_region_rest (by kernel_rfl) ?_
    have hd := (Below.refl W6.heap.size W6).drew
    replace hr5 := row_on hr5 hd
    replace hrd := row_on hrd hd
    replace hr8 := row_on hr8 hd
    replace hbw := hbw.trans (hd.mono hbw.size)
    replace hi8 := hi8.below hd
    clear hd
    generalize W6.drew = W0 at *
    obtain ⟨y0, y1, y2, y3⟩ := row4 hr8
    have hlt := (Array.getElem?_eq_some_iff.1 hr8).1
    have HR5 := Lib.hid hr5
    have HBW := Lib.hid hbw
    have HI8 := Lib.hid hi8
    clear hr5 hbw hi8 hr8
    refine rest_chainP (fun u => Below W0.heap.size W0 u) 0 2 (.soft 1 (.one 0 .nil)) (.soft _ (.one _ .nil)) ⟨rfl, ⟨rfl, trivial⟩⟩ (by kernel_rfl) (by kernel_rfl) (by kernel_rfl) (by kernel_rfl) (.inr (by kernel_rfl)) (Below.refl _ _) ?_
    have hb0 := Below.refl W0.heap.size W0
    refine chainP_soft (a1 := ?ma2) (by kernel_rfl) (by kernel_rfl) ?mh2 ?mr2
    case mh2 =>
      intro u hu E hE
      have c0 := (hu.cell (p := ⟨p8, 0, none⟩) hlt).trans y0
      have c1 := (hu.cell (p := ⟨p8, 1, none⟩) hlt).trans y1
      have c2 := (hu.cell (p := ⟨p8, 2, none⟩) hlt).trans y2
      have c3 := (hu.cell (p := ⟨p8, 3, none⟩) hlt).trans y3
      go_wp2
      rfl
    refine chainP_one ?_
    intro E hE
    go_wp2_with (refine (l16_v _ _).mono ?_; rintro e x1 ⟨rfl, hbn⟩)
    have hx1 := hb0.trans (hbn.mono hb0.size)
    clear hbn
    refine ⟨hx1, ?_⟩
    refine chainP_nil ?_
    refine rest_lineL 2 4 [_, _] rfl (by kernel_rfl) (by decide) (by decide) (by kernel_rfl) ?_
    go_wp2_with fail
    have hal := (Below.refl x1.heap.size x1).alloc (Nat.le_refl _) (.cells #[.int .i64 1, .int .i64 0, .string ⟨#[]⟩, .slice none 0 0, .int .i64 L.k, .int .i64 L.n, .string L.s, .slice la L.args.length lc] 28 (0, 0))
    have hgl0 := Nat.lt_of_lt_of_le (Array.getElem?_eq_some_iff.1 hrd).1 hx1.size
    have hrw : IsSl (x1.alloc (.cells #[.int .i64 1, .int .i64 0, .string ⟨#[]⟩, .slice none 0 0, .int .i64 L.k, .int .i64 L.n, .string L.s, .slice la L.args.length lc] 28 (0, 0))) (fun b => b ≠ p6) (.slice (some ⟨x1.heap.size, 0, none⟩) 2 2) [varT 0, L] := row2P (x := varT 0) (y := L) (a := none) (c := 0) (var_is _ _ _) ((HI8.out.below hx1).imp (fun b hb => hb.1.1) fun _ _ _ => rfl) (by have := hgl0; omega)
    refine (tx_Do_number [varT 0, L] (varT 0) L _ _ _ _ hrw rfl (by intro t ht; simp only [List.mem_cons, List.not_mem_nil, or_false] at ht; rcases ht with rfl | rfl; (· exact ⟨by decide, by decide +kernel⟩); (· exact ⟨HLS.out.1, HLS.out.2.1⟩)) (by decide) HLS.out.2.2.1 (by decide) HLS.out.2.2.2 (HTB.out.on (HBW.out.trans ((hx1.trans (hal.mono hx1.size)).mono HBW.out.size)))).mono ?_
    rintro e x9 hdp
    rw [HBK.out] at hdp
    obtain ⟨p1, r1, p2, r2, rfl, hic, hsc, hb9⟩ := hdp.is
    have hx9 := hx1.trans ((hal.trans (hb9.mono hal.size)).mono hx1.size)
    have hle9 := hal.size
    have HIC := Lib.hid (hic.ne16 (g := p6) (fun b hb _ => by rcases hb with hb | hb; (· exact hb.1); (· omega)))
    have HSC := Lib.hid (hsc.ne16 (g := p6) (fun b hb _ => by rcases hb with hb | hb; (· exact hb.1); (· omega)))
    have hrd9 := row_on hrd hx9
    have HX9 := Lib.hid hx9
    clear hdp hic hsc hb9 hal hrw hgl0 hle9 hx9
    go_wp2
    refine then_rest ?_
    refine rest_chainP (fun _ => True) 4 8 (.soft 4 (.soft 5 (.soft 6 (.one 7 .nil)))) (.soft _ (.soft _ (.soft _ (.one _ .nil)))) ⟨rfl, ⟨rfl, ⟨rfl, ⟨rfl, trivial⟩⟩⟩⟩ (by kernel_rfl) (by kernel_rfl) (by kernel_rfl) (by kernel_rfl) (.inr (by kernel_rfl)) trivial ?_
    refine chainP_softv (.tuple #[.agg #[.bool true, .slice p1 1 r1, .slice p2 1 r2, .int .i64 0, .int .i64 0, .string ⟨#[]⟩, .slice none 0 0], .int .i64 0]) (by kernel_rfl) (by kernel_rfl) ?_ ?_
    · simp only [Act.put, List.getElem?_toArray, List.getElem?_cons_succ, List.getElem?_cons_zero, Option.bind_some, List.setIfInBounds_toArray, List.set_cons_succ, List.set_cons_zero, Nat.reduceAdd]
      intro u hu E hE
      go_wp2
      exact hE
    simp only [Act.put, List.getElem?_toArray, List.getElem?_cons_succ, List.getElem?_cons_zero, Option.bind_some, List.setIfInBounds_toArray, List.set_cons_succ, List.set_cons_zero, Nat.reduceAdd]
    refine chainP_softv (.agg #[.bool true, .slice p1 1 r1, .slice p2 1 r2, .int .i64 0, .int .i64 0, .string ⟨#[]⟩, .slice none 0 0]) (by kernel_rfl) (by kernel_rfl) ?_ ?_
    · simp only [Act.put, List.getElem?_toArray, List.getElem?_cons_succ, List.getElem?_cons_zero, Option.bind_some, List.setIfInBounds_toArray, List.set_cons_succ, List.set_cons_zero, Nat.reduceAdd]
      intro u hu E hE
      go_wp2
      exact hE
    simp only [Act.put, List.getElem?_toArray, List.getElem?_cons_succ, List.getElem?_cons_zero, Option.bind_some, List.setIfInBounds_toArray, List.set_cons_succ, List.set_cons_zero, Nat.reduceAdd]
    refine chainP_softv (.int .i64 0) (by kernel_rfl) (by kernel_rfl) ?_ ?_
    · simp only [Act.put, List.getElem?_toArray, List.getElem?_cons_succ, List.getElem?_cons_zero, Option.bind_some, List.setIfInBounds_toArray, List.set_cons_succ, List.set_cons_zero, Nat.reduceAdd]
      intro u hu E hE
      go_wp2
      exact hE
    simp only [Act.put, List.getElem?_toArray, List.getElem?_cons_succ, List.getElem?_cons_zero, Option.bind_some, List.setIfInBounds_toArray, List.set_cons_succ, List.set_cons_zero, Nat.reduceAdd]
    refine chainP_one ?_
    intro E hE
    have HDR := Lib.hid (dis_store (f := 0) (t := (intT n)) hrd9 HIC.out HSC.out)
    go_wp2_with (refine wpList_store_row rfl 35 (.tmp 6) (.tmp 36) rfl p6 #[.bool true, .slice p1 1 r1, .slice p2 1 r2, .int .i64 0, .int .i64 0, .string ⟨#[]⟩, .slice none 0 0] rfl rfl _ _ hrd9 size_did rfl (by simp [Value.oneCell']) ?_)
    refine chainP_nil ?_
    refine rest_lineL 8 9 [_] rfl (by kernel_rfl) (by decide) (by decide) (by kernel_rfl) ?_
    go_wp2
    refine then_rest (rest_end (by decide) ?_)
    go_wp2
    go_meet
    exact ⟨rfl, HDR.out, (setRow_other _ _ _ _ (by omega)).trans (row_on HR5.out HX9.out), below_row (HBW.out.trans (HX9.out.mono HBW.out.size)) hw6⟩
  case rest =>
  obtain ⟨rfl, hd6, hr5, hbw⟩ := hcut
  clear HS
  obtain ⟨q7, k7, q7', k7', r6, hi6, hs6⟩ := hd6
  obtain ⟨b0, b1, b2, b3, b4, b5, b6⟩ := row7 r6
  have HR5 := Lib.hid hr5
  have HBW := Lib.hid hbw
  have HR6 := Lib.hid r6
  clear hr5 hbw r6
  go_wp2_with fail
  refine (l16_only 0 (intT n) q7 q7' k7 k7' (fun b => b ≠ p6) _ hi6 hs6).mono ?_
  rintro e w7 ⟨na, nc, he, hi7, hb5⟩
  replace he : e = .returned (.tuple #[.agg #[.int .i64 2, .int .i64 n, .string ⟨#[]⟩, .slice na 0 nc], .bool true]) := he
  subst he
  have hr10 := heap_alloc_new w7 (.cells #[.int .i64 2, .int .i64 n, .string ⟨#[]⟩, .slice na 0 nc] 28 (0, 0))
  have ha8 := (Below.refl w7.heap.size w7).alloc (Nat.le_refl _) (.cells #[.int .i64 2, .int .i64 n, .string ⟨#[]⟩, .slice na 0 nc] 28 (0, 0))
  have hb8 := hb5.trans (ha8.mono hb5.size)
  have HBW8 := Lib.hid (HBW.out.trans (hb8.mono HBW.out.size))
  have HR8 := Lib.hid (row_on HR6.out hb8)
  obtain ⟨y0, y1, y2, y3⟩ := row4 hr10
  obtain ⟨z0, z1, z2, z3⟩ := row4 (row_on HR5.out hb8)
  clear hb5 ha8 hb8 hi7 hi6 hs6 HR5 HBW HR6 b0 b1 b2 b3 b4 b5 b6 hr10
  go_wp2_with fail
  generalize w7.alloc (.cells #[.int .i64 2, .int .i64 n, .string ⟨#[]⟩, .slice na 0 nc] 28 (0, 0)) = W8 at *
  refine (ref_same 5 (intT n) (intT n) _ _ AnyB AnyB _ (by simp [intT, Tm.size, sizeL]) (by simp [intT, Tm.size, sizeL]) (IsTm.mk' (t := intT n) (IsSl.nil _ _ na nc)) (int_is _ _ _)).mono ?_
  rintro e w9 ⟨rfl, hb9⟩
  rw [show sameT (intT n) (intT n) = true from same_int n]
  have HBW9 := Lib.hid (HBW8.out.trans (hb9.mono HBW8.out.size))
  have HR9 := Lib.hid (row_on HR8.out hb9)
  clear hb9 HBW8 HR8 y0 y1 y2 y3 z0 z1 z2 z3
  have hwc : wrap64 ((c.toNat : Nat) : Int) = (c.toNat : Int) := by have := c.toNat_lt; exact Num.wrap_in (by unfold Num.Fit; omega)
  go_wp2_with fail
  refine (l16_v _ _).mono ?_
  rintro e w10 ⟨rfl, hb10⟩
  have HBX := Lib.hid (HBW9.out.trans (hb10.mono HBW9.out.size))
  have HRX := Lib.hid (row_on HR9.out hb10)
  clear hb10 HBW9 HR9
  go_wp2_with fail
  have hal := (Below.refl w10.heap.size w10).alloc (Nat.le_refl _) (.cells #[.int .i64 1, .int .i64 0, .string ⟨#[]⟩, .slice none 0 0, .int .i64 2, .int .i64 (c.toNat : Int), .string ⟨#[]⟩, .slice none 0 0] 28 (0, 0))
  have hpl := (Array.getElem?_eq_some_iff.1 HRX.out).1
  have hrw : IsSl (w10.alloc (.cells #[.int .i64 1, .int .i64 0, .string ⟨#[]⟩, .slice none 0 0, .int .i64 2, .int .i64 (c.toNat : Int), .string ⟨#[]⟩, .slice none 0 0] 28 (0, 0))) (fun b => b ≠ p6) (.slice (some ⟨w10.heap.size, 0, none⟩) 2 2) [varT 0, intT (c.toNat : Int)] := row2P (x := varT 0) (y := intT (c.toNat : Int)) (a := none) (c := 0) (a' := none) (c' := 0) (var_is _ _ _) (int_is _ _ _) (by omega)
  refine (tx_Do_code [varT 0, intT (c.toNat : Int)] (varT 0) (intT (c.toNat : Int)) _ _ _ _ hrw rfl (by intro t ht; simp only [List.mem_cons, List.not_mem_nil, or_false] at ht; rcases ht with rfl | rfl; (· exact ⟨by decide, by decide +kernel⟩); (· exact ⟨by simp [intT, Tm.size, sizeL], HCI.out _⟩)) (by decide) (by have := c.toNat_lt; show Num.Fit (c.toNat : Int); unfold Num.Fit; omega) (by decide) (by show (0 : Nat) ≤ _; omega) (HTB.out.on (HBX.out.trans (hal.mono HBX.out.size)))).mono ?_
  rintro e w11 hdp
  rw [HCC.out.1] at hdp
  obtain ⟨p1, r1, p2, r2, rfl, hic, hsc, hb11⟩ := hdp.is
  have hb12 := hal.trans (hb11.mono hal.size)
  have hle := hal.size
  have HRY := Lib.hid (row_on HRX.out hb12)
  have HBY := Lib.hid (HBX.out.trans (hb12.mono HBX.out.size))
  have HPP := Lib.hid (dis_parts HRY.out (hic.ne16 (g := p6) (fun b hb _ => by rcases hb with hb | hb; (· exact hb.1); (· omega))) (hsc.ne16 (g := p6) (fun b hb _ => by rcases hb with hb | hb; (· exact hb.1); (· omega))))
  obtain ⟨b0, b1, b2, b3, b4, b5, b6⟩ := row7 HPP.out.1
  clear hal hpl hrw hdp hic hsc hb11 hb12 hle HRX HBX
  go_wp2_with (with_reducible show wpList _ _ _ (⟨none, .store _ (.tmp 6) _, _, _, _, _⟩ :: _) _ _
               go_must (refine wpList_store_row rfl 35 (.tmp 6) (.tmp 63) rfl p6 #[.bool true, .slice p1 1 r1, .slice p2 1 r2, .int .i64 0, .int .i64 0, .string ⟨#[]⟩, .slice none 0 0] rfl rfl _ _ HRY.out size_did rfl (by simp [Value.oneCell']) ?_))
  refine (l16_only 0 (atomT ⟨#[c]⟩) p1 p2 r1 r2 (fun b => b ≠ p6) _ HPP.out.2.1 HPP.out.2.2).mono ?_
  have HBZ := Lib.hid (below_row (cs := #[.bool true, .slice p1 1 r1, .slice p2 1 r2, .int .i64 0, .int .i64 0, .string ⟨#[]⟩, .slice none 0 0]) HBY.out hw6)
  generalize w11.setRow p6 #[.bool true, .slice p1 1 r1, .slice p2 1 r2, .int .i64 0, .int .i64 0, .string ⟨#[]⟩, .slice none 0 0] = W11 at *
  rintro e w12 ⟨nb, mc, he, hi12, hb5⟩
  replace he : e = .returned (.tuple #[.agg #[.int .i64 3, .int .i64 0, .string ⟨#[c]⟩, .slice nb 0 mc], .bool true]) := he
  subst he
  have ha8 := (Below.refl w12.heap.size w12).alloc (Nat.le_refl _) (.cells #[.int .i64 3, .int .i64 0, .string ⟨#[c]⟩, .slice nb 0 mc] 28 (0, 0))
  have hb8 := hb5.trans (ha8.mono hb5.size)
  have hr12 := heap_alloc_new w12 (.cells #[.int .i64 3, .int .i64 0, .string ⟨#[c]⟩, .slice nb 0 mc] 28 (0, 0))
  have hrd := row_on HPP.out.1 hb8
  have hbw := HBZ.out.trans (hb8.mono HBZ.out.size)
  clear hb5 ha8 hb8 hi12 HPP HBZ HBY HRY b0 b1 b2 b3 b4 b5 b6
  go_upto_region 12 with fail
  generalize w12.alloc (.cells #[.int .i64 3, .int .i64 0, .string ⟨#[c]⟩, .slice nb 0 mc] 28 (0, 0)) = W12 at *
  generalize w12.heap.size = p12 at *
  have HS := Lib.hid (And.intro hr12 (And.intro hrd hbw))
  clear hr12 hrd hbw
  go_cut [7] from 71 to 77 (fun v7 wx => v7 = .int .i64 0 ∧ DIs 1 (intT (c.toNat : Int)) p6 wx ∧ (p12 ≠ p6 → wx.heap[p12]? = some (.cells #[.int .i64 3, .int .i64 0, .string ⟨#[c]⟩, .slice nb 0 mc] 28 (0, 0))) ∧ Below w.heap.size w wx)
  case first =>
    obtain ⟨hr12, hrd, hbw⟩ := HS.out
    clear HS
    refine wp_region_rest (by kernel_rfl) ?_
    have hd := (Below.refl W12.heap.size W12).drew
    replace hr12 := row_on hr12 hd
    replace hrd := row_on hrd hd
    replace hbw := hbw.trans (hd.mono hbw.size)
    clear hd
    generalize W12.drew = W0 at *
    obtain ⟨y0, y1, y2, y3⟩ := row4 hr12
    have hlt := (Array.getElem?_eq_some_iff.1 hr12).1
    have HR12 := Lib.hid hr12
    have HBW := Lib.hid hbw
    clear hbw hr12
    refine rest_chainP (fun u => Below W0.heap.size W0 u) 0 2 (.soft 0 (.one 1 .nil)) (.soft _ (.one _ .nil)) ⟨rfl, ⟨rfl, trivial⟩⟩ (by kernel_rfl) (by kernel_rfl) (by kernel_rfl) (by kernel_rfl) (.inr (by kernel_rfl)) (Below.refl _ _) ?_
    have hb0 := Below.refl W0.heap.size W0
    refine chainP_soft (a1 := ?ma3) (by kernel_rfl) (by kernel_rfl) ?mh3 ?mr3
    case mh3 =>
      intro u hu E hE
      have c0 := (hu.cell (p := ⟨p12, 0, none⟩) hlt).trans y0
      have c1 := (hu.cell (p := ⟨p12, 1, none⟩) hlt).trans y1
      have c2 := (hu.cell (p := ⟨p12, 2, none⟩) hlt).trans y2
      have c3 := (hu.cell (p := ⟨p12, 3, none⟩) hlt).trans y3
      go_wp2
      rfl
    refine chainP_one ?_
    intro E hE
    go_wp2_with (refine (l16_v _ _).mono ?_; rintro e x1 ⟨rfl, hbn⟩)
    have hx1 := hb0.trans (hbn.mono hb0.size)
    clear hbn
    refine ⟨hx1, ?_⟩
    refine chainP_nil ?_
    refine rest_lineL 2 4 [_, _] rfl (by kernel_rfl) (by decide) (by decide) (by kernel_rfl) ?_
    go_wp2_with fail
    have hal := (Below.refl x1.heap.size x1).alloc (Nat.le_refl _) (.cells #[.int .i64 3, .int .i64 0, .string ⟨#[c]⟩, .slice nb 0 mc, .int .i64 1, .int .i64 0, .string ⟨#[]⟩, .slice none 0 0] 28 (0, 0))
    have hgl0 := Nat.lt_of_lt_of_le (Array.getElem?_eq_some_iff.1 hrd).1 hx1.size
    have hrw : IsSl (x1.alloc (.cells #[.int .i64 3, .int .i64 0, .string ⟨#[c]⟩, .slice nb 0 mc, .int .i64 1, .int .i64 0, .string ⟨#[]⟩, .slice none 0 0] 28 (0, 0))) (fun b => b ≠ p6) (.slice (some ⟨x1.heap.size, 0, none⟩) 2 2) [atomT ⟨#[c]⟩, varT 0] := row2P (x := atomT ⟨#[c]⟩) (y := varT 0) (a := nb) (c := mc) (a' := none) (c' := 0) (IsTm.mk' (t := atomT ⟨#[c]⟩) (IsSl.nil _ _ nb mc)) (var_is _ _ _) (by have := hgl0; omega)
    refine (tx_Do_code [atomT ⟨#[c]⟩, varT 0] (atomT ⟨#[c]⟩) (varT 0) _ _ _ _ hrw rfl (by intro t ht; simp only [List.mem_cons, List.not_mem_nil, or_false] at ht; rcases ht with rfl | rfl; (· exact ⟨by simp [atomT, Tm.size, sizeL], HCA.out⟩); (· exact ⟨by decide, by decide +kernel⟩)) (by show Num.Fit 0; decide) (by decide) (by show (1 : Nat) ≤ _; omega) (by decide) (HTB.out.on (HBW.out.trans ((hx1.trans (hal.mono hx1.size)).mono HBW.out.size)))).mono ?_
    rintro e x9 hdp
    rw [HCC.out.2] at hdp
    obtain ⟨p1, r1, p2, r2, rfl, hic, hsc, hb9⟩ := hdp.is
    have hx9 := hx1.trans ((hal.trans (hb9.mono hal.size)).mono hx1.size)
    have hle9 := hal.size
    have HIC := Lib.hid (hic.ne16 (g := p6) (fun b hb _ => by rcases hb with hb | hb; (· exact hb.1); (· omega)))
    have HSC := Lib.hid (hsc.ne16 (g := p6) (fun b hb _ => by rcases hb with hb | hb; (· exact hb.1); (· omega)))
    have hrd9 := row_on hrd hx9
    have HX9 := Lib.hid hx9
    clear hdp hic hsc hb9 hal hrw hgl0 hle9 hx9
    go_wp2
    refine then_rest ?_
    refine rest_chainP (fun _ => True) 4 8 (.soft 4 (.soft 5 (.soft 6 (.one 7 .nil)))) (.soft _ (.soft _ (.soft _ (.one _ .nil)))) ⟨rfl, ⟨rfl, ⟨rfl, ⟨rfl, trivial⟩⟩⟩⟩ (by kernel_rfl) (by kernel_rfl) (by kernel_rfl) (by kernel_rfl) (.inr (by kernel_rfl)) trivial ?_
    refine chainP_softv (.tuple #[.agg #[.bool true, .slice p1 1 r1, .slice p2 1 r2, .int .i64 0, .int .i64 0, .string ⟨#[]⟩, .slice none 0 0], .int .i64 0]) (by kernel_rfl) (by kernel_rfl) ?_ ?_
    · simp only [Act.put, List.getElem?_toArray, List.getElem?_cons_succ, List.getElem?_cons_zero, Option.bind_some, List.setIfInBounds_toArray, List.set_cons_succ, List.set_cons_zero, Nat.reduceAdd]
      intro u hu E hE
      go_wp2
      exact hE
    simp only [Act.put, List.getElem?_toArray, List.getElem?_cons_succ, List.getElem?_cons_zero, Option.bind_some, List.setIfInBounds_toArray, List.set_cons_succ, List.set_cons_zero, Nat.reduceAdd]
    refine chainP_softv (.agg #[.bool true, .slice p1 1 r1, .slice p2 1 r2, .int .i64 0, .int .i64 0, .string ⟨#[]⟩, .slice none 0 0]) (by kernel_rfl) (by kernel_rfl) ?_ ?_
    · simp only [Act.put, List.getElem?_toArray, List.getElem?_cons_succ, List.getElem?_cons_zero, Option.bind_some, List.setIfInBounds_toArray, List.set_cons_succ, List.set_cons_zero, Nat.reduceAdd]
      intro u hu E hE
      go_wp2
      exact hE
    simp only [Act.put, List.getElem?_toArray, List.getElem?_cons_succ, List.getElem?_cons_zero, Option.bind_some, List.setIfInBounds_toArray, List.set_cons_succ, List.set_cons_zero, Nat.reduceAdd]
    refine chainP_softv (.int .i64 0) (by kernel_rfl) (by kernel_rfl) ?_ ?_
    · simp only [Act.put, List.getElem?_toArray, List.getElem?_cons_succ, List.getElem?_cons_zero, Option.bind_some, List.setIfInBounds_toArray, List.set_cons_succ, List.set_cons_zero, Nat.reduceAdd]
      intro u hu E hE
      go_wp2
      exact hE
    simp only [Act.put, List.getElem?_toArray, List.getElem?_cons_succ, List.getElem?_cons_zero, Option.bind_some, List.setIfInBounds_toArray, List.set_cons_succ, List.set_cons_zero, Nat.reduceAdd]
    refine chainP_one ?_
    intro E hE
    have HDR := Lib.hid (dis_store (f := 1) (t := (intT (c.toNat : Int))) hrd9 HIC.out HSC.out)
    go_wp2_with (refine wpList_store_row rfl 35 (.tmp 6) (.tmp 76) rfl p6 #[.bool true, .slice p1 1 r1, .slice p2 1 r2, .int .i64 0, .int .i64 0, .string ⟨#[]⟩, .slice none 0 0] rfl rfl _ _ hrd9 size_did rfl (by simp [Value.oneCell']) ?_)
    refine chainP_nil ?_
    refine rest_lineL 8 9 [_] rfl (by kernel_rfl) (by decide) (by decide) (by kernel_rfl) ?_
    go_wp2
    refine then_rest (rest_end (by decide) ?_)
    go_wp2
    go_meet
    exact ⟨rfl, HDR.out, fun hne => (setRow_other _ _ _ _ hne).trans (row_on HR12.out HX9.out), below_row (HBW.out.trans (HX9.out.mono HBW.out.size)) hw6⟩
  case rest =>
  obtain ⟨rfl, hd6, hr12, hbw⟩ := hcut
  have hne : p12 ≠ p6 := by
    intro h
    have h1 := HS.out.1
    rw [h, HS.out.2.1] at h1
    simp at h1
  replace hr12 := hr12 hne
  clear HS hne
  obtain ⟨q7, k7, q7', k7', r6, hi6, hs6⟩ := hd6
  obtain ⟨b0, b1, b2, b3, b4, b5, b6⟩ := row7 r6
  have HR12 := Lib.hid hr12
  have HBW := Lib.hid hbw
  clear hr12 hbw r6
  go_wp2_with fail
  refine (l16_only 1 (intT (c.toNat : Int)) q7 q7' k7 k7' (fun b => b ≠ p6) _ hi6 hs6).mono ?_
  rintro e w13 ⟨ea, ec, he, hi7, hb5⟩
  replace he : e = .returned (.tuple #[.agg #[.int .i64 2, .int .i64 (c.toNat : Int), .string ⟨#[]⟩, .slice ea 0 ec], .bool true]) := he
  subst he
  have hr13 := heap_alloc_new w13 (.cells #[.int .i64 2, .int .i64 (c.toNat : Int), .string ⟨#[]⟩, .slice ea 0 ec] 28 (0, 0))
  have ha8 := (Below.refl w13.heap.size w13).alloc (Nat.le_refl _) (.cells #[.int .i64 2, .int .i64 (c.toNat : Int), .string ⟨#[]⟩, .slice ea 0 ec] 28 (0, 0))
  have hb8 := hb5.trans (ha8.mono hb5.size)
  have HBZ := Lib.hid (HBW.out.trans (hb8.mono HBW.out.size))
  obtain ⟨y0, y1, y2, y3⟩ := row4 hr13
  obtain ⟨z0, z1, z2, z3⟩ := row4 (row_on HR12.out hb8)
  clear hb5 ha8 hb8 hi7 hi6 hs6 HR12 HBW b0 b1 b2 b3 b4 b5 b6 hr13
  have hwc : wrap64 ((c.toNat : Nat) : Int) = (c.toNat : Int) := by have := c.toNat_lt; exact Num.wrap_in (by unfold Num.Fit; omega)
  go_wp2
  go_ret
  exact ⟨rfl, HBZ.out⟩
end Go.Proofs.YtkhchmgdaolojaaDoor.Tms
namespace Go.Proofs.YtkhchmgdaolojaaDoor.Tms
open Go Go.RowKit Go.Proofs.YtkhchmgdaolojaaDoor.Reg Go.Proofs.YtkhchmgdaolojaaDoor.Rws
set_option linter.unusedVariables false
set_option linter.unusedSimpArgs false

theorem int_may16 (m : Int) : mayT (intT m) = true := by simp [intT, mayT, mayB, mayTL]
theorem one_may16 (c : UInt8) : mayT (atomT ⟨#[c]⟩) = true := by simp [atomT, mayT, mayB, mayTL, ByteArray.size]
theorem nil_may16 : mayT nilT = true := by decide +kernel
theorem may_list16 (e : Tm) (he : mayT e = true) : ∀ ts : List Tm, (∀ t ∈ ts, mayT t = true) → mayT (listT ts e) = true
  | [], _ => he
  | t :: l, h => by
    have h1 := may_list16 e he l fun u hu => h u (by simp [hu])
    have h2 := h t (by simp)
    unfold listT compT
    simp only [mayT, mayTL, h1, h2, Bool.and_true, Bool.and_self]
    show mayB 4 0 dotS 2 = true
    decide
theorem char_may16 (codes : Bool) (c : UInt8) : mayT (charT codes c) = true := by
  cases codes
  · exact one_may16 c
  · exact int_may16 _
theorem char_size16 (codes : Bool) (c : UInt8) : (charT codes c).size = 1 := by cases codes <;> simp [charT, intT, atomT, Tm.size, sizeL]
theorem chars_size16 (codes : Bool) (l : List UInt8) : sizeL (charsT codes l) = l.length := by
  induction l with
  | nil => rfl
  | cons c l ih => show (charT codes c).size + sizeL (charsT codes l) = _; rw [char_size16, ih, List.length_cons]; omega
theorem text_size16 (codes : Bool) (l : List UInt8) : (listT (charsT codes l) nilT).size = 2 * l.length + 1 := by
  rw [listT_size, chars_size16, show nilT.size = 1 from rfl]; unfold charsT; rw [List.length_map]; omega
theorem text_may16 (codes : Bool) (l : List UInt8) : mayT (listT (charsT codes l) nilT) = true := may_list16 _ nil_may16 _ fun t ht => by
  unfold charsT at ht
  obtain ⟨c, -, rfl⟩ := List.mem_map.1 ht
  exact char_may16 codes c
theorem text_head16 (codes : Bool) (l : List UInt8) : Num.Fit (listT (charsT codes l) nilT).n ∧ (listT (charsT codes l) nilT).s.size ≤ 100000 := by
  cases l with
  | nil => exact ⟨by show Num.Fit 0; decide, by show (2 : Nat) ≤ _; omega⟩
  | cons c l => exact ⟨by show Num.Fit 0; decide, by show (1 : Nat) ≤ _; omega⟩
theorem law_numbers (n : Int) (c : UInt8) (hf : Num.Fit n) (w : World) (ht : Num.Tab w) : Calls Tryd.prog 5 #[.int .i64 n, .int .u8 c.toNat] w (Says true w) := by
  have hil := Num.itoa_len hf
  refine law_numbers0 n c (listT (charsT true (Lib.itoa n)) nilT) w ht hf ?_ ?_ ?_ ?_ ?_ ?_ ?_
  · unfold numberD; rw [if_pos (by rfl)]; rfl
  · unfold numberD
    rw [if_neg (by decide), if_neg (by decide), text_list]
    simp only []
    rw [number_back hf, if_pos rfl]
  · refine ⟨?_, check_zero (text_may16 true _) ?_, (text_head16 true _).1, (text_head16 true _).2⟩
    · rw [text_size16]; omega
    · rw [text_size16]; omega
  · have := c.toNat_lt
    unfold codeD
    rw [if_neg (by decide), if_neg (by decide), if_neg (by show ¬ ((2 : Int) = 1); decide), if_neg (by show ¬ ((2 : Int) ≠ 2); decide), if_neg (by show ¬ ((c.toNat : Int) < 0 ∨ 255 < (c.toNat : Int)); omega)]
    show Dd.is 0 (atomT ⟨#[UInt8.ofNat ((c.toNat : Nat) : Int).toNat]⟩) = _
    rw [Int.toNat_natCast, UInt8.ofNat_toNat]
  · rfl
  · exact fun m => check_zero (int_may16 m) (by simp [intT, Tm.size, sizeL])
  · exact check_zero (one_may16 c) (by simp [atomT, Tm.size, sizeL])
theorem law_numbersZ (n a : Int) (hf : Num.Fit n) (h : 0 ≤ a ∧ a ≤ 255) (w : World) (ht : Num.Tab w) : Calls Tryd.prog 5 #[.int .i64 n, .int .u8 a] w (Says true w) := by
  have e1 : ((UInt8.ofNat a.toNat).toNat : Int) = a := by rw [UInt8.toNat_ofNat']; omega
  have := law_numbers n (UInt8.ofNat a.toNat) hf w ht
  rw [e1] at this
  exact this
end Go.Proofs.YtkhchmgdaolojaaDoor.Tms
