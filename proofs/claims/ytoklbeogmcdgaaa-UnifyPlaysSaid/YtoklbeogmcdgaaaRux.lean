
/-
  The reference's unify: look, Has, Both; Unify, Has.
-/
import Derived.Test.YtoklbeogmcdgaaaUnr
import Derived.Test.YtoklbeogmcdgaaaRfa
import Derived.Test.YtoklbeogmcdgaaaRfv8
import Derived.Test.YtoklbeogmcdgaaaFll
import Derived.Deep.CutRange
import Derived.Deep.CutBlock
import Derived.Deep.DeepCutAuto
namespace Go.Proofs.Ytoklbeogmcdgaaa.Tms
open Go Go.RowKit Go.Proofs.Ytoklbeogmcdgaaa.Reg Go.Proofs.Ytoklbeogmcdgaaa.Rws Go.Proofs.Ytoklbeogmcdgaaa.Maps
set_option linter.unusedVariables false
set_option linter.unusedSimpArgs false

/-- the row stands as it stood, but for what Bind writes: the cells' block is the same, the Args' blocks are untouched -/
def RowDid (w w' : World) (D : Nat → Prop) (p : Nat) (S' : Sto) (cv : Value) (A : Nat → Prop) : Prop := ∃ D' bv', RefRow w' D' p S' cv bv' A ∧ Keeps w w' D ∧ (∀ b, D' b → D b ∨ (w.heap.size ≤ b ∧ b < w'.heap.size)) ∧ ∀ b, A b → cv.ownBlock ≠ some b → w'.heap[b]? = w.heap[b]?
set_option maxRecDepth 100000 in
set_option maxHeartbeats 4000000 in
theorem ref_BindA {S : Sto} {D : Nat → Prop} {p g cap : Nat} {bv : Value} {A : Nat → Prop} (w : World) (hr : RefRow w D p S (.slice (some ⟨g, 0, none⟩) S.cells.length cap) bv A) (hok : StoOk S) (hko : KindOk S) (f1 f2 x y v t : Nat) (h1 : Ch S f1 x v) (h2 : Ch S f2 y t) (hk : (S.cells[v]'(h1.end_.1)).k = 1) (hne : v ≠ t) :
    Calls Try.prog 34 #[.pointer (some ⟨p, 0, none⟩), .int .i64 x, .int .i64 y] w fun e w' => e = .returned (.int .i64 0) ∧ RowDid w w' D p (bindS S v t) (.slice (some ⟨g, 0, none⟩) S.cells.length cap) A := by
  have hS : RefAt w D p S := ⟨_, _, _, hr⟩
  have hb1 := dec_yes h1.lt
  have hb2 := dec_yes h2.lt
  have hv := h1.end_.1
  have ht := h2.end_.1
  have hsm := hok.small
  have hbs := hok.bsmall
  have HS := Lib.hid hS
  have HC1 := Lib.hid h1
  have HC2 := Lib.hid h2
  have HB1 := Lib.hid hb1
  have HB2 := Lib.hid hb2
  have HKO := Lib.hid hko
  obtain ⟨g', cap', av, ee, q1, q2, c0, c1, c2, c3, c4, -⟩ := hr.cell v hv
  simp only [Value.slice.injEq, Option.some.injEq, Addr.mk.injEq, and_true, true_and] at ee
  obtain ⟨rfl, rfl⟩ := ee
  have hlm : (S.bonds.map (·.1)).length = S.bonds.length := List.length_map ..
  obtain ⟨qb, cb, eb⟩ := own_form hr.bonds
  rw [hlm] at eb
  subst eb
  rw [hk] at c0
  have hv0 : (0 : Int) ≤ (v : Int) := by omega
  have hv1 : (v : Int) < (S.cells.length : Int) := by omega
  have e3 : ((v : Int) == (t : Int)) = false := by simp; omega
  have e4 : ((v : Int) != (t : Int)) = true := by simp; omega
  have ft := hr.own.thaw rfl (v * 5 + 4)
  have hset := hr.setTo v hv t S.bonds rfl
  have hrow := hr.row
  obtain ⟨x0, x1, x2⟩ := row3 hrow
  have HST := Lib.hid hset
  have HR := Lib.hid hr
  have HLM := Lib.hid hlm
  clear hS hb1 hb2 h1 h2 hset hr hrow hk hok hne hko c1 c2 c3 hlm
  go_enter Try.func34, Try.ntmps34
  go_wp2_with fail
  refine (ref_there w HS.out x).mono ?_
  rintro e1 w1 ⟨rfl, rfl⟩
  rw [HB1.out]
  go_wp2_with fail
  refine (ref_there w HS.out y).mono ?_
  rintro e1 w1 ⟨rfl, rfl⟩
  rw [HB2.out]
  go_wp2_with fail
  refine (ref_Follow w HS.out HKO.out f1 x v HC1.out).mono ?_
  rintro e1 w1 ⟨rfl, rfl⟩
  go_wp2_with fail
  refine (ref_Follow w HS.out HKO.out f2 y t HC2.out).mono ?_
  rintro e1 w1 ⟨rfl, rfl⟩
  go_upto_region 8 with fail
  clear x0 x1 x2 c0 c4 ft
  have hks : Keeps w (w.setCell ⟨g, v * 5 + 4, none⟩ (.int .i64 (t : Int))) D := ⟨rfl, rfl, rfl, by simp [World.setCell], fun b _ hb => Below.heap_setCell _ _ _ _ (fun e => hb (by rw [e]; exact HR.out.dc g rfl))⟩
  have hszs : (w.setCell ⟨g, v * 5 + 4, none⟩ (.int .i64 (t : Int))).heap.size = w.heap.size := by simp [World.setCell]
  have HKS := Lib.hid hks
  have HSZ := Lib.hid hszs
  have HKA := Lib.hid (show ∀ b, b ≠ g → (w.setCell ⟨g, v * 5 + 4, none⟩ (.int .i64 (t : Int))).heap[b]? = w.heap[b]? from fun b hb => Below.heap_setCell _ _ _ _ hb)
  clear hks hszs
  generalize w.setCell ⟨g, v * 5 + 4, none⟩ (.int .i64 (t : Int)) = wS at *
  obtain ⟨x0, x1, x2⟩ := row3 HST.out.row
  have hbN := below_new wS (.cells #[.int .i64 (v : Int)] 3 (0, 0))
  have HRN := Lib.hid (heap_alloc_new wS (.cells #[.int .i64 (v : Int)] 3 (0, 0)))
  have HBL := Lib.hid hbN
  have HST1 := Lib.hid (HST.out.below hbN)
  clear hbN
  go_wp2_with (with_reducible show wpList _ _ _ (⟨some 50, _, _, _, _, _⟩ :: _) _ _
               have t1 : Own iKind (wS.alloc (.cells #[.int .i64 (v : Int)] 3 (0, 0))) 0 (fun _ => False) (.slice qb S.bonds.length cb) (S.bonds.map (·.1)) := HST1.out.bonds
               have t2 : (S.bonds.map (·.1)).length + 1 ≤ maxLen := by rw [HLM.out]; unfold maxLen; omega
               have t3 : ((S.bonds.map (·.1)).length + 1) * 8 ≤ 140737488355328 := by rw [HLM.out]; omega
               refine wpList_put (K := iKind) rfl (.tmp 47) (.tmp 49) _ rfl Try.underlying50 info_int rfl 0 (fun _ => False) (.slice qb S.bonds.length cb) (S.bonds.map (·.1)) [.int .i64 (v : Int)] (v : Int) _ _ _ _ rfl t1 rfl HRN.out rfl t2 t3 (Nat.zero_le _) ?_
               intro v3 w3 hown3 hb3 hg3 hv3
               obtain ⟨g9, c9, rfl⟩ : ∃ g9 c9, v3 = .slice (some ⟨g9, 0, none⟩) (S.bonds.length + 1) c9 := by
                 rcases hown3.form with h | ⟨g9, c9, e9⟩
                 · exfalso; have := congrArg List.length h.2; simp at this
                 · exact ⟨g9, c9, by rw [e9]; simp⟩
               obtain ⟨⟨c7, z7⟩, hfin⟩ := HST.out.putBond (b := ((v : Int), topB S.bonds (max v t))) HBL.out hg3 hown3 hv3
               have HFIN := Lib.hid hfin
               have hka3 : ∀ b, A b → b ≠ g → w3.heap[b]? = w.heap[b]? := fun b hb hne => by
                 have hbl : b < wS.heap.size := by rw [HSZ.out]; exact HR.out.dl b (HR.out.da b hb)
                 exact (hg3.block b (by simp; omega) fun e => HR.out.ab b e.symm hb).trans ((HBL.out.block b hbl).trans (HKA.out b hne))
               have HK3 := Lib.hid hka3
               clear hka3
               clear hfin hown3 hb3 hg3 hv3 x0 x1 x2)
  go_ret
  have h3 : w3.heap.size = (w3.setCell ⟨p, 2, none⟩ (.slice (some ⟨g9, 0, none⟩) (S.bonds.length + 1) c9)).heap.size := by simp [World.setCell]
  refine ⟨rfl, Grew D wS w3, _, HFIN.out.1, HKS.out.trans HFIN.out.2 fun b hb => .inl hb, fun b hb => ?_, fun b hb hne => (Below.heap_setCell _ _ _ _ (by intro e; have e2 : b = p := e; exact HR.out.ap (e2 ▸ hb))).trans (HK3.out b hb fun e => hne (by rw [e]; rfl))⟩
  rcases hb with hb | hb
  · exact .inl hb
  · have := HSZ.out
    exact .inr ⟨by omega, by omega⟩

/-! ### The work's object -/
abbrev wkO (q : Nat) (n : Int) (sf ov : Bool) : Obj := .cells #[.pointer (some ⟨q, 0, none⟩), .int .i64 n, .bool sf, .bool ov] 145 (0, 0)
def WkPost (q wb : Nat) (n : Int) (sf ov r : Bool) (w : World) (e : Ending) (w' : World) : Prop := e = .returned (.bool r) ∧ w'.heap[wb]? = some (wkO q n sf ov) ∧ Keeps w w' (fun b => b = wb)
set_option maxHeartbeats 1600000 in
theorem ref_wlook {q wb : Nat} {sf : Bool} (w : World) (k : Nat) (hk : k ≤ 20000) (hr : w.heap[wb]? = some (wkO q (20000 - (k : Int)) sf false)) :
    Calls Try.prog 107 #[.pointer (some ⟨wb, 0, none⟩)] w (WkPost q wb (20000 - (k : Int) + 1) sf (decide (k = 0)) (!decide (k = 0)) w) := by
  obtain ⟨n, hn, n0, n1⟩ : ∃ n : Int, n = 20000 - (k : Int) ∧ 0 ≤ n ∧ n ≤ 20000 := ⟨_, rfl, by omega, by omega⟩
  rw [← hn] at hr ⊢
  have e1 := heap_setCell_same w wb 1 _ _ (.int .i64 (n + 1)) hr
  have hz1 := frozen_of_row w wb 1 _ _ hr
  obtain ⟨x0, x1, x2, x3⟩ := row4r hr
  obtain ⟨ov, hov⟩ : ∃ ov, ov = decide (k = 0) := ⟨_, rfl⟩
  rw [← hov]
  have b1 : decide ((20000 : Int) < n + 1) = ov := by rw [hov]; simp; omega
  obtain ⟨w1, hw1⟩ : ∃ w1, w1 = w.setCell ⟨wb, 1, none⟩ (.int .i64 (n + 1)) := ⟨_, rfl⟩
  have e1' : w1.heap[wb]? = some (wkO q (n + 1) sf false) := by rw [hw1]; simpa using e1
  have e2 := heap_setCell_same w1 wb 3 _ _ (.bool ov) e1'
  have e2' : (w1.setCell ⟨wb, 3, none⟩ (.bool ov)).heap[wb]? = some (wkO q (n + 1) sf ov) := by simpa using e2
  have hk1 : Keeps w (w1.setCell ⟨wb, 3, none⟩ (.bool ov)) (fun b => b = wb) := by
    rw [hw1]
    exact ⟨rfl, rfl, rfl, by simp [World.setCell], fun b _ hb => (Below.heap_setCell _ _ _ _ hb).trans (Below.heap_setCell _ _ _ _ hb)⟩
  obtain ⟨y0, y1, y2, y3⟩ := row4r e1'
  have hz3 := frozen_of_row w1 wb 3 _ _ e1'
  have y3' : (w1.setCell ⟨wb, 3, none⟩ (.bool ov)).cell? ⟨wb, 3, none⟩ = some (.bool ov) := (row4r e2').2.2.2
  have E2 := Lib.hid e2'
  have K2 := Lib.hid hk1
  clear e1 e1' e2 e2' hk1 hr hov hn
  go_enter Try.func107, Try.ntmps107
  go_upto_region 2 with fail
  rw [← hw1]
  clear hw1 x0 x1 x2 x3 hz1
  go_wp2
  go_ret
  exact ⟨by cases ov <;> rfl, E2.out, K2.out⟩
/-- what Has leaves of the work's object -/
def HsPost (S : Sto) (q wb : Nat) (sf : Bool) (r : Option Bool × Nat) (w : World) (e : Ending) (w' : World) : Prop :=
  ∃ (n : Int) (ov : Bool), e = .returned (.bool (hasB r.1)) ∧ w'.heap[wb]? = some (wkO q n sf ov) ∧ Keeps w w' (fun b => b = wb) ∧ (r.1 = none → ov = true) ∧ (r.1 ≠ none → ov = false ∧ n = 20000 - (r.2 : Int))
theorem RefAt.kept {w w' : World} {D : Nat → Prop} {p wb : Nat} {S : Sto} (h : RefAt w D p S) (hk : Keeps w w' (fun b => b = wb)) (hn : ¬ D wb) : RefAt w' D p S := h.keep hk.size fun b hlt hd => hk.block b hlt fun e => hn (e ▸ hd)
def HsRel (S : Sto) (q wb : Nat) (sf : Bool) (v k0 : Nat) (A : List Nat) (w : World) (v33 : Value) (wr : World) : Prop := ∃ i k : Nat, i ≤ A.length ∧ v33 = .int .i64 i ∧ hasP S v k0 (A.take i) = (some false, k) ∧ wr.heap[wb]? = some (wkO q (20000 - (k : Int)) sf false) ∧ Keeps w wr (fun b => b = wb)
set_option maxRecDepth 100000 in
set_option maxHeartbeats 4000000 in
theorem ref_WHas {S : Sto} {E : Nat → Prop} {q wb : Nat} {sf : Bool} (hI : Inv S) (hne : ¬ E wb) (k : Nat) : ∀ (v x : Nat) (w : World), RefAt w E q S → x < S.cells.length → k ≤ 20000 → w.heap[wb]? = some (wkO q (20000 - (k : Int)) sf false) →
    Calls Try.prog 94 #[.pointer (some ⟨wb, 0, none⟩), .int .i64 v, .int .i64 x] w (HsPost S q wb sf (hasP S v k [x]) w) := by
  induction k using Nat.strongRecOn with
  | _ k ih =>
    intro v x w hS hx hk hr
    have HDL := Lib.hid (show ∀ b, E b → b < w.heap.size from fun b hb => by obtain ⟨_, _, _, h⟩ := hS; exact h.dl b hb)
    have HQ := Lib.hid (ref_wlook w k hk hr)
    have HI := Lib.hid hI
    have HS := Lib.hid hS
    have HNE := Lib.hid hne
    clear hS hr hI hne
    cases k with
    | zero =>
      have HZ := Lib.hid (hasP_zero S v x)
      clear ih
      go_enter Try.func94, Try.ntmps94
      go_wp2_with fail
      refine HQ.out.mono ?_
      rintro e1 w1 ⟨rfl, hr1, hk1⟩
      have HR1 := Lib.hid hr1
      have HK1 := Lib.hid hk1
      clear hr1 hk1 HQ
      simp only [decide_true, Bool.not_true]
      go_wp2
      go_ret
      exact ⟨_, _, by rw [HZ.out]; rfl, HR1.out, HK1.out, fun _ => rfl, fun h => by rw [HZ.out] at h; exact absurd rfl h⟩
    | succ k =>
      have HONE := Lib.hid (hasP_one S v k x)
      have IH := Lib.hid ih
      clear ih
      obtain ⟨ff, hch, hcl⟩ := HI.out.stoIn.fol hx
      have hrl := hch.end_.1
      have hok := HI.out.cell _ _ hcl
      have HCH := Lib.hid hch
      obtain ⟨r, hrr⟩ : ∃ r, r = fol S x := ⟨_, rfl⟩
      rw [← hrr] at hrl HCH HONE
      have HRR := Lib.hid hrr
      have HCL := Lib.hid hcl
      have HOK := Lib.hid hok
      have hsm := HI.out.small
      clear hch hcl hok hrr
      go_enter Try.func94, Try.ntmps94
      go_wp2_with fail
      refine HQ.out.mono ?_
      rintro e1 w1 ⟨rfl, hr1, hk1⟩
      have hr1' : w1.heap[wb]? = some (wkO q (20000 - (k : Int)) sf false) := by
        rw [hr1, show (20000 : Int) - ((k + 1 : Nat) : Int) + 1 = 20000 - (k : Int) by omega]
        simp only [Nat.succ_ne_zero, decide_false]
      simp only [Nat.succ_ne_zero, decide_false, Bool.not_false]
      have HS1 := Lib.hid (HS.out.kept hk1 HNE.out)
      have HR1 := Lib.hid hr1'
      have HK1 := Lib.hid hk1
      obtain ⟨x0, x1, x2, x3⟩ := row4r hr1'
      clear hr1 hr1' hk1 HQ
      go_wp2_with fail
      refine (ref_Follow w1 HS1.out HI.out.kindOk ff x r HCH.out).mono ?_
      rintro e2 w2 ⟨rfl, rfl⟩
      by_cases hrv : r = v
      · have b1 : ((r : Int) == (v : Int)) = true := by simp; omega
        have HH : Hid (hasP S v (k + 1) [x] = (some true, k)) := Lib.hid (by rw [HONE.out, if_pos hrv])
        clear x0 x1 x2 x3 HCH hrv HONE
        go_wp2
        go_ret
        exact ⟨_, _, by rw [HH.out]; rfl, HR1.out, HK1.out, fun h => (by rw [HH.out] at h; cases h), fun _ => by rw [HH.out]; exact ⟨rfl, rfl⟩⟩
      have b1 : ((r : Int) == (v : Int)) = false := by simp; omega
      have hone := HONE.out
      rw [if_neg hrv] at hone
      obtain ⟨cv, bv, A, hrow⟩ := HS1.out
      obtain ⟨g, cap, av, rfl, q1, q2, -, -, -, c3, -, hav⟩ := hrow.cell r hrl
      have hce : S.cells[r] = cellF S x := by
        have h1 := List.getElem?_eq_getElem hrl
        have h2 := HCL.out
        rw [← HRR.out, h1] at h2
        exact Option.some.inj h2
      obtain ⟨L, hL⟩ : ∃ L, L = (cellF S x).args := ⟨_, rfl⟩
      rw [hce, ← hL] at hav
      obtain ⟨qa, ka, rfl⟩ := hav.form
      obtain ⟨z0, z1, z2⟩ := row3 hrow.row
      have hLa := HOK.out.args
      have hLl := HOK.out.len
      rw [← hL] at hLa hLl
      have hAr : argN S x = L.map Int.toNat := by rw [hL]; rfl
      rw [hAr] at hone
      have hr0 : (0 : Int) ≤ (r : Int) := by omega
      have hr1 : (r : Int) < (S.cells.length : Int) := by omega
      have hst : HsRel S q wb sf v k (L.map Int.toNat) w (.int .i64 ((0 : Nat) : Int)) w1 := ⟨0, k, by omega, rfl, by rw [List.take_zero]; cases k <;> simp [hasP], HR1.out, HK1.out⟩
      have HST := Lib.hid hst
      have HAV := Lib.hid (hav.move (w' := w1) (P' := fun b => b ≠ wb ∧ b < w.heap.size) (fun b hb hlt => ⟨fun e => HNE.out (e ▸ hrow.da b hb.1), HDL.out b (hrow.da b hb.1)⟩) fun _ _ _ => rfl)
      have HON := Lib.hid hone
      have HLA := Lib.hid hLa
      clear hst hav hone hLa hAr hL hce hrow HONE HR1 HCL HRR HOK HCH hrv
      go_wp2
      clear x0 x1 x2 x3 z0 z1 z2 c3
      have hlm : (L.map Int.toNat).length = L.length := List.length_map ..
      have HLM := Lib.hid hlm
      clear hlm
      go_loopw [33] (fun v33 wr => HsRel S q wb sf v k (L.map Int.toNat) w v33 wr) (fun v33 _ => L.length - (intOf v33).toNat)
      case atStart => exact HST.out
      case round =>
        clear HST
        obtain ⟨i, k', hi, rfl, hh, hrw, hkp⟩ := hrel
        rw [HLM.out] at hi
        have HH := Lib.hid hh
        have HRW := Lib.hid hrw
        have HKP := Lib.hid hkp
        clear hh hrw hkp
        by_cases hil : i < L.length
        · have b2 : decide ((i : Int) < (L.length : Int)) = true := by simp; omega
          have hwl : ∀ b, b ≠ wb ∧ b < w.heap.size → wr.heap[b]? = w1.heap[b]? := fun b hb => (HKP.out.block b hb.2 hb.1).trans (HK1.out.block b hb.2 hb.1).symm
          obtain ⟨b7, o7, e7, hcx⟩ := ints_pickA (HAV.out.move (w' := wr) (P' := fun _ => True) (fun _ _ _ => trivial) fun b hb _ => hwl b hb) i hil
          obtain rfl := e7
          have hrm := ints_roomA HAV.out
          obtain ⟨y, hy⟩ : ∃ y : Nat, L[i] = (y : Int) := ⟨_, (Int.toNat_of_nonneg (HLA.out _ (List.getElem_mem hil)).1).symm⟩
          have hyl := (HLA.out _ (List.getElem_mem hil)).2
          have hlm := HLM.out
          have htk := hasP_take S v k (L.map Int.toNat) i (by omega) HH.out
          have hgy : (L.map Int.toNat)[i]'(by omega) = y := by rw [List.getElem_map, hy]; simp
          rw [hgy] at htk
          have hle := hasP_le S v k ((L.map Int.toNat).take i)
          rw [HH.out] at hle
          dsimp only at hle
          rw [hy] at hcx hyl
          have hq := IH.out k' (by omega) v y wr (HS.out.kept HKP.out HNE.out) (by omega) (by omega) HRW.out
          have HQ := Lib.hid hq
          have HTK := Lib.hid htk
          clear hq htk hgy hy hwl
          go_wp2_with fail
          refine HQ.out.mono ?_
          rintro e9 w9 ⟨n9, ov9, rfl, hr9, hk9, h9n, h9s⟩
          have HR9 := Lib.hid hr9
          have HK9 := Lib.hid (HKP.out.trans hk9 fun b hb => .inl hb)
          obtain ⟨y0, y1, y2, y3⟩ := row4r hr9
          obtain ⟨rs, hrs⟩ : ∃ rs, rs = hasP S v k' [y] := ⟨_, rfl⟩
          rw [← hrs] at h9n h9s HTK ⊢
          clear hr9 hk9 hrs HQ hcx
          obtain ⟨o, kk⟩ := rs
          dsimp only at h9n h9s ⊢
          cases o with
          | none =>
            obtain rfl := h9n rfl
            have hw : hasP S v (k + 1) [x] = (none, kk) := by rw [HON.out, hasP_stop S v k _ (i + 1) (by rw [HTK.out]; simp), HTK.out]
            have HW := Lib.hid hw
            clear hw h9s h9n HTK HH HON y0 y1 y2
            go_wp2
            go_ret
            exact ⟨_, _, by rw [HW.out]; rfl, HR9.out, HK9.out, fun _ => rfl, fun h => by rw [HW.out] at h; exact absurd rfl h⟩
          | some b =>
            obtain ⟨rfl, rfl⟩ := h9s (by simp)
            cases b with
            | true =>
              have hw : hasP S v (k + 1) [x] = (some true, kk) := by rw [HON.out, hasP_stop S v k _ (i + 1) (by rw [HTK.out]; simp), HTK.out]
              have HW := Lib.hid hw
              clear hw h9s h9n HTK HH HON y0 y1 y2
              go_wp2
              go_ret
              exact ⟨_, _, by rw [HW.out]; rfl, HR9.out, HK9.out, fun h => (by rw [HW.out] at h; cases h), fun _ => by rw [HW.out]; exact ⟨rfl, rfl⟩⟩
            | false =>
              have HNX := Lib.hid (show HsRel S q wb sf v k (L.map Int.toNat) w (.int .i64 ((i + 1 : Nat) : Int)) w9 from ⟨i + 1, kk, by omega, rfl, HTK.out, HR9.out, HK9.out⟩)
              clear h9s h9n HTK HH HON y0 y1 y2
              go_wp2
              go_roundw
              case measure => simp [intOf]; omega
              case rel => exact HNX.out
        · have b2 : decide ((i : Int) < (L.length : Int)) = false := by simp; omega
          have ei : i = L.length := by omega
          subst ei
          have hfin : hasP S v (k + 1) [x] = (some false, k') := by rw [HON.out, ← HH.out, List.take_of_length_le (by rw [HLM.out]; exact Nat.le_refl _)]
          have HF := Lib.hid hfin
          clear hfin
          go_wp2
          go_ret
          exact ⟨_, _, by rw [HF.out]; rfl, HRW.out, HKP.out, fun h => (by rw [HF.out] at h; cases h), fun _ => by rw [HF.out]; exact ⟨rfl, rfl⟩⟩
end Go.Proofs.Ytoklbeogmcdgaaa.Tms
