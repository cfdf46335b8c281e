/-
  What the reference's Check comes to, walked over the program.
-/
import Derived.Test.YtlndoogiflcoeaaCodW6
namespace Go.Proofs.Ytlndoogiflcoeaa.Cod
open Go Go.RowKit Go.Proofs.Ytlndoogiflcoeaa.Reg

/-- the first loop of the reference's Check -/
def RcRel (L : List Ins) (n : Nat) (bo : Int) (W : World) (z c : Value) (wr : World) : Prop :=
  ∃ (i : Nat) (y : Int), c = .int .i64 i ∧ z = .int .i64 y ∧ Below W.heap.size W wr ∧
    ((i ≤ n ∧ ∃ a : Nat, y = a ∧ pfw L i = some a) ∨ (i = n + 1 ∧ ∃ a : Nat, pfw L n = some a ∧ (a : Int) = bo ∧ ¬ skip L a < 0 ∧ y = skip L a))

/-- the second loop -/
def RdRel (L : List Ins) (W : World) (m c : Value) (wr : World) : Prop :=
  ∃ k q : Nat, k ≤ L.length ∧ q ≤ k ∧ c = .int .i64 k ∧ m = .int .i64 q ∧ slotsA L k q = slotsN L 0 ∧ (L.take k).all Ins.ok = true ∧ Below W.heap.size W wr

theorem tail_no {c : Cod} {a : Nat} (h : c.l.all Ins.ok = false ∨ slotsOk c.l c.slots = false) : tailB c a = false := by
  rcases h with h | h <;> simp [tailB, h]
theorem tail_is {c : Cod} {a : Nat} (h1 : (a : Int) = c.body) (h2 : skip c.l a = c.l.length) (h3 : c.l.all Ins.ok = true) : tailB c a = slotsOk c.l c.slots := by
  simp [tailB, h2, h3]; intro; exact h1

set_option maxHeartbeats 3200000 in
theorem ref_check (c : Cod) (v : Value) (w : World) (hv : InsSl w v c.l) :
    Calls Try.prog 26 #[codVal c v] w (Num (check c) w) := by
  obtain ⟨aa, cap, rfl, hc⟩ := hv
  by_cases hlen : 20000 < c.l.length
  · have hR := check_long hlen
    have HR := Lib.hid hR
    clear hR hc
    go_enter Try.func26, Try.ntmps26
    go_wp2
    go_ret
    exact num HR.out.symm ((Below.refl _ _).alloc (Nat.le_refl _) _)
  by_cases hh : c.args < 0 ∨ 255 < c.args ∨ 1000 < c.name.size ∨ c.slots < 0
  · have hR := check_head hlen hh
    have HR := Lib.hid hR
    clear hR hc
    go_enter Try.func26, Try.ntmps26
    go_wp2
    all_goals first
      | (go_ret; exact num HR.out.symm ((Below.refl _ _).alloc (Nat.le_refl _) _))
      | (exfalso; omega)
  have hnone := fun i hp hi => check_none (i := i) hlen hh hp hi
  have hsome := fun a hp => check_some (a := a) hlen hh hp
  obtain ⟨nm, ar, sl, bo, L⟩ := c
  dsimp only at *
  have h1 : ¬ ar < 0 := by omega
  have h2 : ¬ 255 < ar := by omega
  have h3 : ¬ 1000 < nm.size := by omega
  have h4 : ¬ sl < 0 := by omega
  clear hh
  obtain ⟨n, rfl⟩ : ∃ n : Nat, ar = n := ⟨ar.toNat, by omega⟩
  simp only [Int.toNat_natCast] at hnone hsome
  have HN := Lib.hid hnone
  have HS := Lib.hid hsome
  have hv : InsSl w (.slice aa L.length cap) L := ⟨aa, cap, rfl, hc⟩
  have HV := Lib.hid hv
  have HC := Lib.hid hc
  have hW0 : Below w.heap.size w (w.alloc (.cells #[.string nm, .int .i64 n, .int .i64 sl, .int .i64 bo, .slice aa L.length cap] 41)) := (Below.refl _ _).alloc (Nat.le_refl _) _
  have hf : ∀ j, (w.alloc (.cells #[.string nm, .int .i64 n, .int .i64 sl, .int .i64 bo, .slice aa L.length cap] 41)).cell? ⟨w.heap.size, j, none⟩ = #[Value.string nm, .int .i64 n, .int .i64 sl, .int .i64 bo, .slice aa L.length cap][j]? := fun j => World.cell?_alloc_at _ _ _ _ rfl
  have hlt : w.heap.size < (w.alloc (.cells #[.string nm, .int .i64 n, .int .i64 sl, .int .i64 bo, .slice aa L.length cap] 41)).heap.size := by simp
  have HF := Lib.hid hf
  clear hnone hsome hc hv hf
  go_enter Try.func26, Try.ntmps26
  go_wp2
  generalize (w.alloc (.cells #[.string nm, .int .i64 n, .int .i64 sl, .int .i64 bo, .slice aa L.length cap] 41)) = W at *
  have hst : RcRel L n bo W (.int .i64 ((0 : Nat) : Int)) (.int .i64 ((0 : Nat) : Int)) W := ⟨0, 0, rfl, rfl, Below.refl _ _, .inl ⟨by omega, 0, rfl, rfl⟩⟩
  have H := Lib.hid hst
  clear hst
  go_loopw [3, 4] (fun a i wr => RcRel L n bo W a i wr) (fun _ c _ => n + 1 - (intOf c).toNat)
  case atStart => exact H.out
  case round =>
    obtain ⟨i, y, rfl, rfl, hbl, hcase⟩ := hrel
    have hbl0 : Below w.heap.size w wr := hW0.trans (hbl.mono (by omega))
    have g : ∀ j, wr.cell? ⟨w.heap.size, j, none⟩ = #[Value.string nm, .int .i64 n, .int .i64 sl, .int .i64 bo, .slice aa L.length cap][j]? := fun j => (hbl.cell (p := ⟨w.heap.size, j, none⟩) hlt).trans (HF.out j)
    have g0 := g 0
    have g1 := g 1
    have g2 := g 2
    have g3 := g 3
    have g4 := g 4
    have hVr := HV.out.below hbl0
    have HVr := Lib.hid hVr
    have hltr : w.heap.size < wr.heap.size := by have := hbl.size; omega
    clear H g hVr
    rcases hcase with ⟨hin, a, rfl, hp⟩ | ⟨rfl, a, hp, hbo, hs, rfl⟩
    · have HP := Lib.hid hp
      clear hp
      by_cases hi : i < n
      · have hin' : ((i : Int) == (n : Int)) = false := beq_eq_false_iff_ne.2 (by omega)
        by_cases hs : skip L a < 0
        · go_wp2_with (go_at_call 28; refine (ref_skip L _ _ _ HVr.out (by omega)).mono ?_; rintro e w1 ⟨rfl, hb1⟩)
          go_ret
          exact num (HN.out (i + 1) (pf_stop HP.out hs) (by omega)).symm (hbl0.trans (hb1.mono hbl0.size))
        · go_wp2_with (go_at_call 28; refine (ref_skip L _ _ _ HVr.out (by omega)).mono ?_; rintro e w1 ⟨rfl, hb1⟩)
          go_roundw
          case rel => exact ⟨i + 1, skip L a, by go_num, rfl, hbl.trans (hb1.mono hbl.size), .inl ⟨by omega, (skip L a).toNat, by omega, pf_step HP.out (by omega)⟩⟩
          case measure => simp [intOf]; omega
      · obtain rfl : i = n := by omega
        have hii : ((i : Int) == (i : Int)) = true := by simp
        by_cases hbo : (a : Int) = bo
        · have hbo' : ((a : Int) != bo) = false := by simpa using hbo
          have HBO := Lib.hid hbo
          clear hbo
          by_cases hs : skip L a < 0
          · have hchk := HS.out a HP.out
            rw [show tailB ⟨nm, i, sl, bo, L⟩ a = false from by
              have : ¬ skip L a = L.length := by omega
              simp [tailB, this]] at hchk
            have HK := Lib.hid hchk
            clear hchk
            go_wp2_with (go_at_call 28; refine (ref_skip L _ _ _ HVr.out (by omega)).mono ?_; rintro e w1 ⟨rfl, hb1⟩)
            go_ret
            exact num HK.out.symm (hbl0.trans (hb1.mono hbl0.size))
          · go_wp2_with (go_at_call 28; refine (ref_skip L _ _ _ HVr.out (by omega)).mono ?_; rintro e w1 ⟨rfl, hb1⟩)
            go_roundw
            case rel => exact ⟨i + 1, skip L a, by go_num, rfl, hbl.trans (hb1.mono hbl.size), .inr ⟨rfl, a, HP.out, HBO.out, by omega, rfl⟩⟩
            case measure => simp [intOf]
        · have hbo' : ((a : Int) != bo) = true := by simpa using hbo
          have hchk := HS.out a HP.out
          rw [show tailB ⟨nm, i, sl, bo, L⟩ a = false from by simp [tailB, hbo]] at hchk
          have HK := Lib.hid hchk
          clear hchk hbo
          go_wp2
          go_ret
          exact num HK.out.symm hbl0
    · have hchk := HS.out a hp
      have HP := Lib.hid hp
      have HBO := Lib.hid hbo
      clear hp hbo
      by_cases hsk : skip L a = L.length
      · have hsk' : (skip L a != (L.length : Int)) = false := by simpa using hsk
        have htl := tail_is (c := ⟨nm, n, sl, bo, L⟩) HBO.out hsk
        have htn := tail_no (c := ⟨nm, n, sl, bo, L⟩) (a := a)
        dsimp only at htl htn
        have HT := Lib.hid htl
        have HTN := Lib.hid htn
        have HK := Lib.hid hchk
        clear hchk hsk htl htn
        have hst2 : RdRel L wr (.int .i64 ((0 : Nat) : Int)) (.int .i64 ((0 : Nat) : Int)) wr := ⟨0, 0, by omega, by omega, rfl, rfl, rfl, by simp, Below.refl _ _⟩
        have H2 := Lib.hid hst2
        clear hst2
        obtain ⟨W1, hW1⟩ : ∃ W1, W1 = wr := ⟨_, rfl⟩
        subst hW1
        go_wp2
        go_loopw [5, 61] (fun m k w2 => RdRel L W1 m k w2) (fun _ k _ => L.length - (intOf k).toNat)
        case atStart => exact H2.out
        case round =>
          obtain ⟨k, q, hk, hq, rfl, rfl, hsl, hall, hbl1⟩ := hrel
          have HSL := Lib.hid hsl
          have HA := Lib.hid hall
          have hbl2 : Below w.heap.size w wr := hbl0.trans (hbl1.mono (by omega))
          have f2 := (hbl1.cell (p := ⟨w.heap.size, 2, none⟩) hltr).trans g2
          clear hsl hall H2 g0 g1 g2 g3 g4
          by_cases hkl : k < L.length
          · obtain ⟨b2, off, rfl, hi⟩ := HC.out k hkl
            have hi' := hi.below hbl2 hi.lt
            obtain ⟨d0, d1, d2, d3⟩ := hi'
            have hbr2 : b2 < wr.heap.size := by have := hi.lt; have := hbl2.size; omega
            have hcons := slotsA_cons L k q hkl
            have hyes := take_ok hkl HA.out
            have hno := not_ok (L := L) hkl
            have HCO := Lib.hid hcons
            have H1 := Lib.hid hyes
            have H2 := Lib.hid hno
            clear hi hcons hyes hno
            generalize L[k] = x at *
            have hbig : ∀ (u : World), Below wr.heap.size wr u → Below w.heap.size w u := fun u hu => hbl2.trans (hu.mono hbl2.size)
            have hbig1 : ∀ (u : World), Below wr.heap.size wr u → Below W1.heap.size W1 u := fun u hu => hbl1.trans (hu.mono hbl1.size)
            have HB := Lib.hid hbig
            have HB1 := Lib.hid hbig1
            clear hbig hbig1
            cases hok : x.ok
            · have hz := HTN.out (.inl (H2.out hok))
              have hchk := HK.out
              rw [hz] at hchk
              have HK2 := Lib.hid hchk
              have hz0 := fun W => ref_zero x W
              rw [hok] at hz0
              have HZ := Lib.hid hz0
              clear hz hchk hz0 hok
              go_wp2_with (go_at_call 44; refine (HZ.out _).mono ?_; rintro e w1 ⟨rfl, hb1⟩)
              go_ret
              exact num HK2.out.symm (HB.out _ (((Below.refl _ _).alloc (Nat.le_refl _) _).trans (hb1.mono (by simp))))
            · have H1' := Lib.hid (H1.out hok)
              have hz0 := fun W => ref_zero x W
              rw [hok] at hz0
              have HZ := Lib.hid hz0
              clear hz0 hok H1 H2
              obtain ⟨iop, ia, in_, is⟩ := x
              dsimp only at *
              have hend : ∀ (u w1 : World), u = wr.alloc (.cells #[.int .i64 iop, .int .i64 ia, .int .i64 in_, .string is] 72) → Below u.heap.size u w1 → Below wr.heap.size wr w1 ∧ w1.cell? ⟨wr.heap.size, 0, none⟩ = some (.int .i64 iop) ∧ w1.cell? ⟨wr.heap.size, 1, none⟩ = some (.int .i64 ia) := by
                intro u w1 hu hb
                subst hu
                refine ⟨((Below.refl _ _).alloc (Nat.le_refl _) _).trans (hb.mono (by simp)), ?_, ?_⟩
                · exact (hb.cell (p := ⟨wr.heap.size, 0, none⟩) (by simp)).trans (World.cell?_alloc_at _ _ _ _ rfl)
                · exact (hb.cell (p := ⟨wr.heap.size, 1, none⟩) (by simp)).trans (World.cell?_alloc_at _ _ _ _ rfl)
              have HE := Lib.hid hend
              clear hend
              by_cases h2 : iop = 2
              · by_cases ha : ia = q
                · subst h2 ha
                  go_wp2_with (go_at_call 44; refine (HZ.out _).mono ?_; rintro e w1 ⟨rfl, hb1⟩; have e1 := HE.out _ _ rfl hb1; have e2 := e1.2.1; have e3 := e1.2.2; have e0 := e1.1; clear e1)
                  go_roundw
                  case rel => exact ⟨k + 1, q + 1, by omega, by omega, by go_num, by go_num, by rw [← HSL.out, HCO.out]; simp, H1'.out, HB1.out _ e0⟩
                  case measure => simp [intOf]; omega
                · have h3 : (ia != (q : Int)) = true := by simpa using ha
                  subst h2
                  have hsf := sl_none (s := sl) HSL.out (by rw [HCO.out]; simp [ha])
                  have hchk := HK.out
                  rw [HTN.out (.inr hsf)] at hchk
                  have HK2 := Lib.hid hchk
                  clear hsf hchk
                  go_wp2_with (go_at_call 44; refine (HZ.out _).mono ?_; rintro e w1 ⟨rfl, hb1⟩; have e1 := HE.out _ _ rfl hb1; have e2 := e1.2.1; have e3 := e1.2.2; have e0 := e1.1; clear e1)
                  go_ret
                  exact num HK2.out.symm (HB.out _ e0)
              · have h3 : (iop == 2) = false := by simpa using h2
                by_cases hb : iop = 3 ∧ (ia < 0 ∨ (q : Int) ≤ ia)
                · have hsf := sl_none (s := sl) HSL.out (by rw [HCO.out]; simp [hb])
                  have hchk := HK.out
                  rw [HTN.out (.inr hsf)] at hchk
                  have HK2 := Lib.hid hchk
                  clear hsf hchk
                  obtain ⟨rfl, hb⟩ := hb
                  go_wp2_with (go_at_call 44; refine (HZ.out _).mono ?_; rintro e w1 ⟨rfl, hb1⟩; have e1 := HE.out _ _ rfl hb1; have e2 := e1.2.1; have e3 := e1.2.2; have e0 := e1.1; clear e1)
                  all_goals go_ret
                  all_goals exact num HK2.out.symm (HB.out _ e0)
                · by_cases h4 : iop = 3
                  · have h5 : ¬ ia < 0 := by omega
                    have h6 : ¬ (q : Int) ≤ ia := by omega
                    subst h4
                    go_wp2_with (go_at_call 44; refine (HZ.out _).mono ?_; rintro e w1 ⟨rfl, hb1⟩; have e1 := HE.out _ _ rfl hb1; have e2 := e1.2.1; have e3 := e1.2.2; have e0 := e1.1; clear e1)
                    go_roundw
                    case rel => exact ⟨k + 1, q, by omega, by omega, by go_num, by go_num, by rw [← HSL.out, HCO.out, if_neg (by omega), if_neg (by omega)], H1'.out, HB1.out _ e0⟩
                    case measure => simp [intOf]; omega
                  · have h7 : (iop == 3) = false := by simpa using h4
                    go_wp2_with (go_at_call 44; refine (HZ.out _).mono ?_; rintro e w1 ⟨rfl, hb1⟩; have e1 := HE.out _ _ rfl hb1; have e2 := e1.2.1; have e3 := e1.2.2; have e0 := e1.1; clear e1)
                    go_roundw
                    case rel => exact ⟨k + 1, q, by omega, by omega, by go_num, by go_num, by rw [← HSL.out, HCO.out]; simp [h2, h4], H1'.out, HB1.out _ e0⟩
                    case measure => simp [intOf]; omega
          · have he := slotsA_end L k q (by omega)
            have hss := sl_some (s := sl) HSL.out he
            have hall := HA.out
            rw [List.take_of_length_le (by omega)] at hall
            have hchk := HK.out
            rw [HT.out hall, hss] at hchk
            by_cases hq : (q : Int) = sl
            · have hq' : ((q : Int) != sl) = false := by simpa using hq
              rw [show ((q : Int) == sl) = true from by simpa using hq] at hchk
              have HK2 := Lib.hid hchk
              clear he hss hall hchk hq
              go_wp2
              go_ret
              exact num HK2.out.symm hbl2
            · have hq' : ((q : Int) != sl) = true := by simpa using hq
              rw [show ((q : Int) == sl) = false from by simpa using hq] at hchk
              have HK2 := Lib.hid hchk
              clear he hss hall hchk hq
              go_wp2
              go_ret
              exact num HK2.out.symm hbl2
      · have hsk' : (skip L a != (L.length : Int)) = true := by simpa using hsk
        rw [show tailB ⟨nm, n, sl, bo, L⟩ a = false from by simp [tailB, hsk]] at hchk
        have HK := Lib.hid hchk
        clear hchk hsk
        go_wp2
        go_ret
        exact num HK.out.symm hbl0
end Go.Proofs.Ytlndoogiflcoeaa.Cod
