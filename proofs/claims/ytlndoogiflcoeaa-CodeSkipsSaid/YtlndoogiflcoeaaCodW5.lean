/-
  What code.Check comes to, walked over the program.
-/
import Derived.Test.YtlndoogiflcoeaaCodP
namespace Go.Proofs.Ytlndoogiflcoeaa.Cod
open Go Go.RowKit Go.Proofs.Ytlndoogiflcoeaa.Reg

def Num (n : Int) (w : World) (e : Ending) (w' : World) : Prop := e = .returned (.int .i64 n) ∧ Below w.heap.size w w'
theorem num {a b : Int} {w w' : World} (h : a = b) (hb : Below w.heap.size w w') : Num b w (.returned (.int .i64 a)) w' := ⟨by rw [h], hb⟩

def ChRel (L : List Ins) (q : Nat) (W : World) (n c : Value) (wr : World) : Prop :=
  ∃ i a : Nat, i ≤ q ∧ c = .int .i64 i ∧ n = .int .i64 a ∧ pfw L i = some a ∧ Below W.heap.size W wr

theorem pf_step {L : List Ins} {i a : Nat} (h : pfw L i = some a) (hs : ¬ skip L a < 0) : pfw L (i + 1) = some (skip L a).toNat := by rw [pfw_succ h, if_neg hs]
theorem pf_stop {L : List Ins} {i a : Nat} (h : pfw L i = some a) (hs : skip L a < 0) : pfw L (i + 1) = none := by rw [pfw_succ h, if_pos hs]

set_option maxHeartbeats 1600000 in
theorem go_check (c : Cod) (v : Value) (w : World) (hv : InsSl w v c.l) :
    Calls Try.prog 25 #[codVal c v] w (Num (check c) w) := by
  obtain ⟨aa, cap, rfl, hc⟩ := hv
  by_cases hlen : 20000 < c.l.length
  · have hR := check_long hlen
    have HR := Lib.hid hR
    clear hR hc
    go_enter Try.func25, Try.ntmps25
    go_wp2
    go_ret
    exact num HR.out.symm ((Below.refl _ _).alloc (Nat.le_refl _) _)
  by_cases hh : c.args < 0 ∨ 255 < c.args ∨ 1000 < c.name.size ∨ c.slots < 0
  · have hR := check_head hlen hh
    have HR := Lib.hid hR
    clear hR hc
    go_enter Try.func25, Try.ntmps25
    go_wp2
    all_goals first
      | (go_ret; exact num HR.out.symm ((Below.refl _ _).alloc (Nat.le_refl _) _))
      | (exfalso; omega)
  have hnone := fun i hp hi => check_none (i := i) hlen hh hp hi
  have hsome := fun a hp => check_some (a := a) hlen hh hp
  obtain ⟨nm, ar, sl, bo, L⟩ := c
  dsimp only at *
  have h1 : ¬ ar < 0 := by omega
  have h2 : ¬ 255 < ar := by omega
  have h3 : ¬ 1000 < nm.size := by omega
  have h4 : ¬ sl < 0 := by omega
  clear hh
  obtain ⟨n, rfl⟩ : ∃ n : Nat, ar = n := ⟨ar.toNat, by omega⟩
  simp only [Int.toNat_natCast] at hnone hsome
  have HN := Lib.hid hnone
  have HS := Lib.hid hsome
  have hv : InsSl w (.slice aa L.length cap) L := ⟨aa, cap, rfl, hc⟩
  have HV := Lib.hid hv
  have hW0 : Below w.heap.size w (w.alloc (.cells #[.string nm, .int .i64 n, .int .i64 sl, .int .i64 bo, .slice aa L.length cap] 44)) := (Below.refl _ _).alloc (Nat.le_refl _) _
  have hf : ∀ j, (w.alloc (.cells #[.string nm, .int .i64 n, .int .i64 sl, .int .i64 bo, .slice aa L.length cap] 44)).cell? ⟨w.heap.size, j, none⟩ = #[Value.string nm, .int .i64 n, .int .i64 sl, .int .i64 bo, .slice aa L.length cap][j]? := fun j => World.cell?_alloc_at _ _ _ _ rfl
  have hlt : w.heap.size < (w.alloc (.cells #[.string nm, .int .i64 n, .int .i64 sl, .int .i64 bo, .slice aa L.length cap] 44)).heap.size := by simp
  have HF := Lib.hid hf
  clear hnone hsome hc hv hf
  go_enter Try.func25, Try.ntmps25
  go_wp2
  generalize (w.alloc (.cells #[.string nm, .int .i64 n, .int .i64 sl, .int .i64 bo, .slice aa L.length cap] 44)) = W at *
  have hst : ChRel L n W (.int .i64 ((0 : Nat) : Int)) (.int .i64 ((0 : Nat) : Int)) W := ⟨0, 0, by omega, rfl, rfl, rfl, Below.refl _ _⟩
  have H := Lib.hid hst
  clear hst
  go_loopw [3, 29] (fun a i wr => ChRel L n W a i wr) (fun _ c _ => n - (intOf c).toNat)
  case atStart => exact H.out
  case round =>
    obtain ⟨i, a, hin, rfl, rfl, hp, hbl⟩ := hrel
    have HP := Lib.hid hp
    have hbl0 : Below w.heap.size w wr := hW0.trans (hbl.mono (by omega))
    have g : ∀ j, wr.cell? ⟨w.heap.size, j, none⟩ = #[Value.string nm, .int .i64 n, .int .i64 sl, .int .i64 bo, .slice aa L.length cap][j]? := fun j => (hbl.cell (p := ⟨w.heap.size, j, none⟩) hlt).trans (HF.out j)
    have g0 := g 0
    have g1 := g 1
    have g2 := g 2
    have g3 := g 3
    have g4 := g 4
    have hVr := HV.out.below hbl0
    have HVr := Lib.hid hVr
    have hltr : w.heap.size < wr.heap.size := by have := hbl.size; omega
    clear hp H g hVr
    by_cases hi : i < n
    · by_cases hs : skip L a < 0
      · go_wp2_with (go_at_call 27; refine (go_skip L _ _ _ HVr.out (by omega)).mono ?_; rintro e w1 ⟨rfl, hb1⟩)
        go_ret
        exact num (HN.out (i + 1) (pf_stop HP.out hs) (by omega)).symm (hbl0.trans (hb1.mono hbl0.size))
      · go_wp2_with (go_at_call 27; refine (go_skip L _ _ _ HVr.out (by omega)).mono ?_; rintro e w1 ⟨rfl, hb1⟩)
        go_roundw
        case rel => exact ⟨i + 1, (skip L a).toNat, by omega, by go_num, by congr 1; omega, pf_step HP.out (by omega), hbl.trans (hb1.mono hbl.size)⟩
        case measure => simp [intOf]; omega
    · obtain rfl : i = n := by omega
      have hres := HS.out a HP.out
      have HR := Lib.hid hres
      have hop := fun hs => all_op HP.out hs
      have HO := Lib.hid hop
      have hble := pfw_le HP.out
      clear hop hres
      go_wp2
      refine wp_region_rest (by kernel_rfl) ?_
      have hd : Below wr.heap.size wr wr.drew := (Below.refl _ _).drew
      have hW : Below w.heap.size w wr.drew := hbl0.drew
      have hltW : w.heap.size < wr.drew.heap.size := hltr
      have fs : ∀ u, Below wr.drew.heap.size wr.drew u → u.cell? ⟨w.heap.size, 0, none⟩ = some (.string nm) ∧ u.cell? ⟨w.heap.size, 1, none⟩ = some (.int .i64 i) ∧ u.cell? ⟨w.heap.size, 2, none⟩ = some (.int .i64 sl) ∧ u.cell? ⟨w.heap.size, 3, none⟩ = some (.int .i64 bo) ∧ u.cell? ⟨w.heap.size, 4, none⟩ = some (.slice aa L.length cap) := fun u hu =>
        ⟨((hd.trans hu).cell (p := ⟨w.heap.size, 0, none⟩) hltr).trans g0, ((hd.trans hu).cell (p := ⟨w.heap.size, 1, none⟩) hltr).trans g1, ((hd.trans hu).cell (p := ⟨w.heap.size, 2, none⟩) hltr).trans g2, ((hd.trans hu).cell (p := ⟨w.heap.size, 3, none⟩) hltr).trans g3, ((hd.trans hu).cell (p := ⟨w.heap.size, 4, none⟩) hltr).trans g4⟩
      have FS := Lib.hid fs
      clear fs g0 g1 g2 g3 g4
      generalize wr.drew = W0 at *
      by_cases hbo : (a : Int) = bo
      · have hbo' : ((a : Int) != bo) = false := by simpa using hbo
        have HBO := Lib.hid hbo
        clear hbo
        refine rest_ops 0 3 63 (fun j v _ => match j with | 0 => v = .int .i64 a | 1 => v = .pointer (some ⟨w.heap.size, 3, none⟩) | 2 => v = .int .i64 bo | _ => True) (fun _ _ => none) (by kernel_rfl) (by kernel_rfl) rfl (.inr (by kernel_rfl)) ?hS ?hop ?_
        case hS => intro j v u u' _ _ h _; exact h
        case hop =>
          refine ⟨fun v u hu hs Q' hQ => ?_, fun v u hu hs Q' hQ => ?_, fun v u hu hs Q' hQ => ?_, trivial⟩
          · simp only [putAll, dstOf]
            have c3 := (FS.out u hu).2.2.2.1
            go_wp2
            exact ⟨rfl, Below.refl _ _, rfl, fun _ h => nomatch h⟩
          · simp only [putAll, dstOf]
            have c3 := (FS.out u hu).2.2.2.1
            go_wp2
            exact ⟨rfl, Below.refl _ _, rfl, fun _ h => nomatch h⟩
          · simp only [putAll, dstOf]
            have s_1 : v 1 = .pointer (some ⟨w.heap.size, 3, none⟩) := hs 1 (by kernel_rfl) (by decide) (by decide)
            have c3 := (FS.out u hu).2.2.2.1
            go_wp2
            exact ⟨rfl, Below.refl _ _, rfl, fun _ h => nomatch h⟩
        intro v u hu hs hap
        have s_0 : v 0 = .int .i64 a := hs 0 (by decide) (by decide)
        have s_1 : v 1 = .pointer (some ⟨w.heap.size, 3, none⟩) := hs 1 (by decide) (by decide)
        have s_2 : v 2 = .int .i64 bo := hs 2 (by decide) (by decide)
        simp only [putAll, dstOf]
        refine rest_line' 3 4 (by kernel_rfl) (by decide) (by decide) (by kernel_rfl) ?_
        simp only [List.drop_succ_cons, List.drop_zero, Nat.reduceSub, List.take_succ_cons, List.take_zero]
        go_wp2
        have hu3 := hu
        have hw3 : Below w.heap.size w u := hW.trans (hu.mono hW.size)
        clear hs hap s_0 s_1 s_2 v
        refine then_rest ?_
        refine rest_ops 4 12 63 (fun j v _ => match j with | 4 => v = .bool false | 5 => v = .pointer (some ⟨w.heap.size, 4, none⟩) | 6 => v = .slice aa L.length cap | 7 => v = .int .i64 a | 8 => v = .int .i64 (skip L a) | 9 => v = .pointer (some ⟨w.heap.size, 4, none⟩) | 10 => v = .slice aa L.length cap | 11 => v = .int .i64 L.length | _ => True) (fun _ _ => none) (by kernel_rfl) (by kernel_rfl) rfl (.inr (by kernel_rfl)) ?hS ?hop ?_
        case hS => intro j v u u' _ _ h _; exact h
        case hop =>
          refine ⟨fun v u hu hs Q' hQ => ?_, fun v u hu hs Q' hQ => ?_, fun v u hu hs Q' hQ => ?_, fun v u hu hs Q' hQ => ?_, fun v u hu hs Q' hQ => ?_, fun v u hu hs Q' hQ => ?_, fun v u hu hs Q' hQ => ?_, fun v u hu hs Q' hQ => ?_, trivial⟩
          · simp only [putAll, dstOf]
            have q := FS.out _ (hu3.trans (hu.mono hu3.size))
            have c4 := q.2.2.2.2
            clear q
            go_wp2
            exact ⟨rfl, Below.refl _ _, rfl, fun _ h => nomatch h⟩
          · simp only [putAll, dstOf]
            have s_4 : v 4 = .bool false := hs 4 (by kernel_rfl) (by decide) (by decide)
            have q := FS.out _ (hu3.trans (hu.mono hu3.size))
            have c4 := q.2.2.2.2
            clear q
            go_wp2
            exact ⟨rfl, Below.refl _ _, rfl, fun _ h => nomatch h⟩
          · simp only [putAll, dstOf]
            have s_4 : v 4 = .bool false := hs 4 (by kernel_rfl) (by decide) (by decide)
            have s_5 : v 5 = .pointer (some ⟨w.heap.size, 4, none⟩) := hs 5 (by kernel_rfl) (by decide) (by decide)
            have q := FS.out _ (hu3.trans (hu.mono hu3.size))
            have c4 := q.2.2.2.2
            clear q
            go_wp2
            exact ⟨rfl, Below.refl _ _, rfl, fun _ h => nomatch h⟩
          · simp only [putAll, dstOf]
            have s_4 : v 4 = .bool false := hs 4 (by kernel_rfl) (by decide) (by decide)
            have q := FS.out _ (hu3.trans (hu.mono hu3.size))
            have c4 := q.2.2.2.2
            clear q
            go_wp2
            exact ⟨rfl, Below.refl _ _, rfl, fun _ h => nomatch h⟩
          · simp only [putAll, dstOf]
            have s_4 : v 4 = .bool false := hs 4 (by kernel_rfl) (by decide) (by decide)
            have s_6 : v 6 = .slice aa L.length cap := hs 6 (by kernel_rfl) (by decide) (by decide)
            have s_7 : v 7 = .int .i64 a := hs 7 (by kernel_rfl) (by decide) (by decide)
            have q := FS.out _ (hu3.trans (hu.mono hu3.size))
            have c4 := q.2.2.2.2
            clear q
            go_wp2_with (go_at_call 27; refine (go_skip L _ _ _ (HV.out.below (hw3.trans (hu.mono hw3.size))) (by omega)).mono ?_; rintro e w1 ⟨rfl, hb1⟩)
            exact ⟨rfl, hb1, rfl, fun _ h => nomatch h⟩
          · simp only [putAll, dstOf]
            have s_4 : v 4 = .bool false := hs 4 (by kernel_rfl) (by decide) (by decide)
            have q := FS.out _ (hu3.trans (hu.mono hu3.size))
            have c4 := q.2.2.2.2
            clear q
            go_wp2
            exact ⟨rfl, Below.refl _ _, rfl, fun _ h => nomatch h⟩
          · simp only [putAll, dstOf]
            have s_4 : v 4 = .bool false := hs 4 (by kernel_rfl) (by decide) (by decide)
            have s_9 : v 9 = .pointer (some ⟨w.heap.size, 4, none⟩) := hs 9 (by kernel_rfl) (by decide) (by decide)
            have q := FS.out _ (hu3.trans (hu.mono hu3.size))
            have c4 := q.2.2.2.2
            clear q
            go_wp2
            exact ⟨rfl, Below.refl _ _, rfl, fun _ h => nomatch h⟩
          · simp only [putAll, dstOf]
            have s_4 : v 4 = .bool false := hs 4 (by kernel_rfl) (by decide) (by decide)
            have s_10 : v 10 = .slice aa L.length cap := hs 10 (by kernel_rfl) (by decide) (by decide)
            have q := FS.out _ (hu3.trans (hu.mono hu3.size))
            have c4 := q.2.2.2.2
            clear q
            go_wp2
            exact ⟨rfl, Below.refl _ _, rfl, fun _ h => nomatch h⟩
        intro v u hu hs hap
        have s_4 : v 4 = .bool false := hs 4 (by decide) (by decide)
        have s_5 : v 5 = .pointer (some ⟨w.heap.size, 4, none⟩) := hs 5 (by decide) (by decide)
        have s_6 : v 6 = .slice aa L.length cap := hs 6 (by decide) (by decide)
        have s_7 : v 7 = .int .i64 a := hs 7 (by decide) (by decide)
        have s_8 : v 8 = .int .i64 (skip L a) := hs 8 (by decide) (by decide)
        have s_9 : v 9 = .pointer (some ⟨w.heap.size, 4, none⟩) := hs 9 (by decide) (by decide)
        have s_10 : v 10 = .slice aa L.length cap := hs 10 (by decide) (by decide)
        have s_11 : v 11 = .int .i64 L.length := hs 11 (by decide) (by decide)
        simp only [putAll, dstOf]
        have hu4 := hu3.trans (hu.mono hu3.size)
        have hw4 : Below w.heap.size w u := hw3.trans (hu.mono hw3.size)
        have q := FS.out _ hu4
        have c0 := q.1
        have c1 := q.2.1
        have c2 := q.2.2.1
        have c3 := q.2.2.2.1
        have c4 := q.2.2.2.2
        clear hs hap q hu hu3 hw3
        by_cases hsk : skip L a = L.length
        · have hsk' : (skip L a != (L.length : Int)) = false := by simpa using hsk
          have ho := HO.out hsk
          have HO' := Lib.hid ho
          have hgo := go_plain L (.slice aa L.length cap) u (HV.out.below hw4) (by omega) ho
          have HG := Lib.hid hgo
          have htb : tailB ⟨nm, i, sl, bo, L⟩ a = (L.all Ins.ok && slotsOk L sl) := by simp [tailB, HBO.out]; simp [← HBO.out, hsk]
          have HT := Lib.hid htb
          clear htb hsk ho hgo
          have hltu : w.heap.size < u.heap.size := by have := hu4.size; omega
          cases hall : L.all Ins.ok
          · have hr2 := HR.out
            rw [HT.out, hall] at hr2
            rw [hall] at HG
            have HR2 := Lib.hid hr2
            clear hr2 hall
            refine rest_line' 12 25 (by kernel_rfl) (by decide) (by decide) (by kernel_rfl) ?_
            simp only [List.drop_succ_cons, List.drop_zero, Nat.reduceSub, List.take_succ_cons, List.take_zero]
            go_wp2_with (go_at_call 42; refine (HG.out).mono ?_; rintro e w1 ⟨rfl, hb1⟩)
            refine then_rest (rest_end (by decide) ?_)
            go_wp2
            go_ret
            exact num HR2.out.symm (hw4.trans (hb1.mono hw4.size))
          · rw [hall] at HG
            have hal : Hid (L.all Ins.ok = true) := Lib.hid hall
            clear hall
            cases hsl : slotsOk L sl
            all_goals
              have hr2 := HR.out
              rw [HT.out, hal.out, hsl] at hr2
              have HR2 := Lib.hid hr2
              have HSL := Lib.hid hsl
              clear hr2 hsl
              refine rest_line' 12 25 (by kernel_rfl) (by decide) (by decide) (by kernel_rfl) ?_
              simp only [List.drop_succ_cons, List.drop_zero, Nat.reduceSub, List.take_succ_cons, List.take_zero]
              go_wp2_with (first | (go_at_call 42; refine (HG.out).mono ?_; rintro e w1 ⟨rfl, hb1⟩; have d0 := (hb1.cell (p := ⟨w.heap.size, 0, none⟩) hltu).trans c0; have d1 := (hb1.cell (p := ⟨w.heap.size, 1, none⟩) hltu).trans c1; have d2 := (hb1.cell (p := ⟨w.heap.size, 2, none⟩) hltu).trans c2; have d3 := (hb1.cell (p := ⟨w.heap.size, 3, none⟩) hltu).trans c3; have d4 := (hb1.cell (p := ⟨w.heap.size, 4, none⟩) hltu).trans c4; have hw5 := hw4.trans (hb1.mono hw4.size)) | (go_at_call 43; refine (go_slots ⟨nm, i, sl, bo, L⟩ _ _ (HV.out.below hw5) (by dsimp only; omega)).mono ?_; rintro e w2 ⟨rfl, hb2⟩; simp only [HSL.out]))
              refine then_rest (rest_end (by decide) ?_)
              go_wp2
              go_ret
              exact num HR2.out.symm (hw5.trans (hb2.mono hw5.size))
        · have hsk' : (skip L a != (L.length : Int)) = true := by simpa using hsk
          have htb : tailB ⟨nm, i, sl, bo, L⟩ a = false := by simp [tailB, hsk]
          have hr2 := HR.out
          rw [htb] at hr2
          have HR2 := Lib.hid hr2
          clear htb hsk hr2
          refine rest_line' 12 25 (by kernel_rfl) (by decide) (by decide) (by kernel_rfl) ?_
          simp only [List.drop_succ_cons, List.drop_zero, Nat.reduceSub, List.take_succ_cons, List.take_zero]
          go_wp2
          refine then_rest (rest_end (by decide) ?_)
          go_wp2
          go_ret
          exact num HR2.out.symm hw4
      · have hbo' : ((a : Int) != bo) = true := by simpa using hbo
        have htb : tailB ⟨nm, i, sl, bo, L⟩ a = false := by simp [tailB, hbo]
        have hr2 := HR.out
        rw [htb] at hr2
        have HR2 := Lib.hid hr2
        clear htb hbo hr2
        refine rest_ops 0 3 63 (fun j v _ => match j with | 0 => v = .int .i64 a | 1 => v = .pointer (some ⟨w.heap.size, 3, none⟩) | 2 => v = .int .i64 bo | _ => True) (fun _ _ => none) (by kernel_rfl) (by kernel_rfl) rfl (.inr (by kernel_rfl)) ?hS ?hop ?_
        case hS => intro j v u u' _ _ h _; exact h
        case hop =>
          refine ⟨fun v u hu hs Q' hQ => ?_, fun v u hu hs Q' hQ => ?_, fun v u hu hs Q' hQ => ?_, trivial⟩
          · simp only [putAll, dstOf]
            have c3 := (FS.out u hu).2.2.2.1
            go_wp2
            exact ⟨rfl, Below.refl _ _, rfl, fun _ h => nomatch h⟩
          · simp only [putAll, dstOf]
            have c3 := (FS.out u hu).2.2.2.1
            go_wp2
            exact ⟨rfl, Below.refl _ _, rfl, fun _ h => nomatch h⟩
          · simp only [putAll, dstOf]
            have s_1 : v 1 = .pointer (some ⟨w.heap.size, 3, none⟩) := hs 1 (by kernel_rfl) (by decide) (by decide)
            have c3 := (FS.out u hu).2.2.2.1
            go_wp2
            exact ⟨rfl, Below.refl _ _, rfl, fun _ h => nomatch h⟩
        intro v u hu hs hap
        have s_0 : v 0 = .int .i64 a := hs 0 (by decide) (by decide)
        have s_1 : v 1 = .pointer (some ⟨w.heap.size, 3, none⟩) := hs 1 (by decide) (by decide)
        have s_2 : v 2 = .int .i64 bo := hs 2 (by decide) (by decide)
        simp only [putAll, dstOf]
        refine rest_line' 3 4 (by kernel_rfl) (by decide) (by decide) (by kernel_rfl) ?_
        simp only [List.drop_succ_cons, List.drop_zero, Nat.reduceSub, List.take_succ_cons, List.take_zero]
        go_wp2
        have hw3 : Below w.heap.size w u := hW.trans (hu.mono hW.size)
        clear hs hap s_0 s_1 s_2 v
        refine then_rest ?_
        refine rest_ops 4 12 63 (fun j v _ => match j with | 4 => v = .bool true | _ => True) (fun _ _ => none) (by kernel_rfl) (by kernel_rfl) rfl (.inr (by kernel_rfl)) ?hS ?hop ?_
        case hS => intro j v u u' _ _ h _; exact h
        case hop =>
          refine ⟨fun v u hu hs Q' hQ => ?_, fun v u hu hs Q' hQ => ?_, fun v u hu hs Q' hQ => ?_, fun v u hu hs Q' hQ => ?_, fun v u hu hs Q' hQ => ?_, fun v u hu hs Q' hQ => ?_, fun v u hu hs Q' hQ => ?_, fun v u hu hs Q' hQ => ?_, trivial⟩
          · simp only [putAll, dstOf]
            go_wp2
            exact ⟨rfl, Below.refl _ _, rfl, fun _ h => nomatch h⟩
          · simp only [putAll, dstOf]
            have s_4 : v 4 = .bool true := hs 4 (by kernel_rfl) (by decide) (by decide)
            go_wp2
            exact ⟨rfl, Below.refl _ _, trivial, fun _ h => nomatch h⟩
          · simp only [putAll, dstOf]
            have s_4 : v 4 = .bool true := hs 4 (by kernel_rfl) (by decide) (by decide)
            go_wp2
            exact ⟨rfl, Below.refl _ _, trivial, fun _ h => nomatch h⟩
          · simp only [putAll, dstOf]
            have s_4 : v 4 = .bool true := hs 4 (by kernel_rfl) (by decide) (by decide)
            go_wp2
            exact ⟨rfl, Below.refl _ _, trivial, fun _ h => nomatch h⟩
          · simp only [putAll, dstOf]
            have s_4 : v 4 = .bool true := hs 4 (by kernel_rfl) (by decide) (by decide)
            go_wp2
            exact ⟨rfl, Below.refl _ _, trivial, fun _ h => nomatch h⟩
          · simp only [putAll, dstOf]
            have s_4 : v 4 = .bool true := hs 4 (by kernel_rfl) (by decide) (by decide)
            go_wp2
            exact ⟨rfl, Below.refl _ _, trivial, fun _ h => nomatch h⟩
          · simp only [putAll, dstOf]
            have s_4 : v 4 = .bool true := hs 4 (by kernel_rfl) (by decide) (by decide)
            go_wp2
            exact ⟨rfl, Below.refl _ _, trivial, fun _ h => nomatch h⟩
          · simp only [putAll, dstOf]
            have s_4 : v 4 = .bool true := hs 4 (by kernel_rfl) (by decide) (by decide)
            go_wp2
            exact ⟨rfl, Below.refl _ _, trivial, fun _ h => nomatch h⟩
        intro v u hu hs hap
        have s_4 : v 4 = .bool true := hs 4 (by decide) (by decide)
        simp only [putAll, dstOf]
        have hw4 : Below w.heap.size w u := hw3.trans (hu.mono hw3.size)
        clear hs hap
        refine rest_line' 12 25 (by kernel_rfl) (by decide) (by decide) (by kernel_rfl) ?_
        simp only [List.drop_succ_cons, List.drop_zero, Nat.reduceSub, List.take_succ_cons, List.take_zero]
        go_wp2
        refine then_rest (rest_end (by decide) ?_)
        go_wp2
        go_ret
        exact num HR2.out.symm hw4
end Go.Proofs.Ytlndoogiflcoeaa.Cod
