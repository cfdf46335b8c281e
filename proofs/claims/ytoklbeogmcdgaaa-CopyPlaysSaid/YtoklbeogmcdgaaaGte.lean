
/-
  Layer 8's store: how high a cell is, plain; the getter's height, walked over the program.
  Layer 8's store: Get, whatever it answers.
-/
import Derived.Test.YtoklbeogmcdgaaaSlb
namespace Go.Proofs.Ytoklbeogmcdgaaa.Tms
open Go Go.RowKit Go.Proofs.Ytoklbeogmcdgaaa.Reg Go.Proofs.Ytoklbeogmcdgaaa.Rws Go.Proofs.Ytoklbeogmcdgaaa.Maps
set_option linter.unusedVariables false
set_option linter.unusedSimpArgs false

def hStep (g : Nat → Option Nat) (st : Option Nat) (a : Int) : Option Nat := st.bind fun m => (g a.toNat).map fun h => max m h
/-- how high a cell is, if that is no more than f -/
noncomputable def hgtF (S : Sto) : Nat → Nat → Option Nat
  | 0, _ => none
  | f + 1, x => ((cellF S x).args.foldl (hStep (hgtF S f)) (some 0)).map (· + 1)
theorem hfold_none (g : Nat → Option Nat) : ∀ l : List Int, l.foldl (hStep g) none = none
  | [] => rfl
  | a :: l => by rw [List.foldl_cons]; exact hfold_none g l
theorem hfold_take (g : Nat → Option Nat) (l : List Int) (st : Option Nat) (i : Nat) (hi : i < l.length) : (l.take (i + 1)).foldl (hStep g) st = hStep g ((l.take i).foldl (hStep g) st) l[i] := by
  rw [List.take_succ_eq_append_getElem hi, List.foldl_append]; rfl
theorem hfold_stop (g : Nat → Option Nat) (l : List Int) (st : Option Nat) (i : Nat) (h : (l.take i).foldl (hStep g) st = none) : l.foldl (hStep g) st = none := by
  rw [← List.take_append_drop i l, List.foldl_append, h]
  exact hfold_none g _
theorem hfold_some {g : Nat → Option Nat} : ∀ {l : List Int} {m h : Nat}, l.foldl (hStep g) (some m) = some h → m ≤ h ∧ ∀ a ∈ l, ∃ k, g a.toNat = some k ∧ k ≤ h
  | [], m, h, e => by simp only [List.foldl_nil, Option.some.injEq] at e; exact ⟨by omega, fun a ha => by cases ha⟩
  | a :: l, m, h, e => by
    rw [List.foldl_cons] at e
    cases hg : g a.toNat with
    | none => rw [show hStep g (some m) a = none by simp [hStep, hg], hfold_none] at e; cases e
    | some k =>
      rw [show hStep g (some m) a = some (max m k) by simp [hStep, hg]] at e
      obtain ⟨h1, h2⟩ := hfold_some e
      refine ⟨by omega, fun b hb => ?_⟩
      rcases List.mem_cons.1 hb with rfl | hb
      · exact ⟨k, hg, by omega⟩
      · exact h2 b hb
theorem hfold_congr {g g' : Nat → Option Nat} : ∀ {l : List Int} {m h : Nat}, l.foldl (hStep g) (some m) = some h → (∀ a ∈ l, ∀ k, g a.toNat = some k → k ≤ h → g' a.toNat = some k) → l.foldl (hStep g') (some m) = some h
  | [], m, h, e, _ => e
  | a :: l, m, h, e, hc => by
    obtain ⟨k, hk, hkh⟩ := (hfold_some e).2 a (List.mem_cons_self ..)
    rw [List.foldl_cons, show hStep g (some m) a = some (max m k) by simp [hStep, hk]] at e
    rw [List.foldl_cons, show hStep g' (some m) a = some (max m k) by simp [hStep, hc a (List.mem_cons_self ..) k hk hkh]]
    exact hfold_congr e fun b hb => hc b (List.mem_cons_of_mem _ hb)
theorem hfold_le {g : Nat → Option Nat} {f : Nat} (hg : ∀ x k, g x = some k → k ≤ f) : ∀ {l : List Int} {m h : Nat}, l.foldl (hStep g) (some m) = some h → m ≤ f → h ≤ f
  | [], m, h, e, hm => by simp only [List.foldl_nil, Option.some.injEq] at e; omega
  | a :: l, m, h, e, hm => by
    rw [List.foldl_cons] at e
    cases hk : g a.toNat with
    | none => rw [show hStep g (some m) a = none by simp [hStep, hk], hfold_none] at e; cases e
    | some k =>
      rw [show hStep g (some m) a = some (max m k) by simp [hStep, hk]] at e
      exact hfold_le hg e (by have := hg _ _ hk; omega)
theorem hgt_le (S : Sto) : ∀ (f x h : Nat), hgtF S f x = some h → 0 < h ∧ h ≤ f
  | 0, x, h, e => by simp [hgtF] at e
  | f + 1, x, h, e => by
    simp only [hgtF, Option.map_eq_some_iff] at e
    obtain ⟨m, hm, rfl⟩ := e
    have := hfold_le (fun x k hk => (hgt_le S f x k hk).2) hm (by omega)
    omega
theorem hgt_at (S : Sto) : ∀ (f x h f' : Nat), hgtF S f x = some h → h ≤ f' → hgtF S f' x = some h
  | 0, x, h, f', e, _ => by simp [hgtF] at e
  | f + 1, x, h, f', e, hf => by
    simp only [hgtF, Option.map_eq_some_iff] at e
    obtain ⟨m, hm, rfl⟩ := e
    obtain ⟨f'', rfl⟩ : ∃ f'', f' = f'' + 1 := ⟨f' - 1, by omega⟩
    simp only [hgtF, Option.map_eq_some_iff]
    exact ⟨m, hfold_congr hm fun a _ k hk hkm => hgt_at S f _ k f'' hk (by omega), rfl⟩
theorem cellF_root {S : Sto} (hI : StoIn S) {x : Nat} (hx : x < S.cells.length) : fol S (fol S x) = fol S x ∧ cellF S (fol S x) = cellF S x := by
  obtain ⟨f, hc, -⟩ := hI.fol hx
  obtain ⟨h1, h2⟩ := hc.end_
  have e : fol S (fol S x) = fol S x := fol_eq (f := 0) ⟨h1, h2, rfl⟩
  refine ⟨e, ?_⟩
  unfold cellF
  rw [e]
theorem hgt_root {S : Sto} (hI : StoIn S) {x : Nat} (hx : x < S.cells.length) (f : Nat) : hgtF S f (fol S x) = hgtF S f x := by
  cases f with
  | zero => rfl
  | succ f => simp only [hgtF, (cellF_root hI hx).2]
/-- what the getter knows is so -/
def KnOk (S : Sto) (K : List (Int × Int)) : Prop := ∀ (x : Nat) (v : Int), mget K x = some v → ∃ h : Nat, v = h ∧ h ≤ 2000 ∧ hgtF S h x = some h
theorem KnOk.set {S : Sto} {K : List (Int × Int)} (hK : KnOk S K) {x h : Nat} (h2 : h ≤ 2000) (hh : hgtF S h x = some h) : KnOk S (mset (x : Int) (h : Int) K) := by
  intro y v hy
  by_cases e : (y : Int) = (x : Int)
  · rw [e, mget_mset_same] at hy
    simp only [Option.some.injEq] at hy
    obtain rfl : y = x := by omega
    exact ⟨h, hy.symm, h2, hh⟩
  · rw [mget_mset_other _ _ _ e] at hy
    exact hK y v hy
structure HtAt (S : Sto) (D : Nat → Prop) (gb mb p : Nat) (pn : Int) (K : List (Int × Int)) (w : World) : Prop where
  sto : StoAt w D p S
  row : w.heap[gb]? = some (.cells #[.pointer (some ⟨p, 0, none⟩), .int .i64 pn, .map (some mb)] 113 (0, 0))
  map : IMap w mb K
  ok : KnOk S K
theorem HtAt.lt {S : Sto} {D : Nat → Prop} {gb mb p : Nat} {pn : Int} {K : List (Int × Int)} {w : World} (h : HtAt S D gb mb p pn K w) : gb < w.heap.size ∧ mb < w.heap.size ∧ gb ≠ mb := by
  refine ⟨(Array.getElem?_eq_some_iff.1 h.row).1, h.map.lt, fun e => ?_⟩
  obtain ⟨es, c, h1, -⟩ := h.map
  have h2 := h.row
  rw [e, h1] at h2
  simp at h2
theorem HtAt.keep {S : Sto} {D : Nat → Prop} {gb mb p : Nat} {pn : Int} {K K' : List (Int × Int)} {w w' : World} (h : HtAt S D gb mb p pn K w) (hd : ¬ D mb) (hk : Keeps w w' (fun b => b = mb)) (hm : IMap w' mb K') (hK : KnOk S K') : HtAt S D gb mb p pn K' w' :=
  ⟨h.sto.keep hk.size fun b hlt hb => hk.block b hlt fun e => hd (e ▸ hb), (hk.block gb h.lt.1 h.lt.2.2).trans h.row, hm, hK⟩
/-- what height tells -/
def HtPost (S : Sto) (D : Nat → Prop) (gb mb p : Nat) (pn : Int) (r : Option Nat) (w : World) (e : Ending) (w' : World) : Prop :=
  ∃ (v : Int) (K : List (Int × Int)), e = .returned (.tuple #[.int .i64 v, .bool r.isSome]) ∧ (∀ h : Nat, r = some h → v = h) ∧ HtAt S D gb mb p pn K w' ∧ Keeps w w' (fun b => b = mb)
def HtRel (S : Sto) (D : Nat → Prop) (gb mb p : Nat) (pn : Int) (f : Nat) (L : List Int) (w : World) (vm vi : Value) (wr : World) : Prop :=
  ∃ (i m : Nat) (K : List (Int × Int)), i ≤ L.length ∧ vi = .int .i64 i ∧ vm = .int .i64 m ∧ (L.take i).foldl (hStep (hgtF S f)) (some 0) = some m ∧ HtAt S D gb mb p pn K wr ∧ Keeps w wr (fun b => b = mb)
set_option maxRecDepth 100000 in
set_option maxHeartbeats 8000000 in
theorem gt_height (S : Sto) (hin : StoIn S) (D : Nat → Prop) (gb mb p : Nat) (pn : Int) (hgd : ¬ D gb) (hmd : ¬ D mb) : ∀ (f x : Nat) (dp : Int) (K : List (Int × Int)) (w : World), x < S.cells.length → dp + f = 2001 → f ≤ 2000 → HtAt S D gb mb p pn K w →
    Calls Try.prog 64 #[.pointer (some ⟨gb, 0, none⟩), .int .i64 x, .int .i64 dp] w (HtPost S D gb mb p pn (hgtF S f x) w) := by
  intro f
  induction f with
  | zero =>
    intro x dp K w hx hdp hf hA
    obtain rfl : dp = 2001 := by omega
    have HA := Lib.hid hA
    clear hA
    go_enter Try.func64, Try.ntmps64
    go_wp2
    go_ret2
    exact ⟨0, K, rfl, fun h e => by simp [hgtF] at e, HA.out, Keeps.refl _ _⟩
  | succ f ih =>
    intro x dp K w hx hdp hf hA
    have IH := Lib.hid ih
    obtain ⟨fc, hch, hcell⟩ := hin.fol hx
    obtain ⟨hrt, hrc⟩ := cellF_root hin hx
    have hgr := hgt_root hin hx (f + 1)
    have hdef : hgtF S (f + 1) x = ((cellF S x).args.foldl (hStep (hgtF S f)) (some 0)).map (· + 1) := rfl
    have hargs := hin.args _ (List.mem_of_getElem? hcell)
    have hrl := (List.getElem?_eq_some_iff.1 hcell).1
    generalize hR : fol S x = R at *
    generalize hC : cellF S x = c at *
    obtain ⟨u0, u1, u2⟩ := row3 hA.row
    have HA := Lib.hid hA
    have HCH := Lib.hid hch
    have HCELL := Lib.hid hcell
    have HGR := Lib.hid hgr
    have HDEF := Lib.hid hdef
    have HDP := Lib.hid hdp
    have HARG := Lib.hid hargs.2
    have hal := hargs.1
    have hdp2 : dp ≤ 2000 := by omega
    have hdp1 : 1 ≤ dp := by omega
    have b1 : decide (2000 < dp) = false := by simp; omega
    have hsm := hin.small
    clear ih hA hch hcell hrt hrc hgr hdef hdp hargs hR hC
    go_enter Try.func64, Try.ntmps64
    go_wp2_with fail
    refine (sto_fol w HA.out.sto fc x R HCH.out).mono ?_
    rintro e3 w3 ⟨rfl, rfl⟩
    cases hk : mget K R with
    | some v =>
      obtain ⟨h, rfl, hh2, hh⟩ := HA.out.ok R v hk
      have HK := Lib.hid hk
      have hh0 := (hgt_le S h R h hh).1
      clear hk
      by_cases hle : h ≤ f + 1
      · have b2 : decide (dp + (h : Int) - 1 ≤ 2000) = true := by have := HDP.out; simp; omega
        have b3 : decide (dp + (h : Int) ≤ 2001) = true := by have := HDP.out; simp; omega
        have hr : hgtF S (f + 1) x = some h := by rw [← HGR.out]; exact hgt_at S h R h (f + 1) hh hle
        have HRR := Lib.hid hr
        clear hr hh
        go_wp2_with (with_reducible show wpList _ _ _ (⟨some 29, _, _, _, _, _⟩ :: _) _ _
                     refine wpList_imap_ok rfl 111 (.tmp 27) (.tmp 28) rfl _ _ _ Try.underlying111 Try.underlying3 mb _ rfl HA.out.map R rfl (fun _ => by kernel_rfl) ?_
                     rw [HK.out]
                     simp only [Option.getD_some, Option.isSome_some])
        go_ret2
        rw [HRR.out]
        exact ⟨h, K, by simp [b2, b3], fun h' e => by simp only [Option.some.injEq] at e; rw [e], HA.out, Keeps.refl _ _⟩
      · have b2 : decide (dp + (h : Int) - 1 ≤ 2000) = false := by have := HDP.out; simp; omega
        have b3 : decide (dp + (h : Int) ≤ 2001) = false := by have := HDP.out; simp; omega
        have hr : hgtF S (f + 1) x = none := by
          cases e : hgtF S (f + 1) x with
          | none => rfl
          | some h' =>
            exfalso
            rw [← HGR.out] at e
            have e1 := hgt_at S _ R h' (max h h') e (by omega)
            have e2 := hgt_at S _ R h (max h h') hh (by omega)
            rw [e1] at e2
            simp only [Option.some.injEq] at e2
            have := (hgt_le S _ _ _ e).2
            omega
        have HRR := Lib.hid hr
        clear hr hh
        go_wp2_with (with_reducible show wpList _ _ _ (⟨some 29, _, _, _, _, _⟩ :: _) _ _
                     refine wpList_imap_ok rfl 111 (.tmp 27) (.tmp 28) rfl _ _ _ Try.underlying111 Try.underlying3 mb _ rfl HA.out.map R rfl (fun _ => by kernel_rfl) ?_
                     rw [HK.out]
                     simp only [Option.getD_some, Option.isSome_some])
        go_ret2
        rw [HRR.out]
        exact ⟨h, K, by simp [b2, b3], fun h' e => (by cases e), HA.out, Keeps.refl _ _⟩
    | none =>
      have HK := Lib.hid hk
      clear hk
      obtain ⟨gc, cp, bv, A, hrow⟩ := sto_open' HA.out.sto R hrl
      obtain ⟨av, -, -, -, d3, -, -, hav⟩ := hrow.cellAt R c HCELL.out
      obtain ⟨y0, y1, y2⟩ := row3 hrow.row
      have hcap := hrow.own.caps
      obtain ⟨aa, ac, rfl, hac1, hac2, hel⟩ := hav
      have hcap1 : S.cells.length ≤ cp := hcap.1
      have hR0 : (0 : Int) ≤ (R : Int) := by omega
      have hR1 : (R : Int) < (S.cells.length : Int) := by omega
      have hsl : IntSl w (fun b => D b) (.slice aa c.args.length ac) c.args := IntSl.move (P := fun b => A b ∧ gc ≠ b ∧ b < w.heap.size) ⟨aa, ac, rfl, hac1, hac2, hel⟩ (fun b hb _ => hrow.da b hb.1) fun _ _ _ => rfl
      have HSL := Lib.hid hsl
      have hst : HtRel S D gb mb p pn f c.args w (.int .i64 ((0 : Nat) : Int)) (.int .i64 ((0 : Nat) : Int)) w := ⟨0, 0, K, by omega, rfl, rfl, rfl, HA.out, Keeps.refl _ _⟩
      have HST := Lib.hid hst
      clear hrow hcap hel hsl hst
      generalize hNN : S.cells.length = NN at *
      generalize hAL : c.args.length = nA at *
      have HNN := Lib.hid hNN
      have HAL := Lib.hid hAL
      clear hNN hAL
      go_wp2_with (with_reducible show wpList _ _ _ (⟨some 29, _, _, _, _, _⟩ :: _) _ _
                   refine wpList_imap_ok rfl 111 (.tmp 27) (.tmp 28) rfl _ _ _ Try.underlying111 Try.underlying3 mb _ rfl HA.out.map R rfl (fun _ => by kernel_rfl) ?_
                   rw [HK.out]
                   simp only [Option.getD_none, Option.isSome_none])
      clear u0 u1 u2 y0 y1 y2 d3
      go_loopw [10, 51] (fun vm vi wr => HtRel S D gb mb p pn f c.args w vm vi wr) (fun _ vi _ => nA - (intOf vi).toNat)
      case atStart => exact HST.out
      case round =>
        clear HST HK
        obtain ⟨i, m, K', hi, rfl, rfl, hfd, hA', hkk⟩ := hrel
        rw [HAL.out] at hi
        have hmle := hfold_le (fun x k hk => (hgt_le S f x k hk).2) hfd (Nat.zero_le _)
        have HFD := Lib.hid hfd
        have HA' := Lib.hid hA'
        have HKK := Lib.hid hkk
        obtain ⟨u0, u1, u2⟩ := row3 hA'.row
        clear hfd hA' hkk
        by_cases hin2 : i < nA
        · have hil : i < c.args.length := by have := HAL.out; omega
          have hslr : IntSl wr (fun b => D b) (.slice aa nA ac) c.args := HSL.out.move (fun b hb _ => hb) fun b hb hlt => HKK.out.block b hlt fun e => hmd (e ▸ hb)
          obtain ⟨a', ac', he, -, -, hel⟩ := hslr
          simp only [Value.slice.injEq] at he
          obtain ⟨rfl, -, -⟩ := he
          obtain ⟨be, off, rfl, -, -, hcel⟩ := hel i hil
          obtain ⟨an, han⟩ : ∃ an : Nat, c.args[i] = (an : Int) := ⟨c.args[i].toNat, by have := (HARG.out c.args[i] (List.getElem_mem hil)).1; omega⟩
          rw [han] at hcel
          have hanl : an < NN := by have := (HARG.out c.args[i] (List.getElem_mem hil)).2; omega
          have htk := hfold_take (hgtF S f) c.args (some 0) i hil
          rw [HFD.out, han, show hStep (hgtF S f) (some m) ((an : Nat) : Int) = (hgtF S f an).map (fun h => max m h) from rfl] at htk
          have HTK := Lib.hid htk
          have hih := IH.out an (dp + 1) K' wr hanl (by have := HDP.out; omega) (by omega) HA'.out
          have HIH := Lib.hid hih
          have hsp := hfold_stop (hgtF S f) c.args (some 0) (i + 1)
          have HSP := Lib.hid hsp
          have hi0 : (0 : Int) ≤ (i : Int) := by omega
          have hi1 : (i : Int) < (nA : Int) := by omega
          have bi : decide ((i : Int) < (nA : Int)) = true := by simp; omega
          have hac3 : nA ≤ ac := hac1
          clear hel han htk hih hsp
          go_wp2_with fail
          refine HIH.out.mono ?_
          rintro e4 w4 ⟨v, K4, rfl, hv4, hA4, hk4⟩
          have HA4 := Lib.hid hA4
          have HK4 := Lib.hid (HKK.out.trans hk4 fun b hb => .inl hb)
          have HV4 := Lib.hid hv4
          clear HIH hA4 hk4 hv4 u0 u1 u2 hcel
          cases hr : hgtF S f an with
          | none =>
            have hno : hgtF S (f + 1) x = none := by rw [HDEF.out, HSP.out (by rw [HTK.out, hr]; rfl)]; rfl
            have HNO := Lib.hid hno
            have HR := Lib.hid hr
            clear hr hno
            simp only [Option.isSome_none]
            go_wp2
            go_ret2
            rw [HNO.out]
            exact ⟨0, K4, rfl, fun h e => (by cases e), HA4.out, HK4.out⟩
          | some h =>
            obtain rfl := HV4.out h hr
            have hle := (hgt_le S f an h hr).2
            have hnx : (c.args.take (i + 1)).foldl (hStep (hgtF S f)) (some 0) = some (max m h) := by rw [HTK.out, hr]; rfl
            have hrel : HtRel S D gb mb p pn f c.args w (.int .i64 ((max m h : Nat) : Int)) (.int .i64 ((i + 1 : Nat) : Int)) w4 := ⟨i + 1, max m h, K4, by have := HAL.out; omega, rfl, rfl, hnx, HA4.out, HK4.out⟩
            have em : max (m : Int) (h : Int) = ((max m h : Nat) : Int) := by omega
            rw [← em] at hrel
            have HREL := Lib.hid hrel
            have HR := Lib.hid hr
            clear hr hnx hrel em HV4
            simp only [Option.isSome_some]
            go_wp2
            go_roundw
            case measure => simp [intOf]; omega
            case rel => exact HREL.out
        · have bi : decide ((i : Int) < (nA : Int)) = false := by simp; omega
          have hr : hgtF S (f + 1) x = some (m + 1) := by
            have : (c.args.take i) = c.args := List.take_of_length_le (by have := HAL.out; omega)
            rw [HDEF.out, ← this, HFD.out]; rfl
          have hr1 : hgtF S (m + 1) R = some (m + 1) := by
            have h := hr
            rw [← HGR.out] at h
            exact hgt_at S _ R (m + 1) (m + 1) h (Nat.le_refl _)
          have HRR := Lib.hid hr
          have HR1 := Lib.hid hr1
          clear hr hr1
          go_wp2_with (with_reducible show wpList _ _ _ (⟨none, .mapUpdate _ _ _ _, _, _, _, _⟩ :: _) _ _
                       refine wpList_imap_set rfl 111 (.tmp 72) (.tmp 73) (.tmp 75) rfl _ _ _ Try.underlying111 Try.underlying3 mb _ rfl HA'.out.map R rfl ((m : Int) + 1) rfl ?_
                       intro w5 hm5 hg5
                       have hk5 : Keeps wr w5 (fun b => b = mb) := ⟨hg5.os, hg5.tape, hg5.output, hg5.size, fun b hlt hb => hg5.block b hlt fun e => hb (by simpa using e)⟩
                       have HA5 := Lib.hid (HA'.out.keep hmd hk5 hm5 (HA'.out.ok.set (h := m + 1) (by omega) HR1.out))
                       have HK5 := Lib.hid (HKK.out.trans hk5 fun b hb => .inl hb)
                       clear hm5 hg5 hk5)
          go_ret2
          rw [HRR.out]
          exact ⟨((m + 1 : Nat) : Int), _, by simp, fun h e => by simp only [Option.some.injEq] at e; omega, HA5.out, HK5.out⟩
end Go.Proofs.Ytoklbeogmcdgaaa.Tms
namespace Go.Proofs.Ytoklbeogmcdgaaa.Tms
open Go Go.RowKit Go.Proofs.Ytoklbeogmcdgaaa.Reg Go.Proofs.Ytoklbeogmcdgaaa.Rws Go.Proofs.Ytoklbeogmcdgaaa.Maps
set_option linter.unusedVariables false
set_option linter.unusedSimpArgs false

/-- what Get answers: the term, the error -/
noncomputable def getT (S : Sto) (x : Nat) : Tm := if (getG S 2000 x 0).2.1 = 0 then (getG S 2000 x 0).1 else zeroTm
open Classical in
noncomputable def getE (S : Sto) (x : Nat) : Int := if (getG S 2000 x 0).2.1 = 3 ∧ hgtF S 2000 x = none then 4 else (getG S 2000 x 0).2.1
set_option maxRecDepth 100000 in
set_option maxHeartbeats 8000000 in
theorem sto_Get_bad {S : Sto} {D : Nat → Prop} {p : Nat} (w : World) (hin : StoIn S) (hS : StoAt w D p S) (x : Nat) (hx : x < S.cells.length) (hbad : (getG S 2000 x 0).2.1 ≠ 0) :
    Calls Try.prog 20 #[.pointer (some ⟨p, 0, none⟩), .int .i64 x] w fun e w' => e = .returned (.tuple #[aggT zeroTm none 0, .int .i64 (getE S x)]) ∧ Below w.heap.size w w' := by
  have hb0 := below_new w (.cells #[.int .i64 0, .int .i64 0, .string ⟨#[]⟩, .slice none 0 0] 33 (0, 0))
  have hn0 := heap_alloc_new w (.cells #[.int .i64 0, .int .i64 0, .string ⟨#[]⟩, .slice none 0 0] 33 (0, 0))
  have HS := Lib.hid (hS.below hb0)
  have HB := Lib.hid hb0
  have HN := Lib.hid hn0
  have HX := Lib.hid (dec_yes hx)
  have hE : getE S x = if (getG S 2000 x 0).2.1 = 3 ∧ hgtF S 2000 x = none then 4 else (getG S 2000 x 0).2.1 := by unfold getE; rfl
  have HE := Lib.hid hE
  have HDL := Lib.hid hS.dl''
  have hz0 : (w.alloc (.cells #[.int .i64 0, .int .i64 0, .string ⟨#[]⟩, .slice none 0 0] 33 (0, 0))).heap.size = w.heap.size + 1 := by simp
  have hb1 := below_new (w.alloc (.cells #[.int .i64 0, .int .i64 0, .string ⟨#[]⟩, .slice none 0 0] 33 (0, 0))) (.cells #[.pointer (some ⟨p, 0, none⟩), .int .i64 0, .map none] 113 (0, 0))
  have hn1 := heap_alloc_new (w.alloc (.cells #[.int .i64 0, .int .i64 0, .string ⟨#[]⟩, .slice none 0 0] 33 (0, 0))) (.cells #[.pointer (some ⟨p, 0, none⟩), .int .i64 0, .map none] 113 (0, 0))
  rw [hz0] at hn1 hb1
  have HB1 := Lib.hid hb1
  have HN1 := Lib.hid hn1
  have HZ0 := Lib.hid hz0
  clear hb0 hn0 hS hb1 hn1 hz0 hE
  obtain ⟨r, hr⟩ : ∃ r, r = getG S 2000 x 0 := ⟨_, rfl⟩
  have hgt := fun (u : World) h1 h2 h3 => gt_get S hin D (w.heap.size + 1) p (.map none) 2000 x 0 1 u hx (by omega) (by omega) (Nat.le_refl _) h1 h2 h3
  rw [← hr] at hgt HE hbad
  have HGT := Lib.hid hgt
  have hhin : hin = hin := rfl
  clear hgt hr hhin
  obtain ⟨t0, er, n⟩ := r
  dsimp only at HE hbad
  go_enter Try.func20, Try.ntmps20
  go_wp2_with fail
  refine (sto_there _ HS.out x).mono ?_
  rintro e1 w1 ⟨rfl, rfl⟩
  rw [HX.out]
  go_wp2_with fail
  refine (HGT.out _ (HS.out.below (HB1.out.mono (by rw [HZ0.out]; exact Nat.le_refl _))) (fun h => by have := HDL.out _ h; omega) (by exact HN1.out)).mono ?_
  rintro e2 w2 ⟨a, c, rfl, hi2, hg2, hk2⟩
  dsimp only at hi2 hg2 ⊢
  have hz1 : ((w.alloc (.cells #[.int .i64 0, .int .i64 0, .string ⟨#[]⟩, .slice none 0 0] 33 (0, 0))).alloc (.cells #[.pointer (some ⟨p, 0, none⟩), .int .i64 0, .map none] 113 (0, 0))).heap.size = w.heap.size + 2 := by simp
  have hr2 : w2.heap[w.heap.size]? = _ := (hk2.block w.heap.size (by omega) (by omega)).trans ((HB1.out.block w.heap.size (by omega)).trans HN.out)
  have hb2 : Below w.heap.size w w2 := by
    refine ⟨hk2.os, hk2.tape, hk2.output, by have := hk2.size; omega, fun b hlt => ?_⟩
    exact (hk2.block b (by omega) (by omega)).trans ((HB1.out.block b (by omega)).trans (HB.out.block b hlt))
  have hs2 : StoAt w2 D p S := (HS.out.below (HB1.out.mono (by rw [HZ0.out]; exact Nat.le_refl _))).keep hk2.size fun b hlt hb => hk2.block b hlt fun e => by have := HDL.out b hb; omega
  have hz2 : w.heap.size + 2 ≤ w2.heap.size := by have := hk2.size; omega
  have hb5 := below_new w2 (.cells #[.int .i64 t0.k, .int .i64 t0.n, .string t0.s, .slice a t0.args.length c] 33 (0, 0))
  have hr5 := (hb5.block w.heap.size (by omega)).trans hr2
  have hg5 := (hb5.block (w.heap.size + 1) (by omega)).trans hg2
  have HR5 := Lib.hid hr5
  have HG5 := Lib.hid hg5
  have HB5 := Lib.hid (hb2.trans (hb5.mono (by omega)))
  have HS5 := Lib.hid (hs2.below hb5)
  have hz5 : w.heap.size + 3 ≤ (w2.alloc (.cells #[.int .i64 t0.k, .int .i64 t0.n, .string t0.s, .slice a t0.args.length c] 33 (0, 0))).heap.size := by simp; omega
  clear hi2 hg2 hk2 hz1 hr2 hb2 hb5 hr5 hg5 hs2
  by_cases h3 : er = 3
  · subst h3
    go_upto_region 8 with fail
    generalize w2.alloc (.cells #[.int .i64 t0.k, .int .i64 t0.n, .string t0.s, .slice a t0.args.length c] 33 (0, 0)) = w5 at *
    obtain ⟨mb, hmb⟩ : ∃ mb, mb = w5.heap.size := ⟨_, rfl⟩
    have hb6 := below_new w5 (.map #[] 0)
    have hg6 := (hb6.block (w.heap.size + 1) (by omega)).trans HG5.out
    have hr6 := (hb6.block w.heap.size (by omega)).trans HR5.out
    have hs6 := HS5.out.below hb6
    have hm6 := IMap.made w5
    have hb6' := HB5.out.trans (hb6.mono (by have := HB5.out.size; omega))
    rw [← hmb] at hm6
    have hmz : mb ≠ w.heap.size + 1 := by omega
    have hgd : ¬ D (w.heap.size + 1) := fun h => by have := HDL.out _ h; omega
    have hmd : ¬ D mb := fun h => by have := HDL.out _ h; omega
    go_wp2_with (with_reducible show wpList _ _ _ (⟨some 28, _, _, _, _, _⟩ :: _) _ _
                 refine wpList_imap_made rfl _ rfl ?_
                 rw [← hmb]
                 generalize w5.alloc (.map #[] 0) = w6 at *
                 obtain ⟨y0, y1, y2⟩ := row3 hg6
                 have hz2' := frozen_of_row _ (w.heap.size + 1) 2 _ _ hg6
                 have HG6 := Lib.hid hg6
                 have HR6 := Lib.hid hr6
                 have HS6 := Lib.hid hs6
                 have HM6 := Lib.hid hm6
                 have HB6 := Lib.hid hb6'
                 have HMB := Lib.hid hmb
                 clear hg6 hr6 hs6 hm6 hb6 hb6' hmb)
    have hg7 := heap_setCell_same w6 (w.heap.size + 1) 2 _ _ (.map (some mb)) HG6.out
    have hat : HtAt S D (w.heap.size + 1) mb p n [] (w6.setCell ⟨w.heap.size + 1, 2, none⟩ (.map (some mb))) :=
      ⟨HS6.out.keep (by simp [World.setCell]) fun b _ hb => Below.heap_setCell _ _ _ _ fun e => hgd (by have e : b = w.heap.size + 1 := e; subst e; exact hb), by simpa using hg7, HM6.out.below (Below.heap_setCell _ _ _ _ hmz), fun x v h => by cases h⟩
    have hr7 : (w6.setCell ⟨w.heap.size + 1, 2, none⟩ (.map (some mb))).heap[w.heap.size]? = _ := (Below.heap_setCell _ _ _ _ (show w.heap.size ≠ w.heap.size + 1 by omega)).trans HR6.out
    have HAT := Lib.hid hat
    have HR7 := Lib.hid hr7
    have hb7 : Below w.heap.size w (w6.setCell ⟨w.heap.size + 1, 2, none⟩ (.map (some mb))) := HB6.out.setCell (Nat.le_succ _) _
    have HB7 := Lib.hid hb7
    have hwm : w.heap.size < mb := by have := HMB.out; have := HB5.out.size; omega
    clear hg7 hat hr7 hb7 y0 y1 y2 hz2'
    go_wp2_with fail
    refine (gt_height S hin D (w.heap.size + 1) mb p n hgd hmd 2000 x 1 [] _ hx (by omega) (by omega) HAT.out).mono ?_
    rintro e8 w8 ⟨hv, K8, rfl, -, hat8, hk8⟩
    have hr8 := (hk8.block w.heap.size (Array.getElem?_eq_some_iff.1 HR7.out).1 (by omega)).trans HR7.out
    have hb8 : Below w.heap.size w w8 := ⟨hk8.os.trans HB7.out.os, hk8.tape.trans HB7.out.tape, hk8.output.trans HB7.out.output, Nat.le_trans HB7.out.size hk8.size, fun b hlt => (hk8.block b (by have := HB7.out.size; omega) (by omega)).trans (HB7.out.block b hlt)⟩
    have HR8 := Lib.hid hr8
    have HB8 := Lib.hid hb8
    clear hat8 hk8 hr8 hb8 HAT HR7 HB7
    cases hh : hgtF S 2000 x with
    | none =>
      have hv : getE S x = 4 := by rw [HE.out]; rw [if_pos]; simp [hh]
      have HV := Lib.hid hv
      clear hv hh hbad
      simp only [Option.isSome_none]
      go_wp2_with (with_reducible show wpList _ _ _ (⟨none, .store _ (.tmp 4) _, _, _, _, _⟩ :: _) _ _
                   refine wpList_store_row rfl 33 (.tmp 4) (.tmp 39) rfl w.heap.size #[.int .i64 0, .int .i64 0, .string ⟨#[]⟩, .slice none 0 0] rfl rfl _ _ HR8.out size_term rfl (one4 _ _ _ _ _ _) ?_)
      have hz := setRow_heap _ w.heap.size _ #[.int .i64 0, .int .i64 0, .string ⟨#[]⟩, .slice none 0 0] _ _ HR8.out
      refine bodyPost_ret (v := .tuple #[aggT zeroTm none 0, .int .i64 4]) (Push.results_cell_tmp Try.results20 _ _ w.heap.size _ _ _ _ _ rfl (by simp) hz Try.underlying33 rfl (by kernel_rfl)) rfl ⟨by rw [HV.out], below_setRow HB8.out (Nat.le_refl _) _⟩
    | some h =>
      have hv : getE S x = 3 := by rw [HE.out]; rw [if_neg]; simp [hh]
      have HV := Lib.hid hv
      clear hv hh hbad
      simp only [Option.isSome_some]
      go_wp2_with (with_reducible show wpList _ _ _ (⟨none, .store _ (.tmp 4) _, _, _, _, _⟩ :: _) _ _
                   refine wpList_store_row rfl 33 (.tmp 4) (.tmp 39) rfl w.heap.size #[.int .i64 0, .int .i64 0, .string ⟨#[]⟩, .slice none 0 0] rfl rfl _ _ HR8.out size_term rfl (one4 _ _ _ _ _ _) ?_)
      have hz := setRow_heap _ w.heap.size _ #[.int .i64 0, .int .i64 0, .string ⟨#[]⟩, .slice none 0 0] _ _ HR8.out
      refine bodyPost_ret (v := .tuple #[aggT zeroTm none 0, .int .i64 3]) (Push.results_cell_tmp Try.results20 _ _ w.heap.size _ _ _ _ _ rfl (by simp) hz Try.underlying33 rfl (by kernel_rfl)) rfl ⟨by rw [HV.out], below_setRow HB8.out (Nat.le_refl _) _⟩
  · have hv : getE S x = er := by rw [HE.out]; exact if_neg fun h => h3 h.1
    have HV := Lib.hid hv
    have b1 : (er == 3) = false := by simpa using h3
    have b2 : (er != 0) = true := by simpa using hbad
    clear hv h3 hbad
    go_wp2_with (with_reducible show wpList _ _ _ (⟨none, .store _ (.tmp 4) _, _, _, _, _⟩ :: _) _ _
                 refine wpList_store_row rfl 33 (.tmp 4) (.tmp 39) rfl w.heap.size #[.int .i64 0, .int .i64 0, .string ⟨#[]⟩, .slice none 0 0] rfl rfl _ _ HR5.out size_term rfl (one4 _ _ _ _ _ _) ?_)
    have hz := setRow_heap _ w.heap.size _ #[.int .i64 0, .int .i64 0, .string ⟨#[]⟩, .slice none 0 0] _ _ HR5.out
    refine bodyPost_ret (v := .tuple #[aggT zeroTm none 0, .int .i64 er]) (Push.results_cell_tmp Try.results20 _ _ w.heap.size _ _ _ _ _ rfl (by simp) hz Try.underlying33 rfl (by kernel_rfl)) rfl ⟨by rw [HV.out], below_setRow HB5.out (Nat.le_refl _) _⟩
section
variable {w0 w w' : World} {p : Nat} {S S' : Sto} {D D' : Nat → Prop}
end
end Go.Proofs.Ytoklbeogmcdgaaa.Tms
