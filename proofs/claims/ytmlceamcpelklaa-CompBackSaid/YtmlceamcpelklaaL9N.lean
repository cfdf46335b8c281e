
/-
  CompNames, walked over the program.
-/
import Derived.Test.YtmlceamcpelklaaAl9
import Derived.Test.YtmlceamcpelklaaPla
import Derived.Test.YtmlceamcpelklaaChd
import Derived.Test.YtmlceamcpelklaaNumP
import Derived.Test.YtmlceamcpelklaaMend
namespace Go.Proofs.Ytmlceamcpelklaa.Tms
open Go Go.RowKit Go.Proofs.Ytmlceamcpelklaa.Reg Go.Proofs.Ytmlceamcpelklaa.Rws Go.Proofs.Ytmlceamcpelklaa.Cod Go.Proofs.Ytmlceamcpelklaa.Maps
set_option linter.unusedVariables false

mutual
theorem occ_flat : ∀ (t : Tm), ∀ n ∈ occT t, ∃ p ∈ flatT t, p.1.k = 1 ∧ p.1.n = n
  | .mk k m s a, n, hn => by
    by_cases k1 : k = 1
    · simp only [occT, if_pos k1, List.mem_cons] at hn
      rcases hn with rfl | hn
      · exact ⟨(.mk k n s a, 0), by simp [flatT], k1, rfl⟩
      · obtain ⟨p, hp, e⟩ := occ_flatL a n hn
        exact ⟨p, by simp [flatT, hp], e⟩
    · simp only [occT, if_neg k1] at hn
      obtain ⟨p, hp, e⟩ := occ_flatL a n hn
      exact ⟨p, by simp [flatT, hp], e⟩
theorem occ_flatL : ∀ (l : List Tm), ∀ n ∈ occL l, ∃ p ∈ flatL l, p.1.k = 1 ∧ p.1.n = n
  | [], n, hn => by simp [occL] at hn
  | t :: l, n, hn => by
    simp only [occL, List.mem_append] at hn
    rcases hn with hn | hn
    · obtain ⟨p, hp, e⟩ := occ_flat t n hn
      exact ⟨p, by simp [flatL, hp], e⟩
    · obtain ⟨p, hp, e⟩ := occ_flatL l n hn
      exact ⟨p, by simp [flatL, hp], e⟩
end
theorem occ_vars (t : Tm) (n : Int) (h : n ∈ occT t) : n ∈ varsT t := by
  obtain ⟨p, hp, hk, rfl⟩ := occ_flat t n h
  obtain ⟨D, rest, e⟩ := List.append_of_mem hp
  have := place_final (D := D) (rest := rest) hk
  rw [← e, varsT_flat] at this
  exact place_mem.1 (by rw [this]; rfl)
theorem compE_len (h b : Tm) : (compE h b).1.l.length ≤ 20000 := by
  unfold compE
  split
  · simp [zeroCod]
  split
  · simp [zeroCod]
  split
  · simp [zeroCod]
  split
  · simp [zeroCod]
  rename_i h1 h2 h3 h4
  have l1 := patL_len (oneB (occT h ++ occT b)) h.args []
  have l2 := patT_len (oneB (occT h ++ occT b)) b (patL (oneB (occT h ++ occT b)) [] h.args).2
  have hs : h.size = sizeL h.args + 1 := by obtain ⟨k, n, s, ar⟩ := h; simp [Tm.size, Tm.args]
  simp only [compC, List.length_append]
  omega
abbrev funO (bb fb : Nat) : Obj := .cells #[.func (.func 30) #[] #[.pointer (some ⟨bb, 0, none⟩), .pointer (some ⟨fb, 0, none⟩)]] 46 (0, 0)
def VrRel (L : List Int) (w : World) (vi : Value) (wr : World) : Prop := ∃ q : Nat, q ≤ L.length ∧ vi = .int .i64 q ∧ (∀ n ∈ L.take q, n < 1099511627776) ∧ wr = w

def CplTo (c : Cod) (x : Int) (w : World) (e : Ending) (w' : World) : Prop :=
  ∃ a k, e = .returned (.tuple #[.agg #[.string c.name, .int .i64 c.args, .int .i64 c.slots, .int .i64 c.body, .slice a c.l.length k], .int .i64 x]) ∧ InsSl w' (.slice a c.l.length k) c.l ∧ Below w.heap.size w w'
theorem go_Compile_to {h b : Tm} {c : Cod} {x : Int} (hc : compE h b = (c, x)) (v1 v2 : Value) (P1 P2 : Nat → Prop) (w : World) (hM1 : h.size ≤ 1000000000) (hM2 : b.size ≤ 1000000000) (h1 : IsTm w P1 v1 h) (h2 : IsTm w P2 v2 b) :
    Calls Try.prog 33 #[v1, v2] w (CplTo c x w) := by
  refine (go_Compile h b v1 v2 P1 P2 w hM1 hM2 h1 h2).mono ?_
  rintro e w8 ⟨v8, rfl, hi8, hb8⟩
  rw [hc] at hi8 ⊢
  obtain ⟨a8, c8, rfl⟩ := hi8.form
  exact ⟨a8, c8, rfl, hi8, hb8⟩
theorem insAt_ne {w : World} {g b o : Nat} {i : Ins} {s : ByteArray} {x y z : Int} {a : Option Addr} {l c : Nat} {T : TypeId} {fr : Nat × Nat} (hg : w.heap[g]? = some (.cells #[.string s, .int .i64 x, .int .i64 y, .int .i64 z, .slice a l c] T fr)) (h : InsAt w b o i) : b ≠ g := by
  rintro rfl
  have hc := fun k => cell_of_row w b k _ _ _ hg
  obtain ⟨h1, h2, h3, h4⟩ := h
  rw [hc] at h1 h2 h3 h4
  match o with
  | 0 => simp at h1
  | 1 => simp at h4
  | 2 => simp at h3
  | 3 => simp at h2
  | 4 => simp at h1
  | n + 5 => simp at h1
theorem insSl_setRow {w : World} {g : Nat} {s : ByteArray} {x y z : Int} {a : Option Addr} {l c : Nat} {T : TypeId} {fr : Nat × Nat} (hg : w.heap[g]? = some (.cells #[.string s, .int .i64 x, .int .i64 y, .int .i64 z, .slice a l c] T fr)) {v : Value} {L : List Ins} (h : InsSl w v L) (cs : Array Value) : InsSl (w.setRow g cs) v L := by
  obtain ⟨q, k, rfl, h⟩ := h
  refine ⟨q, k, rfl, fun j hj => ?_⟩
  obtain ⟨b, off, e, hi⟩ := h j hj
  have hn := insAt_ne hg hi
  have hk := fun o => World.cell?_of_block (w := w) (w' := w.setRow g cs) (a := ⟨b, o, none⟩) (setRow_other _ _ _ _ hn)
  exact ⟨b, off, e, (hk _).trans hi.1, (hk _).trans hi.2.1, (hk _).trans hi.2.2.1, (hk _).trans hi.2.2.2⟩
abbrev codO (c : Cod) (a : Option Addr) (k : Nat) : Obj := .cells #[.string c.name, .int .i64 c.args, .int .i64 c.slots, .int .i64 c.body, .slice a c.l.length k] 51 (0, 0)
set_option maxRecDepth 100000 in
set_option maxHeartbeats 8000000 in
theorem law_names (L M : List Pt) (y : Int) (v1 v2 : Value) (w : World) (hy : 0 ≤ y ∧ y ≤ 65535) (h1 : PtSl w v1 L) (h2 : PtSl w v2 M) : Calls Try.prog 7 #[v1, v2, .int .u16 y] w (Says true w) := by
  obtain ⟨a1, c1, rfl, -, -⟩ := h1.form
  obtain ⟨a2, c2, rfl, -, -⟩ := h2.form
  have H1 := Lib.hid h1
  have H2 := Lib.hid h2
  have hb0 := below_new w (.cells #[.int .u16 y] 45 (0, 0))
  have hr0 := heap_alloc_new w (.cells #[.int .u16 y] 45 (0, 0))
  have hz0 : (w.alloc (.cells #[.int .u16 y] 45 (0, 0))).heap.size = w.heap.size + 1 := by simp
  have HB0 := Lib.hid hb0
  have HR0 := Lib.hid hr0
  have HZ0 := Lib.hid hz0
  clear h1 h2 hb0 hr0 hz0
  have hsn := fun (w : World) (a : Addr) (m : Mode) => run_store Try.prog w a .nilFunc m rfl
  have hsf := fun (w : World) (a : Addr) (m : Mode) f (x y : Array Value) => run_store Try.prog w a (.func f x y) m rfl
  have HSN := Lib.hid hsn
  have HSF := Lib.hid hsf
  clear hsn hsf
  by_cases g1 : 60 < L.length
  · have d1 : decide (60 < (L.length : Int)) = true := by simp; omega
    go_enter Try.func7, Try.ntmps7
    go_wp2_with (first
      | (go_at_call 29; refine (l9_alive _).mono ?_; rintro e1 w1 ⟨rfl, hb1⟩; have HB := Lib.hid (HB0.out.trans (hb1.mono HB0.out.size)); clear hb1)
      | (go_at_call 15; refine (ref_great L _ _ (H1.out.below HB.out)).mono ?_; rintro e2 w2 ⟨rfl, rfl⟩))
    go_ret
    exact ⟨rfl, HB.out⟩
  have d1 : decide (60 < (L.length : Int)) = false := by simp; omega
  by_cases g2 : 60 < M.length
  · have d2 : decide (60 < (M.length : Int)) = true := by simp; omega
    go_enter Try.func7, Try.ntmps7
    go_wp2_with (first
      | (go_at_call 29; refine (l9_alive _).mono ?_; rintro e1 w1 ⟨rfl, hb1⟩; have HB := Lib.hid (HB0.out.trans (hb1.mono HB0.out.size)); clear hb1)
      | (go_at_call 15; refine (ref_great L _ _ (H1.out.below HB.out)).mono ?_; rintro e2 w2 ⟨rfl, rfl⟩)
      | (go_at_call 15; refine (ref_great M _ _ (H2.out.below HB.out)).mono ?_; rintro e2 w2 ⟨rfl, rfl⟩))
    go_ret
    exact ⟨rfl, HB.out⟩
  have d2 : decide (60 < (M.length : Int)) = false := by simp; omega
  have z1 := goodT_size L
  have z2 := goodT_size M
  have HM1 := Lib.hid (good_may (L := L))
  have HM2 := Lib.hid (good_may (L := M))
  go_enter Try.func7, Try.ntmps7
  go_wp2_with fail
  refine (l9_alive _).mono ?_
  rintro e1 w1 ⟨rfl, hb1⟩
  have HR1 := Lib.hid ((hb1.block w.heap.size (by have := HZ0.out; omega)).trans HR0.out)
  have HZ1 : Hid (w.heap.size + 1 ≤ w1.heap.size) := Lib.hid (by have := HZ0.out; have := hb1.size; omega)
  have HB := Lib.hid (HB0.out.trans (hb1.mono HB0.out.size))
  clear hb1 HB0 HR0 HZ0
  go_wp2_with fail
  refine (ref_great L _ _ (H1.out.below HB.out)).mono ?_; rintro e2 w2 ⟨rfl, rfl⟩
  go_wp2_with fail
  refine (ref_great M _ _ (H2.out.below HB.out)).mono ?_; rintro e2 w2 ⟨rfl, rfl⟩
  have hsn := HSN.out
  have hsf := HSF.out
  go_wp2_with fail
  clear hsn hsf
  have hb3 := below_new w1 (funO w.heap.size w1.heap.size)
  have hr3 := heap_alloc_new w1 (funO w.heap.size w1.heap.size)
  have hz3 : (w1.alloc (funO w.heap.size w1.heap.size)).heap.size = w1.heap.size + 1 := by simp
  have HR3 := Lib.hid ((hb3.block w.heap.size (by have := HZ1.out; omega)).trans HR1.out)
  have HF3 := Lib.hid hr3
  have HZ3 := Lib.hid hz3
  have HB3 := Lib.hid (HB.out.trans (hb3.mono HB.out.size))
  clear hb3 hr3 hz3 HR1 HB
  simp only [funO] at HR3 HF3 HZ3 HB3
  generalize (w1.alloc (.cells #[.func (.func 30) #[] #[.pointer (some ⟨w.heap.size, 0, none⟩), .pointer (some ⟨w1.heap.size, 0, none⟩)]] 46 (0, 0))) = w3 at *
  refine (ref_good L _ _ (by omega) (H1.out.below HB3.out)).mono ?_
  rintro e4 w4 ⟨v4, rfl, hi4, hb4⟩
  obtain ⟨b1, k1, rfl⟩ := hi4.form
  have HX4 := Lib.hid hi4.any
  have HR4 := Lib.hid ((hb4.block w.heap.size (by have := HZ3.out; have := HZ1.out; omega)).trans HR3.out)
  have HF4 := Lib.hid ((hb4.block w1.heap.size (by have := HZ3.out; omega)).trans HF3.out)
  have HZ4 : Hid (w1.heap.size + 1 ≤ w4.heap.size) := Lib.hid (by have := HZ3.out; have := hb4.size; omega)
  have HB4 := Lib.hid (HB3.out.trans (hb4.mono HB3.out.size))
  clear hi4 hb4 HR3 HF3 HZ3 HB3
  go_wp2_with fail
  refine (ref_good M _ _ (by omega) (H2.out.below HB4.out)).mono ?_
  rintro e5 w5 ⟨v5, rfl, hi5, hb5⟩
  obtain ⟨b2, k2, rfl⟩ := hi5.form
  have HX := Lib.hid (HX4.out.below hb5)
  have HY := Lib.hid hi5.any
  have HR5 := Lib.hid ((hb5.block w.heap.size (by have := HZ4.out; have := HZ1.out; omega)).trans HR4.out)
  have HF5 := Lib.hid ((hb5.block w1.heap.size (by have := HZ4.out; omega)).trans HF4.out)
  have HZ5 : Hid (w1.heap.size + 1 ≤ w5.heap.size) := Lib.hid (by have := HZ4.out; have := hb5.size; omega)
  have HB5 := Lib.hid (HB4.out.trans (hb5.mono HB4.out.size))
  clear hi5 hb5 HX4 HR4 HF4 HZ4 HB4 H1 H2
  generalize goodT L = X at *
  generalize goodT M = Y at *
  go_wp2_with fail
  obtain ⟨t0, t1, tsz, tbl⟩ := two w5 (rowT X b1 k1) (rowT Y b2 k2)
  have hrow := row2 (HX.out.below tbl) (HY.out.below (tbl))
  have hb8 := below_new ((w5.alloc (rowT X b1 k1)).alloc (rowT Y b2 k2)) (.cells #[.int .i64 X.k, .int .i64 X.n, .string X.s, .slice b1 X.args.length k1, .int .i64 Y.k, .int .i64 Y.n, .string Y.s, .slice b2 Y.args.length k2] 27 (0, 0))
  simp only [rowT] at t0 t1 tsz tbl hrow hb8
  generalize (w5.alloc (.cells #[.int .i64 X.k, .int .i64 X.n, .string X.s, .slice b1 X.args.length k1] 27 (0, 0))).alloc (.cells #[.int .i64 Y.k, .int .i64 Y.n, .string Y.s, .slice b2 Y.args.length k2] 27 (0, 0)) = w7 at *
  rw [tsz] at hrow
  generalize w7.alloc (.cells #[.int .i64 X.k, .int .i64 X.n, .string X.s, .slice b1 X.args.length k1, .int .i64 Y.k, .int .i64 Y.n, .string Y.s, .slice b2 Y.args.length k2] 27 (0, 0)) = w8 at *
  have hrow' : IsSl w8 AnyB (.slice (some ⟨w5.heap.size + 1 + 1, 0, none⟩) 2 2) [X, Y] := hrow
  have hb58 := tbl.trans (hb8.mono tbl.size)
  have HX8 := Lib.hid (HX.out.below hb58)
  have HY8 := Lib.hid (HY.out.below hb58)
  have HRX8 := Lib.hid ((hb8.block w5.heap.size (by omega)).trans t0)
  have HRY8 := Lib.hid ((hb8.block (w5.heap.size + 1) (by omega)).trans t1)
  have HR8 := Lib.hid ((hb58.block w.heap.size (by have := HZ5.out; have := HZ1.out; omega)).trans HR5.out)
  have HF8 := Lib.hid ((hb58.block w1.heap.size (by have := HZ5.out; omega)).trans HF5.out)
  have HZ8 : Hid (w5.heap.size + 2 ≤ w8.heap.size) := Lib.hid (by have := hb8.size; omega)
  have HB8 := Lib.hid (HB5.out.trans (hb58.mono HB5.out.size))
  clear t0 t1 tsz tbl hrow hb8 hb58 HX HY HR5 HF5 HB5
  refine (l9_f _ _ _ _ _).mono ?_
  rintro e9 w9 ⟨rfl, hb9⟩
  have HI9 : Hid (IsTm w9 AnyB (compV (⟨#[98, 111, 116, 104]⟩ : ByteArray) (some ⟨w5.heap.size + 1 + 1, 0, none⟩) 2 2) (compT (⟨#[98, 111, 116, 104]⟩ : ByteArray) [X, Y])) := Lib.hid (comp_is (l := [X, Y]) (hrow'.below hb9))
  have HB9 := Lib.hid hb9
  clear hb9 hrow'
  go_wp2_with fail
  have hsz : (compT (⟨#[98, 111, 116, 104]⟩ : ByteArray) [X, Y]).size = X.size + Y.size + 1 := by simp only [compT, Tm.size, sizeL]; omega
  refine (tm_Vars (compT (⟨#[98, 111, 116, 104]⟩ : ByteArray) [X, Y]) _ _ _ (by omega) HI9.out).mono ?_
  rintro e10 w10 ⟨vv, rfl, hi10, hb10⟩
  have hoc : ∀ n, n ∈ occT X ∨ n ∈ occT Y → n ∈ varsT (compT (⟨#[98, 111, 116, 104]⟩ : ByteArray) [X, Y]) := fun n hn => occ_vars _ n (by
    simp only [compT, occT, occL]
    rcases hn with hn | hn <;> simp [hn])
  have HOC := Lib.hid hoc
  have hvl : (varsT (compT (⟨#[98, 111, 116, 104]⟩ : ByteArray) [X, Y])).length ≤ 1000000000 := by
    have h1 := varsD_len (parts 1 (compT (⟨#[98, 111, 116, 104]⟩ : ByteArray) [X, Y]))
    have h2 := parts_len 1 (compT (⟨#[98, 111, 116, 104]⟩ : ByteArray) [X, Y])
    show (varsD (parts 1 (compT (⟨#[98, 111, 116, 104]⟩ : ByteArray) [X, Y]))).length ≤ _
    omega
  generalize varsT (compT (⟨#[98, 111, 116, 104]⟩ : ByteArray) [X, Y]) = V at *
  obtain ⟨qa, qc, rfl, -, -, hq⟩ := hi10
  have hb810 := HB9.out.trans (hb10.mono HB9.out.size)
  have HX10 := Lib.hid (HX8.out.below hb810)
  have HY10 := Lib.hid (HY8.out.below hb810)
  have HRX10 := Lib.hid ((hb810.block w5.heap.size (by have := HZ8.out; omega)).trans HRX8.out)
  have HRY10 := Lib.hid ((hb810.block (w5.heap.size + 1) (by have := HZ8.out; omega)).trans HRY8.out)
  have HR10 := Lib.hid ((hb810.block w.heap.size (by have := HZ8.out; have := HZ5.out; have := HZ1.out; omega)).trans HR8.out)
  have HF10 := Lib.hid ((hb810.block w1.heap.size (by have := HZ8.out; have := HZ5.out; omega)).trans HF8.out)
  have HZ10 : Hid (w5.heap.size + 2 ≤ w10.heap.size) := Lib.hid (by have := hb810.size; have := HZ8.out; omega)
  have HB10 := Lib.hid (HB8.out.trans (hb810.mono HB8.out.size))
  have HQ := Lib.hid hq
  clear hq hb10 hb810 HX8 HY8 HRX8 HRY8 HR8 HF8 HZ8 HB8 HI9 HB9 hoc hsz
  go_wp2
  have HST : Hid (VrRel V w10 (.int .i64 ((0 : Nat) : Int)) w10) := Lib.hid ⟨0, by omega, rfl, by simp, rfl⟩
  go_loopw [35] (fun vi wr => VrRel V w10 vi wr) (fun vi _ => V.length - (intOf vi).toNat)
  case atStart => exact HST.out
  case round =>
    obtain ⟨q, hq, rfl, hlow, rfl⟩ := hrel
    clear HST
    have HLW := Lib.hid hlow
    clear hlow
    by_cases hql : q < V.length
    · obtain ⟨gx, ox, rfl, -, -, y0⟩ := HQ.out q hql
      have htk : V.take (q + 1) = V.take q ++ [V[q]] := List.take_succ_eq_append_getElem hql
      have HTK := Lib.hid htk
      clear htk
      generalize V[q] = z at *
      have hin : (q : Int) < (V.length : Int) := by omega
      have hin0 : (0 : Int) ≤ (q : Int) := by omega
      by_cases hz : z < 1099511627776
      · have hzd : decide (1099511627776 ≤ z) = false := by simp; omega
        go_wp2
        go_roundw
        case rel => exact ⟨q + 1, by omega, by go_num, fun n hn => by rw [HTK.out] at hn; rcases List.mem_append.1 hn with hn | hn; exact HLW.out n hn; rw [List.mem_singleton.1 hn]; exact hz, rfl⟩
        case measure => simp [intOf]; omega
      · have hzd : decide (1099511627776 ≤ z) = true := by simp; omega
        go_wp2
        go_ret
        exact says rfl HB10.out
    · obtain rfl : q = V.length := by omega
      have hin : decide ((V.length : Int) < (V.length : Int)) = false := by simp
      have HLV : Hid (∀ n, n ∈ occT X ∨ n ∈ occT Y → n < 1099511627776) := Lib.hid fun n hn => HLW.out n (by rw [List.take_length]; exact HOC.out n hn)
      obtain ⟨x0, x1, x2, x3⟩ := row4 HRX10.out
      obtain ⟨y0, y1, y2, y3⟩ := row4 HRY10.out
      clear HQ HOC HLW hql
      have hce := compE_len X Y
      have hrn := compE_ren hy.1 X Y HM1.out HM2.out
      obtain ⟨C, E, hCE⟩ : ∃ C E, compE X Y = (C, E) := ⟨_, _, rfl⟩
      rw [hCE] at hce hrn
      have HCE := Lib.hid hCE
      have HRN := Lib.hid hrn
      have HLC : Hid (C.l.length ≤ 1000000) := Lib.hid (by have : C.l.length ≤ 20000 := hce; omega)
      clear hce hrn hCE
      go_wp2_with fail
      refine (go_Compile_to HCE.out _ _ _ _ _ (by omega) (by omega) HX10.out HY10.out).mono ?_
      rintro e11 w11 ⟨ca, ck, rfl, hi11, hb11⟩
      have HI11 := Lib.hid hi11
      have HB11 := Lib.hid hb11
      have hb12 := below_new w11 (codO C ca ck)
      have hr12 := heap_alloc_new w11 (codO C ca ck)
      have hz12 : (w11.alloc (codO C ca ck)).drew.heap.size = w11.heap.size + 1 := by simp
      clear hi11 hb11 x0 x1 x2 x3 y0 y1 y2 y3
      go_wp2
      refine wp_region_rest (by kernel_rfl) ?_
      replace hb12 := hb12.drew
      replace hr12 : (w11.alloc (codO C ca ck)).drew.heap[w11.heap.size]? = some (codO C ca ck) := hr12
      simp only [codO] at hb12 hr12 hz12
      generalize (w11.alloc (.cells #[.string C.name, .int .i64 C.args, .int .i64 C.slots, .int .i64 C.body, .slice ca C.l.length ck] 51 (0, 0))).drew = W0 at *
      have hb110 := HB11.out.trans (hb12.mono HB11.out.size)
      have HX := Lib.hid (HX10.out.below hb110)
      have HY := Lib.hid (HY10.out.below hb110)
      have HRX := Lib.hid ((hb110.block w5.heap.size (by have := HZ10.out; omega)).trans HRX10.out)
      have HRY := Lib.hid ((hb110.block (w5.heap.size + 1) (by have := HZ10.out; omega)).trans HRY10.out)
      have HR := Lib.hid ((hb110.block w.heap.size (by have := HZ10.out; have := HZ5.out; have := HZ1.out; omega)).trans HR10.out)
      have HF := Lib.hid ((hb110.block w1.heap.size (by have := HZ10.out; have := HZ5.out; omega)).trans HF10.out)
      have HI := Lib.hid (HI11.out.below hb12)
      have HRC := Lib.hid hr12
      have HZW : Hid (w5.heap.size + 2 ≤ W0.heap.size ∧ w11.heap.size < W0.heap.size) := Lib.hid (by have := hb110.size; have := HZ10.out; omega)
      have HBW := Lib.hid (HB10.out.trans (hb110.mono HB10.out.size))
      clear hb12 hr12 hz12 hb110 HX10 HY10 HRX10 HRY10 HR10 HF10 HI11 HB11 HB10 HZ10
      have lt1 : w1.heap.size < W0.heap.size := by have := HZW.out.1; have := HZ5.out; omega
      have lt5 : w5.heap.size < W0.heap.size := by have := HZW.out.1; omega
      have lt6 : w5.heap.size + 1 < W0.heap.size := by have := HZW.out.1; omega
      refine rest_chainP (fun u => Below W0.heap.size W0 u) 0 12 (.soft 0 (.soft 1 (.soft 3 (.soft 4 (.two 2 10 (.two 5 10 (.two 6 10 (.soft 7 (.soft 8 (.soft 9 (.one 10 (.one 11 .nil))))) (.one 6 (.soft 7 (.soft 8 (.soft 9 (.one 11 .nil)))))) (.one 5 (.one 6 (.soft 7 (.soft 8 (.soft 9 (.one 11 .nil))))))) (.one 2 (.one 5 (.one 6 (.soft 7 (.soft 8 (.soft 9 (.one 11 .nil)))))))))))) (.soft _ (.soft _ (.soft _ (.soft _ (.two _ _ (.two _ _ (.two _ _ (.soft _ (.soft _ (.soft _ (.one _ (.one _ .nil))))) (.one _ (.soft _ (.soft _ (.soft _ (.one _ .nil)))))) (.one _ (.one _ (.soft _ (.soft _ (.soft _ (.one _ .nil))))))) (.one _ (.one _ (.one _ (.soft _ (.soft _ (.soft _ (.one _ .nil)))))))))))) ⟨rfl, ⟨rfl, ⟨rfl, ⟨rfl, ⟨rfl, rfl, ⟨rfl, rfl, ⟨rfl, rfl, ⟨rfl, ⟨rfl, ⟨rfl, ⟨rfl, ⟨rfl, trivial⟩⟩⟩⟩⟩, ⟨rfl, ⟨rfl, ⟨rfl, ⟨rfl, ⟨rfl, trivial⟩⟩⟩⟩⟩⟩, ⟨rfl, ⟨rfl, ⟨rfl, ⟨rfl, ⟨rfl, ⟨rfl, trivial⟩⟩⟩⟩⟩⟩⟩, ⟨rfl, ⟨rfl, ⟨rfl, ⟨rfl, ⟨rfl, ⟨rfl, ⟨rfl, trivial⟩⟩⟩⟩⟩⟩⟩⟩⟩⟩⟩⟩ (by kernel_rfl) (by kernel_rfl) (by kernel_rfl) (by kernel_rfl) (.inr (by kernel_rfl)) (Below.refl _ _) ?_
      refine chainP_soft (a1 := ?ma1) (by kernel_rfl) (by kernel_rfl) ?mh1 ?mr1
      case mh1 =>
        intro u hu E hE
        have f0 := cell_of_row u w1.heap.size 0 _ _ _ ((hu.block w1.heap.size lt1).trans HF.out)
        go_wp2
        rfl
      refine chainP_soft (a1 := ?ma2) (by kernel_rfl) (by kernel_rfl) ?mh2 ?mr2
      case mh2 =>
        intro u hu E hE
        obtain ⟨x0, x1, x2, x3⟩ := row4 ((hu.block w5.heap.size lt5).trans HRX.out)
        go_wp2
        rfl
      refine chainP_soft (a1 := ?ma3) (by kernel_rfl) (by kernel_rfl) ?mh3 ?mr3
      case mh3 =>
        intro u hu E hE
        have f0 := cell_of_row u w1.heap.size 0 _ _ _ ((hu.block w1.heap.size lt1).trans HF.out)
        go_wp2
        rfl
      refine chainP_soft (a1 := ?ma4) (by kernel_rfl) (by kernel_rfl) ?mh4 ?mr4
      case mh4 =>
        intro u hu E hE
        obtain ⟨x0, x1, x2, x3⟩ := row4 ((hu.block (w5.heap.size + 1) lt6).trans HRY.out)
        go_wp2
        rfl
      have lt0 : w.heap.size < W0.heap.size := by have := HZW.out.1; have := HZ5.out; have := HZ1.out; omega
      have HU0 : Hid (Below W0.heap.size W0 W0) := Lib.hid (Below.refl _ _)
      -- PLAN
      refine chainP_two ?_ ?_
      · intro E hE
        go_wp2_with (go_at_call 30
                     refine (go_rename w1.heap.size w.heap.size y hy X.size X _ _ _ (Nat.le_refl _) (by omega) HM1.out (fun n hn => HLV.out n (.inl hn)) (HX.out.below HU0.out) ((HU0.out.block w1.heap.size lt1).trans HF.out) ((HU0.out.block w.heap.size lt0).trans HR.out)).mono ?_
                     rintro e u1_ ⟨va1, rfl, hia1, hba1⟩
                     obtain ⟨qA, nA, rfl⟩ := hia1.form
                     have HT1 := Lib.hid hia1.any
                     have HB1 := Lib.hid hba1
                     clear hia1 hba1)
        have HU2 := Lib.hid (HU0.out.trans (HB1.out.mono HU0.out.size))
        have HIA2 := HT1
        refine ⟨HU2.out, ?_⟩
        refine chainP_two ?_ ?_
        · intro E hE
          go_wp2_with (go_at_call 30
                       refine (go_rename w1.heap.size w.heap.size y hy Y.size Y _ _ _ (Nat.le_refl _) (by omega) HM2.out (fun n hn => HLV.out n (.inr hn)) (HY.out.below HU2.out) ((HU2.out.block w1.heap.size lt1).trans HF.out) ((HU2.out.block w.heap.size lt0).trans HR.out)).mono ?_
                       rintro e u3_ ⟨va3, rfl, hia3, hba3⟩
                       obtain ⟨qB, nB, rfl⟩ := hia3.form
                       have HT3 := Lib.hid hia3.any
                       have HB3 := Lib.hid hba3
                       clear hia3 hba3)
          have HU4 := Lib.hid (HU2.out.trans (HB3.out.mono HU2.out.size))
          have HIA4 := Lib.hid (HIA2.out.below HB3.out)
          have HIB4 := HT3
          refine ⟨HU4.out, ?_⟩
          refine chainP_two ?_ ?_
          · intro E hE
            go_wp2_with (go_at_call 33
                         refine (go_Compile_to HRN.out _ _ _ _ _ (by rw [renT_size]; omega) (by rw [renT_size]; omega) HIA4.out HIB4.out).mono ?_
                         rintro e u5_ ⟨qC, nC, rfl, hic5, hbc5⟩
                         have HT5 := Lib.hid hic5
                         have HB5 := Lib.hid hbc5
                         clear hic5 hbc5)
            have HU6 := Lib.hid (HU4.out.trans (HB5.out.mono HU4.out.size))
            have HIA6 := Lib.hid (HIA4.out.below HB5.out)
            have HIB6 := Lib.hid (HIB4.out.below HB5.out)
            have HIC6 := HT5
            refine ⟨HU6.out, ?_⟩
            refine chainP_soft (a1 := ?ma5) (by kernel_rfl) (by kernel_rfl) ?mh5 ?mr5
            case mh5 =>
              intro u hu E hE
              go_wp2
              rfl
            refine chainP_soft (a1 := ?ma6) (by kernel_rfl) (by kernel_rfl) ?mh6 ?mr6
            case mh6 =>
              intro u hu E hE
              go_wp2
              rfl
            refine chainP_soft (a1 := ?ma7) (by kernel_rfl) (by kernel_rfl) ?mh7 ?mr7
            case mh7 =>
              intro u hu E hE
              go_wp2
              rfl
            refine chainP_one ?_
            intro E hE
            go_wp2
            have hb7 := below_new u5_ (.cells zero5 51 (0, 0))
            have hg7 := heap_alloc_new u5_ (.cells zero5 51 (0, 0))
            simp only [zero5] at hb7 hg7
            generalize u5_.alloc (.cells #[.string ⟨#[]⟩, .int .i64 0, .int .i64 0, .int .i64 0, .slice none 0 0] 51 (0, 0)) = u7_ at *
            have HU8 := Lib.hid (HU6.out.trans (hb7.mono HU6.out.size))
            have HIA8 := Lib.hid (HIA6.out.below hb7)
            have HIB8 := Lib.hid (HIB6.out.below hb7)
            have HIC8 := Lib.hid (HIC6.out.below hb7)
            have HG8 := Lib.hid hg7
            have hgl : W0.heap.size ≤ u5_.heap.size := HU6.out.size
            clear hb7 hg7
            refine ⟨HU8.out, ?_⟩
            refine chainP_one ?_
            intro E hE
            refine wpList_store_row rfl 51 (.tmp 14) (.tmp 56) rfl (u5_.heap.size) #[.string C.name, .int .i64 C.args, .int .i64 C.slots, .int .i64 C.body, .slice qC C.l.length nC] rfl rfl _ _ HG8.out size_code rfl (one5 _ _ _ _ _ _ _) ?_
            have HUF := Lib.hid (below_setRow HU8.out hgl (#[.string C.name, .int .i64 C.args, .int .i64 C.slots, .int .i64 C.body, .slice qC C.l.length nC] : Array Value))
            have HGF := Lib.hid (setRow_heap u7_ (u5_.heap.size) _ (#[.string C.name, .int .i64 C.args, .int .i64 C.slots, .int .i64 C.body, .slice qC C.l.length nC] : Array Value) _ _ HG8.out)
            have HICF := Lib.hid (insSl_setRow HG8.out HIC8.out (#[.string C.name, .int .i64 C.args, .int .i64 C.slots, .int .i64 C.body, .slice qC C.l.length nC] : Array Value))
            generalize u7_.setRow (u5_.heap.size) #[.string C.name, .int .i64 C.args, .int .i64 C.slots, .int .i64 C.body, .slice qC C.l.length nC] = UF at *
            refine hE _ _ ⟨HUF.out, ?_⟩
            refine chainP_nil ?_
            have ltg : u5_.heap.size < UF.heap.size := (Array.getElem?_eq_some_iff.1 HGF.out).1
            clear hgl
            refine rest_lineL 12 13 [_] rfl (by kernel_rfl) (by decide) (by decide) (by kernel_rfl) ?_
            go_wp2
            refine then_rest (rest_end (by decide) ?_)
            go_wp2
            refine wp_region_rest (by kernel_rfl) ?_
            have hdr : Below UF.heap.size UF UF.drew := (Below.refl _ _).drew
            have hrg := (hdr.block u5_.heap.size ltg).trans HGF.out
            have hrc := (hdr.block w11.heap.size (by have := HUF.out.size; have := HZW.out.2; omega)).trans ((HUF.out.block w11.heap.size HZW.out.2).trans HRC.out)
            have HIE := Lib.hid ((HI.out.below HUF.out).below hdr)
            have HIG := Lib.hid (HICF.out.below hdr)
            have HBE := Lib.hid (HBW.out.trans ((HUF.out.trans (hdr.mono HUF.out.size)).mono HBW.out.size))
            generalize UF.drew = UG at *
            obtain ⟨x0, x1, x2, x3, x4⟩ := row5 hrc
            obtain ⟨y0, y1, y2, y3, y4⟩ := row5 hrg
            clear hdr hrg hrc
            refine rest_chain 0 11 [(false, [0, 1, 2, 3, 4, 6]), (true, [5]), (true, [7]), (true, [8]), (false, [9, 10])] [(false, [_, _, _, _, _, _]), (true, [_]), (true, [_]), (true, [_]), (false, [_, _])] rfl (by kernel_rfl) (by kernel_rfl) rfl (by kernel_rfl) (by kernel_rfl) (.inl rfl) ?_
            refine chain_soft ?_
            intro E hE
            go_wp2
            clear x0 x1 x2 x3 x4 y0 y1 y2 y3 y4
            refine chain_one ?_
            intro E hE
            go_wp2_with (go_at_call 35
                         refine (from_any C _ _ HIE.out HLC.out).mono ?_
                         rintro e wf ⟨vf, rfl, hif, hbf⟩
                         obtain ⟨af, kf, rfl⟩ := hif.form
                         have HIF := Lib.hid hif
                         have HBF := Lib.hid hbf
                         clear hif hbf
                         simp only [codVal])
            refine ⟨HBF.out, ?_⟩
            refine chain_one ?_
            intro E hE
            go_wp2_with (go_at_call 35
                         refine (from_any C _ _ (HIG.out.below HBF.out) HLC.out).mono ?_
                         rintro e wh ⟨vh, rfl, hih, hbh⟩
                         obtain ⟨ah, kh, rfl⟩ := hih.form
                         have HIH := Lib.hid hih
                         have HBH := Lib.hid hbh
                         clear hih hbh
                         simp only [codVal])
            refine ⟨HBH.out, ?_⟩
            refine chain_one ?_
            intro E hE
            go_wp2_with (go_at_call 34
                         refine (Cod.ref_same C _ _ _ (HIF.out.below HBH.out) HIH.out HLC.out).mono ?_
                         rintro e wk ⟨rfl, hbk⟩
                         have HBK := Lib.hid hbk
                         clear hbk)
            refine ⟨HBK.out, ?_⟩
            refine chain_soft ?_
            intro E hE
            go_wp2
            refine chain_nil (rest_end (by decide) ?_)
            go_wp2
            go_ret
            exact says rfl (HBE.out.trans ((HBF.out.trans ((HBH.out.trans (HBK.out.mono HBH.out.size)).mono HBF.out.size)).mono HBE.out.size))
          · intro E hE
            go_wp2
            have hb10 := below_new u3_ (.cells zero5 51 (0, 0))
            have hg10 := heap_alloc_new u3_ (.cells zero5 51 (0, 0))
            simp only [zero5] at hb10 hg10
            generalize u3_.alloc (.cells #[.string ⟨#[]⟩, .int .i64 0, .int .i64 0, .int .i64 0, .slice none 0 0] 51 (0, 0)) = u10_ at *
            have HU11 := Lib.hid (HU4.out.trans (hb10.mono HU4.out.size))
            have HIA11 := Lib.hid (HIA4.out.below hb10)
            have HIB11 := Lib.hid (HIB4.out.below hb10)
            have HG11 := Lib.hid hg10
            have hgl : W0.heap.size ≤ u3_.heap.size := HU4.out.size
            clear hb10 hg10
            refine ⟨HU11.out, ?_⟩
            refine chainP_one ?_
            intro E hE
            go_wp2_with (go_at_call 33
                         refine (go_Compile_to HRN.out _ _ _ _ _ (by rw [renT_size]; omega) (by rw [renT_size]; omega) HIA11.out HIB11.out).mono ?_
                         rintro e u12_ ⟨qC, nC, rfl, hic12, hbc12⟩
                         have HT12 := Lib.hid hic12
                         have HB12 := Lib.hid hbc12
                         clear hic12 hbc12)
            have HU13 := Lib.hid (HU11.out.trans (HB12.out.mono HU11.out.size))
            have HIA13 := Lib.hid (HIA11.out.below HB12.out)
            have HIB13 := Lib.hid (HIB11.out.below HB12.out)
            have HG13 := Lib.hid ((HB12.out.block u3_.heap.size (Array.getElem?_eq_some_iff.1 HG11.out).1).trans HG11.out)
            have HIC13 := HT12
            refine ⟨HU13.out, ?_⟩
            refine chainP_soft (a1 := ?ma8) (by kernel_rfl) (by kernel_rfl) ?mh8 ?mr8
            case mh8 =>
              intro u hu E hE
              go_wp2
              rfl
            refine chainP_soft (a1 := ?ma9) (by kernel_rfl) (by kernel_rfl) ?mh9 ?mr9
            case mh9 =>
              intro u hu E hE
              go_wp2
              rfl
            refine chainP_soft (a1 := ?ma10) (by kernel_rfl) (by kernel_rfl) ?mh10 ?mr10
            case mh10 =>
              intro u hu E hE
              go_wp2
              rfl
            refine chainP_one ?_
            intro E hE
            refine wpList_store_row rfl 51 (.tmp 14) (.tmp 56) rfl (u3_.heap.size) #[.string C.name, .int .i64 C.args, .int .i64 C.slots, .int .i64 C.body, .slice qC C.l.length nC] rfl rfl _ _ HG13.out size_code rfl (one5 _ _ _ _ _ _ _) ?_
            have HUF := Lib.hid (below_setRow HU13.out hgl (#[.string C.name, .int .i64 C.args, .int .i64 C.slots, .int .i64 C.body, .slice qC C.l.length nC] : Array Value))
            have HGF := Lib.hid (setRow_heap u12_ (u3_.heap.size) _ (#[.string C.name, .int .i64 C.args, .int .i64 C.slots, .int .i64 C.body, .slice qC C.l.length nC] : Array Value) _ _ HG13.out)
            have HICF := Lib.hid (insSl_setRow HG13.out HIC13.out (#[.string C.name, .int .i64 C.args, .int .i64 C.slots, .int .i64 C.body, .slice qC C.l.length nC] : Array Value))
            generalize u12_.setRow (u3_.heap.size) #[.string C.name, .int .i64 C.args, .int .i64 C.slots, .int .i64 C.body, .slice qC C.l.length nC] = UF at *
            refine hE _ _ ⟨HUF.out, ?_⟩
            refine chainP_nil ?_
            have ltg : u3_.heap.size < UF.heap.size := (Array.getElem?_eq_some_iff.1 HGF.out).1
            clear hgl
            refine rest_lineL 12 13 [_] rfl (by kernel_rfl) (by decide) (by decide) (by kernel_rfl) ?_
            go_wp2
            refine then_rest (rest_end (by decide) ?_)
            go_wp2
            refine wp_region_rest (by kernel_rfl) ?_
            have hdr : Below UF.heap.size UF UF.drew := (Below.refl _ _).drew
            have hrg := (hdr.block u3_.heap.size ltg).trans HGF.out
            have hrc := (hdr.block w11.heap.size (by have := HUF.out.size; have := HZW.out.2; omega)).trans ((HUF.out.block w11.heap.size HZW.out.2).trans HRC.out)
            have HIE := Lib.hid ((HI.out.below HUF.out).below hdr)
            have HIG := Lib.hid (HICF.out.below hdr)
            have HBE := Lib.hid (HBW.out.trans ((HUF.out.trans (hdr.mono HUF.out.size)).mono HBW.out.size))
            generalize UF.drew = UG at *
            obtain ⟨x0, x1, x2, x3, x4⟩ := row5 hrc
            obtain ⟨y0, y1, y2, y3, y4⟩ := row5 hrg
            clear hdr hrg hrc
            refine rest_chain 0 11 [(false, [0, 1, 2, 3, 4, 6]), (true, [5]), (true, [7]), (true, [8]), (false, [9, 10])] [(false, [_, _, _, _, _, _]), (true, [_]), (true, [_]), (true, [_]), (false, [_, _])] rfl (by kernel_rfl) (by kernel_rfl) rfl (by kernel_rfl) (by kernel_rfl) (.inl rfl) ?_
            refine chain_soft ?_
            intro E hE
            go_wp2
            clear x0 x1 x2 x3 x4 y0 y1 y2 y3 y4
            refine chain_one ?_
            intro E hE
            go_wp2_with (go_at_call 35
                         refine (from_any C _ _ HIE.out HLC.out).mono ?_
                         rintro e wf ⟨vf, rfl, hif, hbf⟩
                         obtain ⟨af, kf, rfl⟩ := hif.form
                         have HIF := Lib.hid hif
                         have HBF := Lib.hid hbf
                         clear hif hbf
                         simp only [codVal])
            refine ⟨HBF.out, ?_⟩
            refine chain_one ?_
            intro E hE
            go_wp2_with (go_at_call 35
                         refine (from_any C _ _ (HIG.out.below HBF.out) HLC.out).mono ?_
                         rintro e wh ⟨vh, rfl, hih, hbh⟩
                         obtain ⟨ah, kh, rfl⟩ := hih.form
                         have HIH := Lib.hid hih
                         have HBH := Lib.hid hbh
                         clear hih hbh
                         simp only [codVal])
            refine ⟨HBH.out, ?_⟩
            refine chain_one ?_
            intro E hE
            go_wp2_with (go_at_call 34
                         refine (Cod.ref_same C _ _ _ (HIF.out.below HBH.out) HIH.out HLC.out).mono ?_
                         rintro e wk ⟨rfl, hbk⟩
                         have HBK := Lib.hid hbk
                         clear hbk)
            refine ⟨HBK.out, ?_⟩
            refine chain_soft ?_
            intro E hE
            go_wp2
            refine chain_nil (rest_end (by decide) ?_)
            go_wp2
            go_ret
            exact says rfl (HBE.out.trans ((HBF.out.trans ((HBH.out.trans (HBK.out.mono HBH.out.size)).mono HBF.out.size)).mono HBE.out.size))
        · intro E hE
          go_wp2
          have hb15 := below_new u1_ (.cells zero5 51 (0, 0))
          have hg15 := heap_alloc_new u1_ (.cells zero5 51 (0, 0))
          simp only [zero5] at hb15 hg15
          generalize u1_.alloc (.cells #[.string ⟨#[]⟩, .int .i64 0, .int .i64 0, .int .i64 0, .slice none 0 0] 51 (0, 0)) = u15_ at *
          have HU16 := Lib.hid (HU2.out.trans (hb15.mono HU2.out.size))
          have HIA16 := Lib.hid (HIA2.out.below hb15)
          have HG16 := Lib.hid hg15
          have hgl : W0.heap.size ≤ u1_.heap.size := HU2.out.size
          clear hb15 hg15
          refine ⟨HU16.out, ?_⟩
          refine chainP_one ?_
          intro E hE
          go_wp2_with (go_at_call 30
                       refine (go_rename w1.heap.size w.heap.size y hy Y.size Y _ _ _ (Nat.le_refl _) (by omega) HM2.out (fun n hn => HLV.out n (.inr hn)) (HY.out.below HU16.out) ((HU16.out.block w1.heap.size lt1).trans HF.out) ((HU16.out.block w.heap.size lt0).trans HR.out)).mono ?_
                       rintro e u17_ ⟨va17, rfl, hia17, hba17⟩
                       obtain ⟨qB, nB, rfl⟩ := hia17.form
                       have HT17 := Lib.hid hia17.any
                       have HB17 := Lib.hid hba17
                       clear hia17 hba17)
          have HU18 := Lib.hid (HU16.out.trans (HB17.out.mono HU16.out.size))
          have HIA18 := Lib.hid (HIA16.out.below HB17.out)
          have HG18 := Lib.hid ((HB17.out.block u1_.heap.size (Array.getElem?_eq_some_iff.1 HG16.out).1).trans HG16.out)
          have HIB18 := HT17
          refine ⟨HU18.out, ?_⟩
          refine chainP_one ?_
          intro E hE
          go_wp2_with (go_at_call 33
                       refine (go_Compile_to HRN.out _ _ _ _ _ (by rw [renT_size]; omega) (by rw [renT_size]; omega) HIA18.out HIB18.out).mono ?_
                       rintro e u19_ ⟨qC, nC, rfl, hic19, hbc19⟩
                       have HT19 := Lib.hid hic19
                       have HB19 := Lib.hid hbc19
                       clear hic19 hbc19)
          have HU20 := Lib.hid (HU18.out.trans (HB19.out.mono HU18.out.size))
          have HIA20 := Lib.hid (HIA18.out.below HB19.out)
          have HIB20 := Lib.hid (HIB18.out.below HB19.out)
          have HG20 := Lib.hid ((HB19.out.block u1_.heap.size (Array.getElem?_eq_some_iff.1 HG18.out).1).trans HG18.out)
          have HIC20 := HT19
          refine ⟨HU20.out, ?_⟩
          refine chainP_soft (a1 := ?ma11) (by kernel_rfl) (by kernel_rfl) ?mh11 ?mr11
          case mh11 =>
            intro u hu E hE
            go_wp2
            rfl
          refine chainP_soft (a1 := ?ma12) (by kernel_rfl) (by kernel_rfl) ?mh12 ?mr12
          case mh12 =>
            intro u hu E hE
            go_wp2
            rfl
          refine chainP_soft (a1 := ?ma13) (by kernel_rfl) (by kernel_rfl) ?mh13 ?mr13
          case mh13 =>
            intro u hu E hE
            go_wp2
            rfl
          refine chainP_one ?_
          intro E hE
          refine wpList_store_row rfl 51 (.tmp 14) (.tmp 56) rfl (u1_.heap.size) #[.string C.name, .int .i64 C.args, .int .i64 C.slots, .int .i64 C.body, .slice qC C.l.length nC] rfl rfl _ _ HG20.out size_code rfl (one5 _ _ _ _ _ _ _) ?_
          have HUF := Lib.hid (below_setRow HU20.out hgl (#[.string C.name, .int .i64 C.args, .int .i64 C.slots, .int .i64 C.body, .slice qC C.l.length nC] : Array Value))
          have HGF := Lib.hid (setRow_heap u19_ (u1_.heap.size) _ (#[.string C.name, .int .i64 C.args, .int .i64 C.slots, .int .i64 C.body, .slice qC C.l.length nC] : Array Value) _ _ HG20.out)
          have HICF := Lib.hid (insSl_setRow HG20.out HIC20.out (#[.string C.name, .int .i64 C.args, .int .i64 C.slots, .int .i64 C.body, .slice qC C.l.length nC] : Array Value))
          generalize u19_.setRow (u1_.heap.size) #[.string C.name, .int .i64 C.args, .int .i64 C.slots, .int .i64 C.body, .slice qC C.l.length nC] = UF at *
          refine hE _ _ ⟨HUF.out, ?_⟩
          refine chainP_nil ?_
          have ltg : u1_.heap.size < UF.heap.size := (Array.getElem?_eq_some_iff.1 HGF.out).1
          clear hgl
          refine rest_lineL 12 13 [_] rfl (by kernel_rfl) (by decide) (by decide) (by kernel_rfl) ?_
          go_wp2
          refine then_rest (rest_end (by decide) ?_)
          go_wp2
          refine wp_region_rest (by kernel_rfl) ?_
          have hdr : Below UF.heap.size UF UF.drew := (Below.refl _ _).drew
          have hrg := (hdr.block u1_.heap.size ltg).trans HGF.out
          have hrc := (hdr.block w11.heap.size (by have := HUF.out.size; have := HZW.out.2; omega)).trans ((HUF.out.block w11.heap.size HZW.out.2).trans HRC.out)
          have HIE := Lib.hid ((HI.out.below HUF.out).below hdr)
          have HIG := Lib.hid (HICF.out.below hdr)
          have HBE := Lib.hid (HBW.out.trans ((HUF.out.trans (hdr.mono HUF.out.size)).mono HBW.out.size))
          generalize UF.drew = UG at *
          obtain ⟨x0, x1, x2, x3, x4⟩ := row5 hrc
          obtain ⟨y0, y1, y2, y3, y4⟩ := row5 hrg
          clear hdr hrg hrc
          refine rest_chain 0 11 [(false, [0, 1, 2, 3, 4, 6]), (true, [5]), (true, [7]), (true, [8]), (false, [9, 10])] [(false, [_, _, _, _, _, _]), (true, [_]), (true, [_]), (true, [_]), (false, [_, _])] rfl (by kernel_rfl) (by kernel_rfl) rfl (by kernel_rfl) (by kernel_rfl) (.inl rfl) ?_
          refine chain_soft ?_
          intro E hE
          go_wp2
          clear x0 x1 x2 x3 x4 y0 y1 y2 y3 y4
          refine chain_one ?_
          intro E hE
          go_wp2_with (go_at_call 35
                       refine (from_any C _ _ HIE.out HLC.out).mono ?_
                       rintro e wf ⟨vf, rfl, hif, hbf⟩
                       obtain ⟨af, kf, rfl⟩ := hif.form
                       have HIF := Lib.hid hif
                       have HBF := Lib.hid hbf
                       clear hif hbf
                       simp only [codVal])
          refine ⟨HBF.out, ?_⟩
          refine chain_one ?_
          intro E hE
          go_wp2_with (go_at_call 35
                       refine (from_any C _ _ (HIG.out.below HBF.out) HLC.out).mono ?_
                       rintro e wh ⟨vh, rfl, hih, hbh⟩
                       obtain ⟨ah, kh, rfl⟩ := hih.form
                       have HIH := Lib.hid hih
                       have HBH := Lib.hid hbh
                       clear hih hbh
                       simp only [codVal])
          refine ⟨HBH.out, ?_⟩
          refine chain_one ?_
          intro E hE
          go_wp2_with (go_at_call 34
                       refine (Cod.ref_same C _ _ _ (HIF.out.below HBH.out) HIH.out HLC.out).mono ?_
                       rintro e wk ⟨rfl, hbk⟩
                       have HBK := Lib.hid hbk
                       clear hbk)
          refine ⟨HBK.out, ?_⟩
          refine chain_soft ?_
          intro E hE
          go_wp2
          refine chain_nil (rest_end (by decide) ?_)
          go_wp2
          go_ret
          exact says rfl (HBE.out.trans ((HBF.out.trans ((HBH.out.trans (HBK.out.mono HBH.out.size)).mono HBF.out.size)).mono HBE.out.size))
      · intro E hE
        go_wp2
        have hb22 := below_new W0 (.cells zero5 51 (0, 0))
        have hg22 := heap_alloc_new W0 (.cells zero5 51 (0, 0))
        simp only [zero5] at hb22 hg22
        generalize W0.alloc (.cells #[.string ⟨#[]⟩, .int .i64 0, .int .i64 0, .int .i64 0, .slice none 0 0] 51 (0, 0)) = u22_ at *
        have HU23 := Lib.hid (HU0.out.trans (hb22.mono HU0.out.size))
        have HG23 := Lib.hid hg22
        have hgl : W0.heap.size ≤ W0.heap.size := HU0.out.size
        clear hb22 hg22
        refine ⟨HU23.out, ?_⟩
        refine chainP_one ?_
        intro E hE
        go_wp2_with (go_at_call 30
                     refine (go_rename w1.heap.size w.heap.size y hy X.size X _ _ _ (Nat.le_refl _) (by omega) HM1.out (fun n hn => HLV.out n (.inl hn)) (HX.out.below HU23.out) ((HU23.out.block w1.heap.size lt1).trans HF.out) ((HU23.out.block w.heap.size lt0).trans HR.out)).mono ?_
                     rintro e u24_ ⟨va24, rfl, hia24, hba24⟩
                     obtain ⟨qA, nA, rfl⟩ := hia24.form
                     have HT24 := Lib.hid hia24.any
                     have HB24 := Lib.hid hba24
                     clear hia24 hba24)
        have HU25 := Lib.hid (HU23.out.trans (HB24.out.mono HU23.out.size))
        have HG25 := Lib.hid ((HB24.out.block W0.heap.size (Array.getElem?_eq_some_iff.1 HG23.out).1).trans HG23.out)
        have HIA25 := HT24
        refine ⟨HU25.out, ?_⟩
        refine chainP_one ?_
        intro E hE
        go_wp2_with (go_at_call 30
                     refine (go_rename w1.heap.size w.heap.size y hy Y.size Y _ _ _ (Nat.le_refl _) (by omega) HM2.out (fun n hn => HLV.out n (.inr hn)) (HY.out.below HU25.out) ((HU25.out.block w1.heap.size lt1).trans HF.out) ((HU25.out.block w.heap.size lt0).trans HR.out)).mono ?_
                     rintro e u26_ ⟨va26, rfl, hia26, hba26⟩
                     obtain ⟨qB, nB, rfl⟩ := hia26.form
                     have HT26 := Lib.hid hia26.any
                     have HB26 := Lib.hid hba26
                     clear hia26 hba26)
        have HU27 := Lib.hid (HU25.out.trans (HB26.out.mono HU25.out.size))
        have HIA27 := Lib.hid (HIA25.out.below HB26.out)
        have HG27 := Lib.hid ((HB26.out.block W0.heap.size (Array.getElem?_eq_some_iff.1 HG25.out).1).trans HG25.out)
        have HIB27 := HT26
        refine ⟨HU27.out, ?_⟩
        refine chainP_one ?_
        intro E hE
        go_wp2_with (go_at_call 33
                     refine (go_Compile_to HRN.out _ _ _ _ _ (by rw [renT_size]; omega) (by rw [renT_size]; omega) HIA27.out HIB27.out).mono ?_
                     rintro e u28_ ⟨qC, nC, rfl, hic28, hbc28⟩
                     have HT28 := Lib.hid hic28
                     have HB28 := Lib.hid hbc28
                     clear hic28 hbc28)
        have HU29 := Lib.hid (HU27.out.trans (HB28.out.mono HU27.out.size))
        have HIA29 := Lib.hid (HIA27.out.below HB28.out)
        have HIB29 := Lib.hid (HIB27.out.below HB28.out)
        have HG29 := Lib.hid ((HB28.out.block W0.heap.size (Array.getElem?_eq_some_iff.1 HG27.out).1).trans HG27.out)
        have HIC29 := HT28
        refine ⟨HU29.out, ?_⟩
        refine chainP_soft (a1 := ?ma14) (by kernel_rfl) (by kernel_rfl) ?mh14 ?mr14
        case mh14 =>
          intro u hu E hE
          go_wp2
          rfl
        refine chainP_soft (a1 := ?ma15) (by kernel_rfl) (by kernel_rfl) ?mh15 ?mr15
        case mh15 =>
          intro u hu E hE
          go_wp2
          rfl
        refine chainP_soft (a1 := ?ma16) (by kernel_rfl) (by kernel_rfl) ?mh16 ?mr16
        case mh16 =>
          intro u hu E hE
          go_wp2
          rfl
        refine chainP_one ?_
        intro E hE
        refine wpList_store_row rfl 51 (.tmp 14) (.tmp 56) rfl (W0.heap.size) #[.string C.name, .int .i64 C.args, .int .i64 C.slots, .int .i64 C.body, .slice qC C.l.length nC] rfl rfl _ _ HG29.out size_code rfl (one5 _ _ _ _ _ _ _) ?_
        have HUF := Lib.hid (below_setRow HU29.out hgl (#[.string C.name, .int .i64 C.args, .int .i64 C.slots, .int .i64 C.body, .slice qC C.l.length nC] : Array Value))
        have HGF := Lib.hid (setRow_heap u28_ (W0.heap.size) _ (#[.string C.name, .int .i64 C.args, .int .i64 C.slots, .int .i64 C.body, .slice qC C.l.length nC] : Array Value) _ _ HG29.out)
        have HICF := Lib.hid (insSl_setRow HG29.out HIC29.out (#[.string C.name, .int .i64 C.args, .int .i64 C.slots, .int .i64 C.body, .slice qC C.l.length nC] : Array Value))
        generalize u28_.setRow (W0.heap.size) #[.string C.name, .int .i64 C.args, .int .i64 C.slots, .int .i64 C.body, .slice qC C.l.length nC] = UF at *
        refine hE _ _ ⟨HUF.out, ?_⟩
        refine chainP_nil ?_
        have ltg : W0.heap.size < UF.heap.size := (Array.getElem?_eq_some_iff.1 HGF.out).1
        clear hgl
        refine rest_lineL 12 13 [_] rfl (by kernel_rfl) (by decide) (by decide) (by kernel_rfl) ?_
        go_wp2
        refine then_rest (rest_end (by decide) ?_)
        go_wp2
        refine wp_region_rest (by kernel_rfl) ?_
        have hdr : Below UF.heap.size UF UF.drew := (Below.refl _ _).drew
        have hrg := (hdr.block W0.heap.size ltg).trans HGF.out
        have hrc := (hdr.block w11.heap.size (by have := HUF.out.size; have := HZW.out.2; omega)).trans ((HUF.out.block w11.heap.size HZW.out.2).trans HRC.out)
        have HIE := Lib.hid ((HI.out.below HUF.out).below hdr)
        have HIG := Lib.hid (HICF.out.below hdr)
        have HBE := Lib.hid (HBW.out.trans ((HUF.out.trans (hdr.mono HUF.out.size)).mono HBW.out.size))
        generalize UF.drew = UG at *
        obtain ⟨x0, x1, x2, x3, x4⟩ := row5 hrc
        obtain ⟨y0, y1, y2, y3, y4⟩ := row5 hrg
        clear hdr hrg hrc
        refine rest_chain 0 11 [(false, [0, 1, 2, 3, 4, 6]), (true, [5]), (true, [7]), (true, [8]), (false, [9, 10])] [(false, [_, _, _, _, _, _]), (true, [_]), (true, [_]), (true, [_]), (false, [_, _])] rfl (by kernel_rfl) (by kernel_rfl) rfl (by kernel_rfl) (by kernel_rfl) (.inl rfl) ?_
        refine chain_soft ?_
        intro E hE
        go_wp2
        clear x0 x1 x2 x3 x4 y0 y1 y2 y3 y4
        refine chain_one ?_
        intro E hE
        go_wp2_with (go_at_call 35
                     refine (from_any C _ _ HIE.out HLC.out).mono ?_
                     rintro e wf ⟨vf, rfl, hif, hbf⟩
                     obtain ⟨af, kf, rfl⟩ := hif.form
                     have HIF := Lib.hid hif
                     have HBF := Lib.hid hbf
                     clear hif hbf
                     simp only [codVal])
        refine ⟨HBF.out, ?_⟩
        refine chain_one ?_
        intro E hE
        go_wp2_with (go_at_call 35
                     refine (from_any C _ _ (HIG.out.below HBF.out) HLC.out).mono ?_
                     rintro e wh ⟨vh, rfl, hih, hbh⟩
                     obtain ⟨ah, kh, rfl⟩ := hih.form
                     have HIH := Lib.hid hih
                     have HBH := Lib.hid hbh
                     clear hih hbh
                     simp only [codVal])
        refine ⟨HBH.out, ?_⟩
        refine chain_one ?_
        intro E hE
        go_wp2_with (go_at_call 34
                     refine (Cod.ref_same C _ _ _ (HIF.out.below HBH.out) HIH.out HLC.out).mono ?_
                     rintro e wk ⟨rfl, hbk⟩
                     have HBK := Lib.hid hbk
                     clear hbk)
        refine ⟨HBK.out, ?_⟩
        refine chain_soft ?_
        intro E hE
        go_wp2
        refine chain_nil (rest_end (by decide) ?_)
        go_wp2
        go_ret
        exact says rfl (HBE.out.trans ((HBF.out.trans ((HBH.out.trans (HBK.out.mono HBH.out.size)).mono HBF.out.size)).mono HBE.out.size))
      -- END
end Go.Proofs.Ytmlceamcpelklaa.Tms
