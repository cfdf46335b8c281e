
/-
  Layer 12: arith.Eval and Holds, walked over the program (printed by gen_ard.py).
-/
import Derived.Test.YtibjcfbilkkmkaaArc
import Derived.MapKept
namespace Go.Proofs.Ytibjcfbilkkmkaa.Tms
open Go Go.RowKit Go.Proofs.Ytibjcfbilkkmkaa.Reg Go.Proofs.Ytibjcfbilkkmkaa.Maps Go.Proofs.Ytibjcfbilkkmkaa.Num
set_option linter.unusedVariables false
set_option linter.unusedSimpArgs false

theorem eval_good {t : Tm} (h : fitT t) : Fit (evalT t).1 := by
  unfold evalT; split
  · exact fit_0
  · exact (ev_good t h).2
set_option maxRecDepth 100000 in
set_option maxHeartbeats 1000000 in
theorem go_Eval (t : Tm) (v : Value) (P : Nat → Prop) (w : World) (hM : t.size ≤ 1000000000) (hf : fitT t) (h : IsTm w P v t) : Calls Try.prog 20 #[v] w (EvPost (evalT t) w) := by
  obtain ⟨a, cap, rfl⟩ := h.form
  have hl := h.lt
  obtain ⟨t0, t1, tsz, tbl⟩ := two w (.cells #[.int .i64 t.k, .int .i64 t.n, .string t.s, .slice a t.args.length cap] 30 (0, 0)) (.cells #[.int .i64 0, .int .i64 0, .string ⟨#[]⟩, .slice none 0 0] 30 (0, 0))
  obtain ⟨x0, x1, x2, x3⟩ := row4 t0
  have HR0 := Lib.hid t0
  have HR1 := Lib.hid t1
  have HB := Lib.hid tbl
  have HT := Lib.hid (hl.below tbl)
  have HF := Lib.hid hf
  have hgz : w.heap.size + 1 < ((w.alloc (.cells #[.int .i64 t.k, .int .i64 t.n, .string t.s, .slice a t.args.length cap] 30 (0, 0))).alloc (.cells #[.int .i64 0, .int .i64 0, .string ⟨#[]⟩, .slice none 0 0] 30 (0, 0))).heap.size := by omega
  clear t0 t1 tbl tsz h hl hf
  go_enter Try.func20, Try.ntmps20
  go_wp2_with fail
  clear x0 x1 x2 x3
  generalize (w.alloc (.cells #[.int .i64 t.k, .int .i64 t.n, .string t.s, .slice a t.args.length cap] 30 (0, 0))).alloc (.cells #[.int .i64 0, .int .i64 0, .string ⟨#[]⟩, .slice none 0 0] 30 (0, 0)) = W at *
  refine (tm_Check t _ _ _ hM HT.out).mono ?_
  rintro e1 w1 ⟨rfl, hb1⟩
  replace HR0 := Lib.hid (row_on HR0.out hb1)
  replace HR1 := Lib.hid (row_on HR1.out hb1)
  replace HT := Lib.hid (HT.out.below hb1)
  replace HB := Lib.hid (HB.out.trans (hb1.mono HB.out.size))
  have hg1 := Nat.lt_of_lt_of_le hgz hb1.size
  clear hb1 hgz
  by_cases hc : checkT t = 0
  case neg =>
    have pe : (checkT t != 0) = true := by simpa using hc
    have HE := Lib.hid (show evalT t = (0, checkT t, zT) from if_pos hc)
    clear hc
    obtain ⟨x0, x1, x2, x3⟩ := row4 HR0.out
    go_upto_region 3 with fail
    clear x0 x1 x2 x3
    go_wp2_with (first
      | (with_reducible show wpList _ _ _ (⟨none, .store _ (.tmp 4) _, _, _, _, _⟩ :: _) _ _
         refine wpList_store_row rfl 30 (.tmp 4) (.tmp 11) rfl (w.heap.size + 1) #[.int .i64 0, .int .i64 0, .string ⟨#[]⟩, .slice none 0 0] rfl rfl _ _ HR1.out size_term rfl (one4 _ _ _ _ _ _) ?_))
    exact bodyPost_ret (v := .tuple #[.int .i64 0, .int .i64 (checkT t), .agg #[.int .i64 0, .int .i64 0, .string ⟨#[]⟩, .slice none 0 0]]) (results_tmp2_cell Try.results20 _ _ (w.heap.size + 1) _ _ _ _ _ _ rfl rfl rfl (setRow_heap _ _ _ _ _ _ HR1.out) Try.underlying30 rfl (by kernel_rfl)) rfl (ev_end (t := zT) (g := (w.heap.size + 1)) HE.out HB.out (by omega) (z_is _ (fun b => w.heap.size + 1 < b)) (fun b h => by have h2 : w.heap.size + 1 < b := h; omega))
  have HE := Lib.hid (show evalT t = evT t from if_neg (by simpa using hc))
  rw [hc]
  clear hc
  obtain ⟨x0, x1, x2, x3⟩ := row4 HR0.out
  go_wp2_with fail
  clear x0 x1 x2 x3
  refine (go_eval t.size t _ _ _ (Nat.le_refl _) hM HF.out HT.out).mono ?_
  rintro e5 w5 ⟨v5, rfl, hi5, hb5⟩
  generalize hev : evT t = r at hi5 HE ⊢
  obtain ⟨n5, e5, t5⟩ := r
  simp only at hi5 ⊢
  obtain ⟨a5, c5, rfl⟩ := hi5.form
  replace HR0 := Lib.hid (row_on HR0.out hb5)
  replace HR1 := Lib.hid (row_on HR1.out hb5)
  replace HB := Lib.hid (HB.out.trans (hb5.mono HB.out.size))
  have HI := Lib.hid hi5
  clear hi5 hb5
  go_wp2_with (first
    | (with_reducible show wpList _ _ _ (⟨none, .store _ (.tmp 4) _, _, _, _, _⟩ :: _) _ _
       refine wpList_store_row rfl 30 (.tmp 4) (.tmp 16) rfl (w.heap.size + 1) #[.int .i64 t5.k, .int .i64 t5.n, .string t5.s, .slice a5 t5.args.length c5] rfl rfl _ _ HR1.out size_term rfl (one4 _ _ _ _ _ _) ?_))
  exact bodyPost_ret (v := .tuple #[.int .i64 n5, .int .i64 e5, .agg #[.int .i64 t5.k, .int .i64 t5.n, .string t5.s, .slice a5 t5.args.length c5]]) (results_tmp2_cell Try.results20 _ _ (w.heap.size + 1) _ _ _ _ _ _ rfl rfl rfl (setRow_heap _ _ _ _ _ _ HR1.out) Try.underlying30 rfl (by kernel_rfl)) rfl (ev_end (t := t5) (g := (w.heap.size + 1)) HE.out HB.out (by omega) HI.out (fun b h => by have h2 : w1.heap.size ≤ b := h; omega))
def HdPost (r : Bool × Int × Tm) (w : World) (e : Ending) (w' : World) : Prop :=
  ∃ v, e = .returned (.tuple #[.bool r.1, .int .i64 r.2.1, v]) ∧ IsTm w' (fun b => w.heap.size ≤ b) v r.2.2 ∧ Below w.heap.size w w'
theorem hd_end {w W : World} {g : Nat} {r : Bool × Int × Tm} {x : Bool} {y : Int} {a : Option Addr} {c : Nat} {t : Tm} {P : Nat → Prop} {cs : Array Value} (hr : r = (x, y, t)) (hB : Below w.heap.size w W) (hg : w.heap.size ≤ g)
    (ht : IsTm W P (.agg #[.int .i64 t.k, .int .i64 t.n, .string t.s, .slice a t.args.length c]) t) (hP : ∀ b, P b → w.heap.size ≤ b ∧ b ≠ g) :
    HdPost r w (.returned (.tuple #[.bool x, .int .i64 y, .agg #[.int .i64 t.k, .int .i64 t.n, .string t.s, .slice a t.args.length c]])) (W.setRow g cs) := by
  subst hr
  exact ⟨_, rfl, ht.imp (fun b h => (hP b h).1) fun b h _ => setRow_other _ _ _ _ (hP b h).2, hB.trans ⟨rfl, rfl, rfl, by simp, fun k hk => setRow_other _ _ _ _ (by omega)⟩⟩
/-- does a comparison of what two terms come to hold? -/
def holdsT (op : ByteArray) (x y : Tm) : Bool × Int × Tm :=
  if holdB op 0 0 = none then (false, 8, zT) else if (evalT x).2.1 ≠ 0 then (false, (evalT x).2.1, (evalT x).2.2) else if (evalT y).2.1 ≠ 0 then (false, (evalT y).2.1, (evalT y).2.2)
  else ((holdB op (evalT x).1 (evalT y).1).getD false, 0, zT)
theorem bytes_ne {a b : ByteArray} (h : ¬ a = b) : (a == b) = false := by
  cases e : a == b with
  | false => rfl
  | true => exact absurd ((MapKept.bytes_beq a b).1 e) h
theorem three3 (w : World) (a b c : Obj) : (((w.alloc a).alloc b).alloc c).heap[w.heap.size]? = some a ∧ (((w.alloc a).alloc b).alloc c).heap[w.heap.size + 1]? = some b ∧ (((w.alloc a).alloc b).alloc c).heap[w.heap.size + 2]? = some c ∧ (((w.alloc a).alloc b).alloc c).heap.size = w.heap.size + 3 ∧ Below w.heap.size w (((w.alloc a).alloc b).alloc c) := by
  obtain ⟨h0, h1, h2, h3⟩ := two w a b
  have hn := heap_alloc_new ((w.alloc a).alloc b) c
  rw [h2] at hn
  have hb := below_new ((w.alloc a).alloc b) c
  exact ⟨row_on h0 hb, row_on h1 hb, hn, by simp, h3.trans (hb.mono (by omega))⟩
set_option maxRecDepth 100000 in
set_option maxHeartbeats 1000000 in
theorem go_Holds_no (op : ByteArray) (hfi : Instr.findNow .string (.string op) cmpEntries.toList 0 = some none) (hno : holdB op 0 0 = none) (x y : Tm) (vx vy : Value) (P P2 : Nat → Prop) (w : World) (hMx : x.size ≤ 1000000000) (hMy : y.size ≤ 1000000000) (hfx : fitT x) (hfy : fitT y) (hx : IsTm w P vx x) (hy : IsTm w P2 vy y) :
    Calls Try.prog 22 #[.string op, vx, vy] w (HdPost (holdsT op x y) w) := by
  have HE := Lib.hid (show holdsT op x y = (false, 8, zT) from if_pos hno)
  clear hno
  obtain ⟨ax, cx, rfl⟩ := hx.form
  obtain ⟨ay, cy, rfl⟩ := hy.form
  obtain ⟨t0, t1, t2, tsz, tbl⟩ := three3 w (.cells #[.int .i64 x.k, .int .i64 x.n, .string x.s, .slice ax x.args.length cx] 30 (0, 0)) (.cells #[.int .i64 y.k, .int .i64 y.n, .string y.s, .slice ay y.args.length cy] 30 (0, 0)) (.cells #[.int .i64 0, .int .i64 0, .string ⟨#[]⟩, .slice none 0 0] 30 (0, 0))
  have HR0 := Lib.hid t0
  have HR1 := Lib.hid t1
  have HR2 := Lib.hid t2
  have HB := Lib.hid tbl
  have HX := Lib.hid (hx.lt.below tbl)
  have HY := Lib.hid (hy.lt.below tbl)
  have HFX := Lib.hid hfx
  have HFY := Lib.hid hfy
  have HFI := Lib.hid hfi
  have hgz : w.heap.size + 2 < (((w.alloc (.cells #[.int .i64 x.k, .int .i64 x.n, .string x.s, .slice ax x.args.length cx] 30 (0, 0))).alloc (.cells #[.int .i64 y.k, .int .i64 y.n, .string y.s, .slice ay y.args.length cy] 30 (0, 0))).alloc (.cells #[.int .i64 0, .int .i64 0, .string ⟨#[]⟩, .slice none 0 0] 30 (0, 0))).heap.size := by omega
  clear t0 t1 t2 tbl tsz hx hy hfx hfy hfi
  go_enter Try.func22, Try.ntmps22
  go_wp2_with fail
  generalize (((w.alloc (.cells #[.int .i64 x.k, .int .i64 x.n, .string x.s, .slice ax x.args.length cx] 30 (0, 0))).alloc (.cells #[.int .i64 y.k, .int .i64 y.n, .string y.s, .slice ay y.args.length cy] 30 (0, 0))).alloc (.cells #[.int .i64 0, .int .i64 0, .string ⟨#[]⟩, .slice none 0 0] 30 (0, 0))) = W at *
  refine (go_comparisons _).mono ?_
  rintro e1 w1 ⟨b1, rfl, hm, hb1⟩
  replace HR0 := Lib.hid (row_on HR0.out hb1)
  replace HR1 := Lib.hid (row_on HR1.out hb1)
  replace HR2 := Lib.hid (row_on HR2.out hb1)
  replace HX := Lib.hid (HX.out.below hb1)
  replace HY := Lib.hid (HY.out.below hb1)
  replace HB := Lib.hid (HB.out.trans (hb1.mono HB.out.size))
  have HM := Lib.hid hm
  have hg1 := Nat.lt_of_lt_of_le hgz hb1.size
  clear hb1 hgz hm
  go_wp2_with (first
    | (refine wpList_lookup_now rfl 91 (.tmp 16) (.tmp 17) rfl _ _ _ Try.underlying91 Try.underlying9 rfl b1 _ _ rfl HM.out _ HFI.out .nilFunc cmp_zero ?_
       clear HFI HM)
    | (with_reducible show wpList _ _ _ (⟨none, .store _ (.tmp 8) _, _, _, _, _⟩ :: _) _ _
       refine wpList_store_row rfl 30 (.tmp 8) (.tmp 23) rfl (w.heap.size + 2) #[.int .i64 0, .int .i64 0, .string ⟨#[]⟩, .slice none 0 0] rfl rfl _ _ HR2.out size_term rfl (one4 _ _ _ _ _ _) ?_))
  exact bodyPost_ret (v := .tuple #[.bool false, .int .i64 8, .agg #[.int .i64 0, .int .i64 0, .string ⟨#[]⟩, .slice none 0 0]]) (results_tmp2_cell Try.results22 _ _ (w.heap.size + 2) _ _ _ _ _ _ rfl rfl rfl (setRow_heap _ _ _ _ _ _ HR2.out) Try.underlying30 rfl (by kernel_rfl)) rfl (hd_end (t := zT) (g := w.heap.size + 2) HE.out HB.out (by omega) (z_is _ (fun b => w.heap.size + 2 < b)) (fun b h => by have h2 : w.heap.size + 2 < b := h; omega))
set_option maxRecDepth 100000 in
set_option maxHeartbeats 2000000 in
theorem go_Holds_same (op : ByteArray) (hfi : Instr.findNow .string (.string op) cmpEntries.toList 0 = some (some (0, .func (.func 62) #[] #[]))) (hyes : ∀ a b, holdB op a b = some (decide (a = b))) (x y : Tm) (vx vy : Value) (P P2 : Nat → Prop) (w : World) (hMx : x.size ≤ 1000000000) (hMy : y.size ≤ 1000000000) (hfx : fitT x) (hfy : fitT y) (hx : IsTm w P vx x) (hy : IsTm w P2 vy y) :
    Calls Try.prog 22 #[.string op, vx, vy] w (HdPost (holdsT op x y) w) := by
  have HH := Lib.hid (show holdsT op x y = if (evalT x).2.1 ≠ 0 then (false, (evalT x).2.1, (evalT x).2.2) else if (evalT y).2.1 ≠ 0 then (false, (evalT y).2.1, (evalT y).2.2) else ((fun a b : Int => decide (a = b)) (evalT x).1 (evalT y).1, 0, zT) from (if_neg (by rw [hyes]; simp)).trans (by rw [hyes]; rfl))
  clear hyes
  obtain ⟨ax, cx, rfl⟩ := hx.form
  obtain ⟨ay, cy, rfl⟩ := hy.form
  obtain ⟨t0, t1, t2, tsz, tbl⟩ := three3 w (.cells #[.int .i64 x.k, .int .i64 x.n, .string x.s, .slice ax x.args.length cx] 30 (0, 0)) (.cells #[.int .i64 y.k, .int .i64 y.n, .string y.s, .slice ay y.args.length cy] 30 (0, 0)) (.cells #[.int .i64 0, .int .i64 0, .string ⟨#[]⟩, .slice none 0 0] 30 (0, 0))
  have HR0 := Lib.hid t0
  have HR1 := Lib.hid t1
  have HR2 := Lib.hid t2
  have HB := Lib.hid tbl
  have HX := Lib.hid (hx.lt.below tbl)
  have HY := Lib.hid (hy.lt.below tbl)
  have HFX := Lib.hid hfx
  have HFY := Lib.hid hfy
  have HFI := Lib.hid hfi
  have hgz : w.heap.size + 2 < (((w.alloc (.cells #[.int .i64 x.k, .int .i64 x.n, .string x.s, .slice ax x.args.length cx] 30 (0, 0))).alloc (.cells #[.int .i64 y.k, .int .i64 y.n, .string y.s, .slice ay y.args.length cy] 30 (0, 0))).alloc (.cells #[.int .i64 0, .int .i64 0, .string ⟨#[]⟩, .slice none 0 0] 30 (0, 0))).heap.size := by omega
  clear t0 t1 t2 tbl tsz hx hy hfx hfy hfi
  go_enter Try.func22, Try.ntmps22
  go_wp2_with fail
  generalize (((w.alloc (.cells #[.int .i64 x.k, .int .i64 x.n, .string x.s, .slice ax x.args.length cx] 30 (0, 0))).alloc (.cells #[.int .i64 y.k, .int .i64 y.n, .string y.s, .slice ay y.args.length cy] 30 (0, 0))).alloc (.cells #[.int .i64 0, .int .i64 0, .string ⟨#[]⟩, .slice none 0 0] 30 (0, 0))) = W at *
  refine (go_comparisons _).mono ?_
  rintro e1 w1 ⟨b1, rfl, hm, hb1⟩
  replace HR0 := Lib.hid (row_on HR0.out hb1)
  replace HR1 := Lib.hid (row_on HR1.out hb1)
  replace HR2 := Lib.hid (row_on HR2.out hb1)
  replace HX := Lib.hid (HX.out.below hb1)
  replace HY := Lib.hid (HY.out.below hb1)
  replace HB := Lib.hid (HB.out.trans (hb1.mono HB.out.size))
  have HM := Lib.hid hm
  have hg1 := Nat.lt_of_lt_of_le hgz hb1.size
  clear hb1 hgz hm
  go_upto_region 4 with (first
    | (refine wpList_lookup_now rfl 91 (.tmp 16) (.tmp 17) rfl _ _ _ Try.underlying91 Try.underlying9 rfl b1 _ _ rfl HM.out _ HFI.out .nilFunc cmp_zero ?_
       clear HFI HM))
  obtain ⟨x0, x1, x2, x3⟩ := row4 HR0.out
  go_wp2_with fail
  clear x0 x1 x2 x3
  refine (go_Eval x _ _ _ hMx HFX.out HX.out).mono ?_
  rintro e5 w5 ⟨v5, rfl, hi5, hb5⟩
  generalize hev : evalT x = r at hi5 HH ⊢
  obtain ⟨nx, ex, tx⟩ := r
  simp only at hi5 HH ⊢
  obtain ⟨a5, c5, rfl⟩ := hi5.form
  replace HR1 := Lib.hid (row_on HR1.out hb5)
  replace HR2 := Lib.hid (row_on HR2.out hb5)
  replace HY := Lib.hid (HY.out.below hb5)
  replace HB := Lib.hid (HB.out.trans (hb5.mono HB.out.size))
  have HI := Lib.hid hi5
  have hz5 := hb5.size
  clear hi5 hb5 hev HR0 HX
  by_cases hex : ex = 0
  case neg =>
    have pe : (ex != 0) = true := by simpa using hex
    replace HH := Lib.hid (HH.out.trans (if_pos hex))
    clear hex
    go_upto_region 6 with fail
    have hb6 := below_new w5 (.cells #[.int .i64 tx.k, .int .i64 tx.n, .string tx.s, .slice a5 tx.args.length c5] 30 (0, 0))
    have h6 := heap_alloc_new w5 (.cells #[.int .i64 tx.k, .int .i64 tx.n, .string tx.s, .slice a5 tx.args.length c5] 30 (0, 0))
    replace HR2 := Lib.hid (row_on HR2.out hb6)
    replace HI := Lib.hid (HI.out.below hb6)
    replace HB := Lib.hid (HB.out.trans (hb6.mono HB.out.size))
    have HW := Lib.hid h6
    clear hb6 h6
    generalize w5.alloc (.cells #[.int .i64 tx.k, .int .i64 tx.n, .string tx.s, .slice a5 tx.args.length c5] 30 (0, 0)) = W6 at *
    refine wp_region_rest (by kernel_rfl) ?_
    have hd := (Below.refl W6.heap.size W6).drew
    replace HR2 := Lib.hid (row_on HR2.out hd)
    replace HW := Lib.hid (row_on HW.out hd)
    replace HI := Lib.hid (HI.out.below hd)
    replace HB := Lib.hid (HB.out.trans (hd.mono HB.out.size))
    clear hd
    generalize W6.drew = W7 at *
    refine rest_chain 0 4 [(false, [0, 1, 2, 3])] [(false, [_, _, _, _])] rfl (by kernel_rfl) (by kernel_rfl) rfl (by kernel_rfl) (by kernel_rfl) (.inr (by kernel_rfl)) ?_
    obtain ⟨x0, x1, x2, x3⟩ := row4 HW.out
    refine chain_soft ?_
    intro E hE
    go_wp2
    clear x0 x1 x2 x3
    refine chain_nil ?_
    refine rest_lineL 4 5 [_] rfl (by kernel_rfl) (by decide) (by decide) (by kernel_rfl) ?_
    go_wp2_with (first
      | (with_reducible show wpList _ _ _ (⟨none, .store _ (.tmp 8) _, _, _, _, _⟩ :: _) _ _
         refine wpList_store_row rfl 30 (.tmp 8) (.tmp 33) rfl (w.heap.size + 2) #[.int .i64 tx.k, .int .i64 tx.n, .string tx.s, .slice a5 tx.args.length c5] rfl rfl _ _ HR2.out size_term rfl (one4 _ _ _ _ _ _) ?_))
    refine then_rest (rest_end (by decide) ?_)
    go_wp2
    exact bodyPost_ret (v := .tuple #[.bool false, .int .i64 ex, .agg #[.int .i64 tx.k, .int .i64 tx.n, .string tx.s, .slice a5 tx.args.length c5]]) (results_tmp2_cell Try.results22 _ _ (w.heap.size + 2) _ _ _ _ _ _ rfl rfl rfl (setRow_heap _ _ _ _ _ _ HR2.out) Try.underlying30 rfl (by kernel_rfl)) rfl (hd_end (t := tx) (g := (w.heap.size + 2)) HH.out HB.out (by omega) HI.out (fun b h => by have h2 : w1.heap.size ≤ b := h; omega))
  subst hex
  replace HH := Lib.hid (HH.out.trans (if_neg (by decide)))
  go_upto_region 7 with fail
  have hb6 := below_new w5 (.cells #[.int .i64 tx.k, .int .i64 tx.n, .string tx.s, .slice a5 tx.args.length c5] 30 (0, 0))
  have h6 := heap_alloc_new w5 (.cells #[.int .i64 tx.k, .int .i64 tx.n, .string tx.s, .slice a5 tx.args.length c5] 30 (0, 0))
  have hz6 : w5.heap.size < (w5.alloc (.cells #[.int .i64 tx.k, .int .i64 tx.n, .string tx.s, .slice a5 tx.args.length c5] 30 (0, 0))).heap.size := by simp
  replace HR1 := Lib.hid (row_on HR1.out hb6)
  replace HR2 := Lib.hid (row_on HR2.out hb6)
  replace HY := Lib.hid (HY.out.below hb6)
  replace HB := Lib.hid (HB.out.trans (hb6.mono HB.out.size))
  have HW := Lib.hid h6
  clear hb6 h6 HI
  generalize w5.alloc (.cells #[.int .i64 tx.k, .int .i64 tx.n, .string tx.s, .slice a5 tx.args.length c5] 30 (0, 0)) = W6 at *
  generalize w5.heap.size = g5 at *
  obtain ⟨x0, x1, x2, x3⟩ := row4 HR1.out
  go_wp2_with fail
  clear x0 x1 x2 x3
  refine (go_Eval y _ _ _ hMy HFY.out HY.out).mono ?_
  rintro e8 w8 ⟨v8, rfl, hi8, hb8⟩
  generalize hev : evalT y = r at hi8 HH ⊢
  obtain ⟨ny, ey, ty⟩ := r
  simp only at hi8 HH ⊢
  obtain ⟨a8, c8, rfl⟩ := hi8.form
  replace HR2 := Lib.hid (row_on HR2.out hb8)
  replace HW := Lib.hid (row_on HW.out hb8)
  replace HB := Lib.hid (HB.out.trans (hb8.mono HB.out.size))
  have HI := Lib.hid hi8
  clear hi8 hb8 hev HR1 HY
  by_cases hey : ey = 0
  case neg =>
    have pe : (ey != 0) = true := by simpa using hey
    replace HH := Lib.hid (HH.out.trans (if_pos hey))
    clear hey
    go_upto_region 9 with (first
      | (with_reducible show wpList _ _ _ (⟨none, .store _ (.tmp 13) _, _, _, _, _⟩ :: _) _ _
         refine wpList_store_row rfl 30 (.tmp 13) (.tmp 39) rfl g5 #[.int .i64 ty.k, .int .i64 ty.n, .string ty.s, .slice a8 ty.args.length c8] rfl rfl _ _ HW.out size_term rfl (one4 _ _ _ _ _ _) ?_))
    have HW2 := Lib.hid (setRow_heap w8 g5 _ (#[.int .i64 ty.k, .int .i64 ty.n, .string ty.s, .slice a8 ty.args.length c8] : Array Value) _ _ HW.out)
    replace HR2 := Lib.hid ((setRow_other w8 g5 (w.heap.size + 2) (#[.int .i64 ty.k, .int .i64 ty.n, .string ty.s, .slice a8 ty.args.length c8] : Array Value) (by omega)).trans HR2.out)
    replace HB := Lib.hid (show Below w.heap.size w (w8.setRow g5 (#[.int .i64 ty.k, .int .i64 ty.n, .string ty.s, .slice a8 ty.args.length c8] : Array Value)) from HB.out.trans ⟨rfl, rfl, rfl, by simp, fun k hk => setRow_other _ _ _ _ (by omega)⟩)
    replace HI := Lib.hid (HI.out.imp (w' := w8.setRow g5 (#[.int .i64 ty.k, .int .i64 ty.n, .string ty.s, .slice a8 ty.args.length c8] : Array Value)) (fun _ h => h) fun b h _ => setRow_other _ _ _ _ (by have h2 : W6.heap.size ≤ b := h; omega))
    clear HW
    generalize w8.setRow g5 (#[.int .i64 ty.k, .int .i64 ty.n, .string ty.s, .slice a8 ty.args.length c8] : Array Value) = W9 at *
    refine wp_region_rest (by kernel_rfl) ?_
    have hd := (Below.refl W9.heap.size W9).drew
    replace HR2 := Lib.hid (row_on HR2.out hd)
    replace HW2 := Lib.hid (row_on HW2.out hd)
    replace HI := Lib.hid (HI.out.below hd)
    replace HB := Lib.hid (HB.out.trans (hd.mono HB.out.size))
    clear hd
    generalize W9.drew = W7 at *
    refine rest_chain 0 4 [(false, [0, 1, 2, 3])] [(false, [_, _, _, _])] rfl (by kernel_rfl) (by kernel_rfl) rfl (by kernel_rfl) (by kernel_rfl) (.inr (by kernel_rfl)) ?_
    obtain ⟨x0, x1, x2, x3⟩ := row4 HW2.out
    refine chain_soft ?_
    intro E hE
    go_wp2
    clear x0 x1 x2 x3
    refine chain_nil ?_
    refine rest_lineL 4 5 [_] rfl (by kernel_rfl) (by decide) (by decide) (by kernel_rfl) ?_
    go_wp2_with (first
      | (with_reducible show wpList _ _ _ (⟨none, .store _ (.tmp 8) _, _, _, _, _⟩ :: _) _ _
         refine wpList_store_row rfl 30 (.tmp 8) (.tmp 43) rfl (w.heap.size + 2) #[.int .i64 ty.k, .int .i64 ty.n, .string ty.s, .slice a8 ty.args.length c8] rfl rfl _ _ HR2.out size_term rfl (one4 _ _ _ _ _ _) ?_))
    refine then_rest (rest_end (by decide) ?_)
    go_wp2
    exact bodyPost_ret (v := .tuple #[.bool false, .int .i64 ey, .agg #[.int .i64 ty.k, .int .i64 ty.n, .string ty.s, .slice a8 ty.args.length c8]]) (results_tmp2_cell Try.results22 _ _ (w.heap.size + 2) _ _ _ _ _ _ rfl rfl rfl (setRow_heap _ _ _ _ _ _ HR2.out) Try.underlying30 rfl (by kernel_rfl)) rfl (hd_end (t := ty) (g := (w.heap.size + 2)) HH.out HB.out (by omega) HI.out (fun b h => by have h2 : W6.heap.size ≤ b := h; omega))
  subst hey
  replace HH := Lib.hid (HH.out.trans (if_neg (by decide)))
  go_upto_region 10 with (first
    | (with_reducible show wpList _ _ _ (⟨none, .store _ (.tmp 13) _, _, _, _, _⟩ :: _) _ _
       refine wpList_store_row rfl 30 (.tmp 13) (.tmp 39) rfl g5 #[.int .i64 ty.k, .int .i64 ty.n, .string ty.s, .slice a8 ty.args.length c8] rfl rfl _ _ HW.out size_term rfl (one4 _ _ _ _ _ _) ?_))
  have HW2 := Lib.hid (setRow_heap w8 g5 _ (#[.int .i64 ty.k, .int .i64 ty.n, .string ty.s, .slice a8 ty.args.length c8] : Array Value) _ _ HW.out)
  replace HR2 := Lib.hid ((setRow_other w8 g5 (w.heap.size + 2) (#[.int .i64 ty.k, .int .i64 ty.n, .string ty.s, .slice a8 ty.args.length c8] : Array Value) (by omega)).trans HR2.out)
  replace HB := Lib.hid (show Below w.heap.size w (w8.setRow g5 (#[.int .i64 ty.k, .int .i64 ty.n, .string ty.s, .slice a8 ty.args.length c8] : Array Value)) from HB.out.trans ⟨rfl, rfl, rfl, by simp, fun k hk => setRow_other _ _ _ _ (by omega)⟩)
  replace HI := Lib.hid (HI.out.imp (w' := w8.setRow g5 (#[.int .i64 ty.k, .int .i64 ty.n, .string ty.s, .slice a8 ty.args.length c8] : Array Value)) (fun _ h => h) fun b h _ => setRow_other _ _ _ _ (by have h2 : W6.heap.size ≤ b := h; omega))
  clear HW
  generalize w8.setRow g5 (#[.int .i64 ty.k, .int .i64 ty.n, .string ty.s, .slice a8 ty.args.length c8] : Array Value) = W9 at *
  go_wp2_with fail
  refine (num_same _ _ _).mono ?_
  rintro e10 w10 ⟨rfl, hb10⟩
  replace HR2 := Lib.hid (row_on HR2.out hb10)
  replace HB := Lib.hid (HB.out.trans (hb10.mono HB.out.size))
  clear hb10
  obtain ⟨r, hr⟩ : ∃ r, r = (decide (nx = ny)) := ⟨_, rfl⟩
  replace HH : Hid (holdsT op x y = (r, 0, zT)) := Lib.hid (by rw [HH.out, hr])
  rw [← hr]
  clear hr
  go_wp2_with (first
    | (with_reducible show wpList _ _ _ (⟨none, .store _ (.tmp 8) _, _, _, _, _⟩ :: _) _ _
       refine wpList_store_row rfl 30 (.tmp 8) (.tmp 48) rfl (w.heap.size + 2) #[.int .i64 0, .int .i64 0, .string ⟨#[]⟩, .slice none 0 0] rfl rfl _ _ HR2.out size_term rfl (one4 _ _ _ _ _ _) ?_))
  exact bodyPost_ret (v := .tuple #[.bool r, .int .i64 0, .agg #[.int .i64 0, .int .i64 0, .string ⟨#[]⟩, .slice none 0 0]]) (results_tmp2_cell Try.results22 _ _ (w.heap.size + 2) _ _ _ _ _ _ rfl rfl rfl (setRow_heap _ _ _ _ _ _ HR2.out) Try.underlying30 rfl (by kernel_rfl)) rfl (hd_end (t := zT) (g := (w.heap.size + 2)) HH.out HB.out (by omega) (z_is _ (fun b => w.heap.size + 2 < b)) (fun b h => by have h2 : w.heap.size + 2 < b := h; omega))
set_option maxRecDepth 100000 in
set_option maxHeartbeats 2000000 in
theorem go_Holds_unlike (op : ByteArray) (hfi : Instr.findNow .string (.string op) cmpEntries.toList 0 = some (some (1, .func (.func 63) #[] #[]))) (hyes : ∀ a b, holdB op a b = some (decide (a ≠ b))) (x y : Tm) (vx vy : Value) (P P2 : Nat → Prop) (w : World) (hMx : x.size ≤ 1000000000) (hMy : y.size ≤ 1000000000) (hfx : fitT x) (hfy : fitT y) (hx : IsTm w P vx x) (hy : IsTm w P2 vy y) :
    Calls Try.prog 22 #[.string op, vx, vy] w (HdPost (holdsT op x y) w) := by
  have HH := Lib.hid (show holdsT op x y = if (evalT x).2.1 ≠ 0 then (false, (evalT x).2.1, (evalT x).2.2) else if (evalT y).2.1 ≠ 0 then (false, (evalT y).2.1, (evalT y).2.2) else ((fun a b : Int => decide (a ≠ b)) (evalT x).1 (evalT y).1, 0, zT) from (if_neg (by rw [hyes]; simp)).trans (by rw [hyes]; rfl))
  clear hyes
  obtain ⟨ax, cx, rfl⟩ := hx.form
  obtain ⟨ay, cy, rfl⟩ := hy.form
  obtain ⟨t0, t1, t2, tsz, tbl⟩ := three3 w (.cells #[.int .i64 x.k, .int .i64 x.n, .string x.s, .slice ax x.args.length cx] 30 (0, 0)) (.cells #[.int .i64 y.k, .int .i64 y.n, .string y.s, .slice ay y.args.length cy] 30 (0, 0)) (.cells #[.int .i64 0, .int .i64 0, .string ⟨#[]⟩, .slice none 0 0] 30 (0, 0))
  have HR0 := Lib.hid t0
  have HR1 := Lib.hid t1
  have HR2 := Lib.hid t2
  have HB := Lib.hid tbl
  have HX := Lib.hid (hx.lt.below tbl)
  have HY := Lib.hid (hy.lt.below tbl)
  have HFX := Lib.hid hfx
  have HFY := Lib.hid hfy
  have HFI := Lib.hid hfi
  have hgz : w.heap.size + 2 < (((w.alloc (.cells #[.int .i64 x.k, .int .i64 x.n, .string x.s, .slice ax x.args.length cx] 30 (0, 0))).alloc (.cells #[.int .i64 y.k, .int .i64 y.n, .string y.s, .slice ay y.args.length cy] 30 (0, 0))).alloc (.cells #[.int .i64 0, .int .i64 0, .string ⟨#[]⟩, .slice none 0 0] 30 (0, 0))).heap.size := by omega
  clear t0 t1 t2 tbl tsz hx hy hfx hfy hfi
  go_enter Try.func22, Try.ntmps22
  go_wp2_with fail
  generalize (((w.alloc (.cells #[.int .i64 x.k, .int .i64 x.n, .string x.s, .slice ax x.args.length cx] 30 (0, 0))).alloc (.cells #[.int .i64 y.k, .int .i64 y.n, .string y.s, .slice ay y.args.length cy] 30 (0, 0))).alloc (.cells #[.int .i64 0, .int .i64 0, .string ⟨#[]⟩, .slice none 0 0] 30 (0, 0))) = W at *
  refine (go_comparisons _).mono ?_
  rintro e1 w1 ⟨b1, rfl, hm, hb1⟩
  replace HR0 := Lib.hid (row_on HR0.out hb1)
  replace HR1 := Lib.hid (row_on HR1.out hb1)
  replace HR2 := Lib.hid (row_on HR2.out hb1)
  replace HX := Lib.hid (HX.out.below hb1)
  replace HY := Lib.hid (HY.out.below hb1)
  replace HB := Lib.hid (HB.out.trans (hb1.mono HB.out.size))
  have HM := Lib.hid hm
  have hg1 := Nat.lt_of_lt_of_le hgz hb1.size
  clear hb1 hgz hm
  go_upto_region 4 with (first
    | (refine wpList_lookup_now rfl 91 (.tmp 16) (.tmp 17) rfl _ _ _ Try.underlying91 Try.underlying9 rfl b1 _ _ rfl HM.out _ HFI.out .nilFunc cmp_zero ?_
       clear HFI HM))
  obtain ⟨x0, x1, x2, x3⟩ := row4 HR0.out
  go_wp2_with fail
  clear x0 x1 x2 x3
  refine (go_Eval x _ _ _ hMx HFX.out HX.out).mono ?_
  rintro e5 w5 ⟨v5, rfl, hi5, hb5⟩
  generalize hev : evalT x = r at hi5 HH ⊢
  obtain ⟨nx, ex, tx⟩ := r
  simp only at hi5 HH ⊢
  obtain ⟨a5, c5, rfl⟩ := hi5.form
  replace HR1 := Lib.hid (row_on HR1.out hb5)
  replace HR2 := Lib.hid (row_on HR2.out hb5)
  replace HY := Lib.hid (HY.out.below hb5)
  replace HB := Lib.hid (HB.out.trans (hb5.mono HB.out.size))
  have HI := Lib.hid hi5
  have hz5 := hb5.size
  clear hi5 hb5 hev HR0 HX
  by_cases hex : ex = 0
  case neg =>
    have pe : (ex != 0) = true := by simpa using hex
    replace HH := Lib.hid (HH.out.trans (if_pos hex))
    clear hex
    go_upto_region 6 with fail
    have hb6 := below_new w5 (.cells #[.int .i64 tx.k, .int .i64 tx.n, .string tx.s, .slice a5 tx.args.length c5] 30 (0, 0))
    have h6 := heap_alloc_new w5 (.cells #[.int .i64 tx.k, .int .i64 tx.n, .string tx.s, .slice a5 tx.args.length c5] 30 (0, 0))
    replace HR2 := Lib.hid (row_on HR2.out hb6)
    replace HI := Lib.hid (HI.out.below hb6)
    replace HB := Lib.hid (HB.out.trans (hb6.mono HB.out.size))
    have HW := Lib.hid h6
    clear hb6 h6
    generalize w5.alloc (.cells #[.int .i64 tx.k, .int .i64 tx.n, .string tx.s, .slice a5 tx.args.length c5] 30 (0, 0)) = W6 at *
    refine wp_region_rest (by kernel_rfl) ?_
    have hd := (Below.refl W6.heap.size W6).drew
    replace HR2 := Lib.hid (row_on HR2.out hd)
    replace HW := Lib.hid (row_on HW.out hd)
    replace HI := Lib.hid (HI.out.below hd)
    replace HB := Lib.hid (HB.out.trans (hd.mono HB.out.size))
    clear hd
    generalize W6.drew = W7 at *
    refine rest_chain 0 4 [(false, [0, 1, 2, 3])] [(false, [_, _, _, _])] rfl (by kernel_rfl) (by kernel_rfl) rfl (by kernel_rfl) (by kernel_rfl) (.inr (by kernel_rfl)) ?_
    obtain ⟨x0, x1, x2, x3⟩ := row4 HW.out
    refine chain_soft ?_
    intro E hE
    go_wp2
    clear x0 x1 x2 x3
    refine chain_nil ?_
    refine rest_lineL 4 5 [_] rfl (by kernel_rfl) (by decide) (by decide) (by kernel_rfl) ?_
    go_wp2_with (first
      | (with_reducible show wpList _ _ _ (⟨none, .store _ (.tmp 8) _, _, _, _, _⟩ :: _) _ _
         refine wpList_store_row rfl 30 (.tmp 8) (.tmp 33) rfl (w.heap.size + 2) #[.int .i64 tx.k, .int .i64 tx.n, .string tx.s, .slice a5 tx.args.length c5] rfl rfl _ _ HR2.out size_term rfl (one4 _ _ _ _ _ _) ?_))
    refine then_rest (rest_end (by decide) ?_)
    go_wp2
    exact bodyPost_ret (v := .tuple #[.bool false, .int .i64 ex, .agg #[.int .i64 tx.k, .int .i64 tx.n, .string tx.s, .slice a5 tx.args.length c5]]) (results_tmp2_cell Try.results22 _ _ (w.heap.size + 2) _ _ _ _ _ _ rfl rfl rfl (setRow_heap _ _ _ _ _ _ HR2.out) Try.underlying30 rfl (by kernel_rfl)) rfl (hd_end (t := tx) (g := (w.heap.size + 2)) HH.out HB.out (by omega) HI.out (fun b h => by have h2 : w1.heap.size ≤ b := h; omega))
  subst hex
  replace HH := Lib.hid (HH.out.trans (if_neg (by decide)))
  go_upto_region 7 with fail
  have hb6 := below_new w5 (.cells #[.int .i64 tx.k, .int .i64 tx.n, .string tx.s, .slice a5 tx.args.length c5] 30 (0, 0))
  have h6 := heap_alloc_new w5 (.cells #[.int .i64 tx.k, .int .i64 tx.n, .string tx.s, .slice a5 tx.args.length c5] 30 (0, 0))
  have hz6 : w5.heap.size < (w5.alloc (.cells #[.int .i64 tx.k, .int .i64 tx.n, .string tx.s, .slice a5 tx.args.length c5] 30 (0, 0))).heap.size := by simp
  replace HR1 := Lib.hid (row_on HR1.out hb6)
  replace HR2 := Lib.hid (row_on HR2.out hb6)
  replace HY := Lib.hid (HY.out.below hb6)
  replace HB := Lib.hid (HB.out.trans (hb6.mono HB.out.size))
  have HW := Lib.hid h6
  clear hb6 h6 HI
  generalize w5.alloc (.cells #[.int .i64 tx.k, .int .i64 tx.n, .string tx.s, .slice a5 tx.args.length c5] 30 (0, 0)) = W6 at *
  generalize w5.heap.size = g5 at *
  obtain ⟨x0, x1, x2, x3⟩ := row4 HR1.out
  go_wp2_with fail
  clear x0 x1 x2 x3
  refine (go_Eval y _ _ _ hMy HFY.out HY.out).mono ?_
  rintro e8 w8 ⟨v8, rfl, hi8, hb8⟩
  generalize hev : evalT y = r at hi8 HH ⊢
  obtain ⟨ny, ey, ty⟩ := r
  simp only at hi8 HH ⊢
  obtain ⟨a8, c8, rfl⟩ := hi8.form
  replace HR2 := Lib.hid (row_on HR2.out hb8)
  replace HW := Lib.hid (row_on HW.out hb8)
  replace HB := Lib.hid (HB.out.trans (hb8.mono HB.out.size))
  have HI := Lib.hid hi8
  clear hi8 hb8 hev HR1 HY
  by_cases hey : ey = 0
  case neg =>
    have pe : (ey != 0) = true := by simpa using hey
    replace HH := Lib.hid (HH.out.trans (if_pos hey))
    clear hey
    go_upto_region 9 with (first
      | (with_reducible show wpList _ _ _ (⟨none, .store _ (.tmp 13) _, _, _, _, _⟩ :: _) _ _
         refine wpList_store_row rfl 30 (.tmp 13) (.tmp 39) rfl g5 #[.int .i64 ty.k, .int .i64 ty.n, .string ty.s, .slice a8 ty.args.length c8] rfl rfl _ _ HW.out size_term rfl (one4 _ _ _ _ _ _) ?_))
    have HW2 := Lib.hid (setRow_heap w8 g5 _ (#[.int .i64 ty.k, .int .i64 ty.n, .string ty.s, .slice a8 ty.args.length c8] : Array Value) _ _ HW.out)
    replace HR2 := Lib.hid ((setRow_other w8 g5 (w.heap.size + 2) (#[.int .i64 ty.k, .int .i64 ty.n, .string ty.s, .slice a8 ty.args.length c8] : Array Value) (by omega)).trans HR2.out)
    replace HB := Lib.hid (show Below w.heap.size w (w8.setRow g5 (#[.int .i64 ty.k, .int .i64 ty.n, .string ty.s, .slice a8 ty.args.length c8] : Array Value)) from HB.out.trans ⟨rfl, rfl, rfl, by simp, fun k hk => setRow_other _ _ _ _ (by omega)⟩)
    replace HI := Lib.hid (HI.out.imp (w' := w8.setRow g5 (#[.int .i64 ty.k, .int .i64 ty.n, .string ty.s, .slice a8 ty.args.length c8] : Array Value)) (fun _ h => h) fun b h _ => setRow_other _ _ _ _ (by have h2 : W6.heap.size ≤ b := h; omega))
    clear HW
    generalize w8.setRow g5 (#[.int .i64 ty.k, .int .i64 ty.n, .string ty.s, .slice a8 ty.args.length c8] : Array Value) = W9 at *
    refine wp_region_rest (by kernel_rfl) ?_
    have hd := (Below.refl W9.heap.size W9).drew
    replace HR2 := Lib.hid (row_on HR2.out hd)
    replace HW2 := Lib.hid (row_on HW2.out hd)
    replace HI := Lib.hid (HI.out.below hd)
    replace HB := Lib.hid (HB.out.trans (hd.mono HB.out.size))
    clear hd
    generalize W9.drew = W7 at *
    refine rest_chain 0 4 [(false, [0, 1, 2, 3])] [(false, [_, _, _, _])] rfl (by kernel_rfl) (by kernel_rfl) rfl (by kernel_rfl) (by kernel_rfl) (.inr (by kernel_rfl)) ?_
    obtain ⟨x0, x1, x2, x3⟩ := row4 HW2.out
    refine chain_soft ?_
    intro E hE
    go_wp2
    clear x0 x1 x2 x3
    refine chain_nil ?_
    refine rest_lineL 4 5 [_] rfl (by kernel_rfl) (by decide) (by decide) (by kernel_rfl) ?_
    go_wp2_with (first
      | (with_reducible show wpList _ _ _ (⟨none, .store _ (.tmp 8) _, _, _, _, _⟩ :: _) _ _
         refine wpList_store_row rfl 30 (.tmp 8) (.tmp 43) rfl (w.heap.size + 2) #[.int .i64 ty.k, .int .i64 ty.n, .string ty.s, .slice a8 ty.args.length c8] rfl rfl _ _ HR2.out size_term rfl (one4 _ _ _ _ _ _) ?_))
    refine then_rest (rest_end (by decide) ?_)
    go_wp2
    exact bodyPost_ret (v := .tuple #[.bool false, .int .i64 ey, .agg #[.int .i64 ty.k, .int .i64 ty.n, .string ty.s, .slice a8 ty.args.length c8]]) (results_tmp2_cell Try.results22 _ _ (w.heap.size + 2) _ _ _ _ _ _ rfl rfl rfl (setRow_heap _ _ _ _ _ _ HR2.out) Try.underlying30 rfl (by kernel_rfl)) rfl (hd_end (t := ty) (g := (w.heap.size + 2)) HH.out HB.out (by omega) HI.out (fun b h => by have h2 : W6.heap.size ≤ b := h; omega))
  subst hey
  replace HH := Lib.hid (HH.out.trans (if_neg (by decide)))
  go_upto_region 10 with (first
    | (with_reducible show wpList _ _ _ (⟨none, .store _ (.tmp 13) _, _, _, _, _⟩ :: _) _ _
       refine wpList_store_row rfl 30 (.tmp 13) (.tmp 39) rfl g5 #[.int .i64 ty.k, .int .i64 ty.n, .string ty.s, .slice a8 ty.args.length c8] rfl rfl _ _ HW.out size_term rfl (one4 _ _ _ _ _ _) ?_))
  have HW2 := Lib.hid (setRow_heap w8 g5 _ (#[.int .i64 ty.k, .int .i64 ty.n, .string ty.s, .slice a8 ty.args.length c8] : Array Value) _ _ HW.out)
  replace HR2 := Lib.hid ((setRow_other w8 g5 (w.heap.size + 2) (#[.int .i64 ty.k, .int .i64 ty.n, .string ty.s, .slice a8 ty.args.length c8] : Array Value) (by omega)).trans HR2.out)
  replace HB := Lib.hid (show Below w.heap.size w (w8.setRow g5 (#[.int .i64 ty.k, .int .i64 ty.n, .string ty.s, .slice a8 ty.args.length c8] : Array Value)) from HB.out.trans ⟨rfl, rfl, rfl, by simp, fun k hk => setRow_other _ _ _ _ (by omega)⟩)
  replace HI := Lib.hid (HI.out.imp (w' := w8.setRow g5 (#[.int .i64 ty.k, .int .i64 ty.n, .string ty.s, .slice a8 ty.args.length c8] : Array Value)) (fun _ h => h) fun b h _ => setRow_other _ _ _ _ (by have h2 : W6.heap.size ≤ b := h; omega))
  clear HW
  generalize w8.setRow g5 (#[.int .i64 ty.k, .int .i64 ty.n, .string ty.s, .slice a8 ty.args.length c8] : Array Value) = W9 at *
  go_wp2_with fail
  refine (num_unlike _ _ _).mono ?_
  rintro e10 w10 ⟨rfl, hb10⟩
  replace HR2 := Lib.hid (row_on HR2.out hb10)
  replace HB := Lib.hid (HB.out.trans (hb10.mono HB.out.size))
  clear hb10
  obtain ⟨r, hr⟩ : ∃ r, r = (decide (nx ≠ ny)) := ⟨_, rfl⟩
  replace HH : Hid (holdsT op x y = (r, 0, zT)) := Lib.hid (by rw [HH.out, hr])
  rw [← hr]
  clear hr
  go_wp2_with (first
    | (with_reducible show wpList _ _ _ (⟨none, .store _ (.tmp 8) _, _, _, _, _⟩ :: _) _ _
       refine wpList_store_row rfl 30 (.tmp 8) (.tmp 48) rfl (w.heap.size + 2) #[.int .i64 0, .int .i64 0, .string ⟨#[]⟩, .slice none 0 0] rfl rfl _ _ HR2.out size_term rfl (one4 _ _ _ _ _ _) ?_))
  exact bodyPost_ret (v := .tuple #[.bool r, .int .i64 0, .agg #[.int .i64 0, .int .i64 0, .string ⟨#[]⟩, .slice none 0 0]]) (results_tmp2_cell Try.results22 _ _ (w.heap.size + 2) _ _ _ _ _ _ rfl rfl rfl (setRow_heap _ _ _ _ _ _ HR2.out) Try.underlying30 rfl (by kernel_rfl)) rfl (hd_end (t := zT) (g := (w.heap.size + 2)) HH.out HB.out (by omega) (z_is _ (fun b => w.heap.size + 2 < b)) (fun b h => by have h2 : w.heap.size + 2 < b := h; omega))
set_option maxRecDepth 100000 in
set_option maxHeartbeats 2000000 in
theorem go_Holds_below (op : ByteArray) (hfi : Instr.findNow .string (.string op) cmpEntries.toList 0 = some (some (2, .func (.func 64) #[] #[]))) (hyes : ∀ a b, holdB op a b = some (decide (a < b))) (x y : Tm) (vx vy : Value) (P P2 : Nat → Prop) (w : World) (hMx : x.size ≤ 1000000000) (hMy : y.size ≤ 1000000000) (hfx : fitT x) (hfy : fitT y) (hx : IsTm w P vx x) (hy : IsTm w P2 vy y) :
    Calls Try.prog 22 #[.string op, vx, vy] w (HdPost (holdsT op x y) w) := by
  have HH := Lib.hid (show holdsT op x y = if (evalT x).2.1 ≠ 0 then (false, (evalT x).2.1, (evalT x).2.2) else if (evalT y).2.1 ≠ 0 then (false, (evalT y).2.1, (evalT y).2.2) else ((fun a b : Int => decide (a < b)) (evalT x).1 (evalT y).1, 0, zT) from (if_neg (by rw [hyes]; simp)).trans (by rw [hyes]; rfl))
  clear hyes
  obtain ⟨ax, cx, rfl⟩ := hx.form
  obtain ⟨ay, cy, rfl⟩ := hy.form
  obtain ⟨t0, t1, t2, tsz, tbl⟩ := three3 w (.cells #[.int .i64 x.k, .int .i64 x.n, .string x.s, .slice ax x.args.length cx] 30 (0, 0)) (.cells #[.int .i64 y.k, .int .i64 y.n, .string y.s, .slice ay y.args.length cy] 30 (0, 0)) (.cells #[.int .i64 0, .int .i64 0, .string ⟨#[]⟩, .slice none 0 0] 30 (0, 0))
  have HR0 := Lib.hid t0
  have HR1 := Lib.hid t1
  have HR2 := Lib.hid t2
  have HB := Lib.hid tbl
  have HX := Lib.hid (hx.lt.below tbl)
  have HY := Lib.hid (hy.lt.below tbl)
  have HFX := Lib.hid hfx
  have HFY := Lib.hid hfy
  have HFI := Lib.hid hfi
  have hgz : w.heap.size + 2 < (((w.alloc (.cells #[.int .i64 x.k, .int .i64 x.n, .string x.s, .slice ax x.args.length cx] 30 (0, 0))).alloc (.cells #[.int .i64 y.k, .int .i64 y.n, .string y.s, .slice ay y.args.length cy] 30 (0, 0))).alloc (.cells #[.int .i64 0, .int .i64 0, .string ⟨#[]⟩, .slice none 0 0] 30 (0, 0))).heap.size := by omega
  clear t0 t1 t2 tbl tsz hx hy hfx hfy hfi
  go_enter Try.func22, Try.ntmps22
  go_wp2_with fail
  generalize (((w.alloc (.cells #[.int .i64 x.k, .int .i64 x.n, .string x.s, .slice ax x.args.length cx] 30 (0, 0))).alloc (.cells #[.int .i64 y.k, .int .i64 y.n, .string y.s, .slice ay y.args.length cy] 30 (0, 0))).alloc (.cells #[.int .i64 0, .int .i64 0, .string ⟨#[]⟩, .slice none 0 0] 30 (0, 0))) = W at *
  refine (go_comparisons _).mono ?_
  rintro e1 w1 ⟨b1, rfl, hm, hb1⟩
  replace HR0 := Lib.hid (row_on HR0.out hb1)
  replace HR1 := Lib.hid (row_on HR1.out hb1)
  replace HR2 := Lib.hid (row_on HR2.out hb1)
  replace HX := Lib.hid (HX.out.below hb1)
  replace HY := Lib.hid (HY.out.below hb1)
  replace HB := Lib.hid (HB.out.trans (hb1.mono HB.out.size))
  have HM := Lib.hid hm
  have hg1 := Nat.lt_of_lt_of_le hgz hb1.size
  clear hb1 hgz hm
  go_upto_region 4 with (first
    | (refine wpList_lookup_now rfl 91 (.tmp 16) (.tmp 17) rfl _ _ _ Try.underlying91 Try.underlying9 rfl b1 _ _ rfl HM.out _ HFI.out .nilFunc cmp_zero ?_
       clear HFI HM))
  obtain ⟨x0, x1, x2, x3⟩ := row4 HR0.out
  go_wp2_with fail
  clear x0 x1 x2 x3
  refine (go_Eval x _ _ _ hMx HFX.out HX.out).mono ?_
  rintro e5 w5 ⟨v5, rfl, hi5, hb5⟩
  generalize hev : evalT x = r at hi5 HH ⊢
  obtain ⟨nx, ex, tx⟩ := r
  simp only at hi5 HH ⊢
  obtain ⟨a5, c5, rfl⟩ := hi5.form
  replace HR1 := Lib.hid (row_on HR1.out hb5)
  replace HR2 := Lib.hid (row_on HR2.out hb5)
  replace HY := Lib.hid (HY.out.below hb5)
  replace HB := Lib.hid (HB.out.trans (hb5.mono HB.out.size))
  have HI := Lib.hid hi5
  have hz5 := hb5.size
  clear hi5 hb5 hev HR0 HX
  by_cases hex : ex = 0
  case neg =>
    have pe : (ex != 0) = true := by simpa using hex
    replace HH := Lib.hid (HH.out.trans (if_pos hex))
    clear hex
    go_upto_region 6 with fail
    have hb6 := below_new w5 (.cells #[.int .i64 tx.k, .int .i64 tx.n, .string tx.s, .slice a5 tx.args.length c5] 30 (0, 0))
    have h6 := heap_alloc_new w5 (.cells #[.int .i64 tx.k, .int .i64 tx.n, .string tx.s, .slice a5 tx.args.length c5] 30 (0, 0))
    replace HR2 := Lib.hid (row_on HR2.out hb6)
    replace HI := Lib.hid (HI.out.below hb6)
    replace HB := Lib.hid (HB.out.trans (hb6.mono HB.out.size))
    have HW := Lib.hid h6
    clear hb6 h6
    generalize w5.alloc (.cells #[.int .i64 tx.k, .int .i64 tx.n, .string tx.s, .slice a5 tx.args.length c5] 30 (0, 0)) = W6 at *
    refine wp_region_rest (by kernel_rfl) ?_
    have hd := (Below.refl W6.heap.size W6).drew
    replace HR2 := Lib.hid (row_on HR2.out hd)
    replace HW := Lib.hid (row_on HW.out hd)
    replace HI := Lib.hid (HI.out.below hd)
    replace HB := Lib.hid (HB.out.trans (hd.mono HB.out.size))
    clear hd
    generalize W6.drew = W7 at *
    refine rest_chain 0 4 [(false, [0, 1, 2, 3])] [(false, [_, _, _, _])] rfl (by kernel_rfl) (by kernel_rfl) rfl (by kernel_rfl) (by kernel_rfl) (.inr (by kernel_rfl)) ?_
    obtain ⟨x0, x1, x2, x3⟩ := row4 HW.out
    refine chain_soft ?_
    intro E hE
    go_wp2
    clear x0 x1 x2 x3
    refine chain_nil ?_
    refine rest_lineL 4 5 [_] rfl (by kernel_rfl) (by decide) (by decide) (by kernel_rfl) ?_
    go_wp2_with (first
      | (with_reducible show wpList _ _ _ (⟨none, .store _ (.tmp 8) _, _, _, _, _⟩ :: _) _ _
         refine wpList_store_row rfl 30 (.tmp 8) (.tmp 33) rfl (w.heap.size + 2) #[.int .i64 tx.k, .int .i64 tx.n, .string tx.s, .slice a5 tx.args.length c5] rfl rfl _ _ HR2.out size_term rfl (one4 _ _ _ _ _ _) ?_))
    refine then_rest (rest_end (by decide) ?_)
    go_wp2
    exact bodyPost_ret (v := .tuple #[.bool false, .int .i64 ex, .agg #[.int .i64 tx.k, .int .i64 tx.n, .string tx.s, .slice a5 tx.args.length c5]]) (results_tmp2_cell Try.results22 _ _ (w.heap.size + 2) _ _ _ _ _ _ rfl rfl rfl (setRow_heap _ _ _ _ _ _ HR2.out) Try.underlying30 rfl (by kernel_rfl)) rfl (hd_end (t := tx) (g := (w.heap.size + 2)) HH.out HB.out (by omega) HI.out (fun b h => by have h2 : w1.heap.size ≤ b := h; omega))
  subst hex
  replace HH := Lib.hid (HH.out.trans (if_neg (by decide)))
  go_upto_region 7 with fail
  have hb6 := below_new w5 (.cells #[.int .i64 tx.k, .int .i64 tx.n, .string tx.s, .slice a5 tx.args.length c5] 30 (0, 0))
  have h6 := heap_alloc_new w5 (.cells #[.int .i64 tx.k, .int .i64 tx.n, .string tx.s, .slice a5 tx.args.length c5] 30 (0, 0))
  have hz6 : w5.heap.size < (w5.alloc (.cells #[.int .i64 tx.k, .int .i64 tx.n, .string tx.s, .slice a5 tx.args.length c5] 30 (0, 0))).heap.size := by simp
  replace HR1 := Lib.hid (row_on HR1.out hb6)
  replace HR2 := Lib.hid (row_on HR2.out hb6)
  replace HY := Lib.hid (HY.out.below hb6)
  replace HB := Lib.hid (HB.out.trans (hb6.mono HB.out.size))
  have HW := Lib.hid h6
  clear hb6 h6 HI
  generalize w5.alloc (.cells #[.int .i64 tx.k, .int .i64 tx.n, .string tx.s, .slice a5 tx.args.length c5] 30 (0, 0)) = W6 at *
  generalize w5.heap.size = g5 at *
  obtain ⟨x0, x1, x2, x3⟩ := row4 HR1.out
  go_wp2_with fail
  clear x0 x1 x2 x3
  refine (go_Eval y _ _ _ hMy HFY.out HY.out).mono ?_
  rintro e8 w8 ⟨v8, rfl, hi8, hb8⟩
  generalize hev : evalT y = r at hi8 HH ⊢
  obtain ⟨ny, ey, ty⟩ := r
  simp only at hi8 HH ⊢
  obtain ⟨a8, c8, rfl⟩ := hi8.form
  replace HR2 := Lib.hid (row_on HR2.out hb8)
  replace HW := Lib.hid (row_on HW.out hb8)
  replace HB := Lib.hid (HB.out.trans (hb8.mono HB.out.size))
  have HI := Lib.hid hi8
  clear hi8 hb8 hev HR1 HY
  by_cases hey : ey = 0
  case neg =>
    have pe : (ey != 0) = true := by simpa using hey
    replace HH := Lib.hid (HH.out.trans (if_pos hey))
    clear hey
    go_upto_region 9 with (first
      | (with_reducible show wpList _ _ _ (⟨none, .store _ (.tmp 13) _, _, _, _, _⟩ :: _) _ _
         refine wpList_store_row rfl 30 (.tmp 13) (.tmp 39) rfl g5 #[.int .i64 ty.k, .int .i64 ty.n, .string ty.s, .slice a8 ty.args.length c8] rfl rfl _ _ HW.out size_term rfl (one4 _ _ _ _ _ _) ?_))
    have HW2 := Lib.hid (setRow_heap w8 g5 _ (#[.int .i64 ty.k, .int .i64 ty.n, .string ty.s, .slice a8 ty.args.length c8] : Array Value) _ _ HW.out)
    replace HR2 := Lib.hid ((setRow_other w8 g5 (w.heap.size + 2) (#[.int .i64 ty.k, .int .i64 ty.n, .string ty.s, .slice a8 ty.args.length c8] : Array Value) (by omega)).trans HR2.out)
    replace HB := Lib.hid (show Below w.heap.size w (w8.setRow g5 (#[.int .i64 ty.k, .int .i64 ty.n, .string ty.s, .slice a8 ty.args.length c8] : Array Value)) from HB.out.trans ⟨rfl, rfl, rfl, by simp, fun k hk => setRow_other _ _ _ _ (by omega)⟩)
    replace HI := Lib.hid (HI.out.imp (w' := w8.setRow g5 (#[.int .i64 ty.k, .int .i64 ty.n, .string ty.s, .slice a8 ty.args.length c8] : Array Value)) (fun _ h => h) fun b h _ => setRow_other _ _ _ _ (by have h2 : W6.heap.size ≤ b := h; omega))
    clear HW
    generalize w8.setRow g5 (#[.int .i64 ty.k, .int .i64 ty.n, .string ty.s, .slice a8 ty.args.length c8] : Array Value) = W9 at *
    refine wp_region_rest (by kernel_rfl) ?_
    have hd := (Below.refl W9.heap.size W9).drew
    replace HR2 := Lib.hid (row_on HR2.out hd)
    replace HW2 := Lib.hid (row_on HW2.out hd)
    replace HI := Lib.hid (HI.out.below hd)
    replace HB := Lib.hid (HB.out.trans (hd.mono HB.out.size))
    clear hd
    generalize W9.drew = W7 at *
    refine rest_chain 0 4 [(false, [0, 1, 2, 3])] [(false, [_, _, _, _])] rfl (by kernel_rfl) (by kernel_rfl) rfl (by kernel_rfl) (by kernel_rfl) (.inr (by kernel_rfl)) ?_
    obtain ⟨x0, x1, x2, x3⟩ := row4 HW2.out
    refine chain_soft ?_
    intro E hE
    go_wp2
    clear x0 x1 x2 x3
    refine chain_nil ?_
    refine rest_lineL 4 5 [_] rfl (by kernel_rfl) (by decide) (by decide) (by kernel_rfl) ?_
    go_wp2_with (first
      | (with_reducible show wpList _ _ _ (⟨none, .store _ (.tmp 8) _, _, _, _, _⟩ :: _) _ _
         refine wpList_store_row rfl 30 (.tmp 8) (.tmp 43) rfl (w.heap.size + 2) #[.int .i64 ty.k, .int .i64 ty.n, .string ty.s, .slice a8 ty.args.length c8] rfl rfl _ _ HR2.out size_term rfl (one4 _ _ _ _ _ _) ?_))
    refine then_rest (rest_end (by decide) ?_)
    go_wp2
    exact bodyPost_ret (v := .tuple #[.bool false, .int .i64 ey, .agg #[.int .i64 ty.k, .int .i64 ty.n, .string ty.s, .slice a8 ty.args.length c8]]) (results_tmp2_cell Try.results22 _ _ (w.heap.size + 2) _ _ _ _ _ _ rfl rfl rfl (setRow_heap _ _ _ _ _ _ HR2.out) Try.underlying30 rfl (by kernel_rfl)) rfl (hd_end (t := ty) (g := (w.heap.size + 2)) HH.out HB.out (by omega) HI.out (fun b h => by have h2 : W6.heap.size ≤ b := h; omega))
  subst hey
  replace HH := Lib.hid (HH.out.trans (if_neg (by decide)))
  go_upto_region 10 with (first
    | (with_reducible show wpList _ _ _ (⟨none, .store _ (.tmp 13) _, _, _, _, _⟩ :: _) _ _
       refine wpList_store_row rfl 30 (.tmp 13) (.tmp 39) rfl g5 #[.int .i64 ty.k, .int .i64 ty.n, .string ty.s, .slice a8 ty.args.length c8] rfl rfl _ _ HW.out size_term rfl (one4 _ _ _ _ _ _) ?_))
  have HW2 := Lib.hid (setRow_heap w8 g5 _ (#[.int .i64 ty.k, .int .i64 ty.n, .string ty.s, .slice a8 ty.args.length c8] : Array Value) _ _ HW.out)
  replace HR2 := Lib.hid ((setRow_other w8 g5 (w.heap.size + 2) (#[.int .i64 ty.k, .int .i64 ty.n, .string ty.s, .slice a8 ty.args.length c8] : Array Value) (by omega)).trans HR2.out)
  replace HB := Lib.hid (show Below w.heap.size w (w8.setRow g5 (#[.int .i64 ty.k, .int .i64 ty.n, .string ty.s, .slice a8 ty.args.length c8] : Array Value)) from HB.out.trans ⟨rfl, rfl, rfl, by simp, fun k hk => setRow_other _ _ _ _ (by omega)⟩)
  replace HI := Lib.hid (HI.out.imp (w' := w8.setRow g5 (#[.int .i64 ty.k, .int .i64 ty.n, .string ty.s, .slice a8 ty.args.length c8] : Array Value)) (fun _ h => h) fun b h _ => setRow_other _ _ _ _ (by have h2 : W6.heap.size ≤ b := h; omega))
  clear HW
  generalize w8.setRow g5 (#[.int .i64 ty.k, .int .i64 ty.n, .string ty.s, .slice a8 ty.args.length c8] : Array Value) = W9 at *
  go_wp2_with fail
  refine (num_below _ _ _).mono ?_
  rintro e10 w10 ⟨rfl, hb10⟩
  replace HR2 := Lib.hid (row_on HR2.out hb10)
  replace HB := Lib.hid (HB.out.trans (hb10.mono HB.out.size))
  clear hb10
  obtain ⟨r, hr⟩ : ∃ r, r = (decide (nx < ny)) := ⟨_, rfl⟩
  replace HH : Hid (holdsT op x y = (r, 0, zT)) := Lib.hid (by rw [HH.out, hr])
  rw [← hr]
  clear hr
  go_wp2_with (first
    | (with_reducible show wpList _ _ _ (⟨none, .store _ (.tmp 8) _, _, _, _, _⟩ :: _) _ _
       refine wpList_store_row rfl 30 (.tmp 8) (.tmp 48) rfl (w.heap.size + 2) #[.int .i64 0, .int .i64 0, .string ⟨#[]⟩, .slice none 0 0] rfl rfl _ _ HR2.out size_term rfl (one4 _ _ _ _ _ _) ?_))
  exact bodyPost_ret (v := .tuple #[.bool r, .int .i64 0, .agg #[.int .i64 0, .int .i64 0, .string ⟨#[]⟩, .slice none 0 0]]) (results_tmp2_cell Try.results22 _ _ (w.heap.size + 2) _ _ _ _ _ _ rfl rfl rfl (setRow_heap _ _ _ _ _ _ HR2.out) Try.underlying30 rfl (by kernel_rfl)) rfl (hd_end (t := zT) (g := (w.heap.size + 2)) HH.out HB.out (by omega) (z_is _ (fun b => w.heap.size + 2 < b)) (fun b h => by have h2 : w.heap.size + 2 < b := h; omega))
set_option maxRecDepth 100000 in
set_option maxHeartbeats 2000000 in
theorem go_Holds_above (op : ByteArray) (hfi : Instr.findNow .string (.string op) cmpEntries.toList 0 = some (some (3, .func (.func 65) #[] #[]))) (hyes : ∀ a b, holdB op a b = some (decide (b < a))) (x y : Tm) (vx vy : Value) (P P2 : Nat → Prop) (w : World) (hMx : x.size ≤ 1000000000) (hMy : y.size ≤ 1000000000) (hfx : fitT x) (hfy : fitT y) (hx : IsTm w P vx x) (hy : IsTm w P2 vy y) :
    Calls Try.prog 22 #[.string op, vx, vy] w (HdPost (holdsT op x y) w) := by
  have HH := Lib.hid (show holdsT op x y = if (evalT x).2.1 ≠ 0 then (false, (evalT x).2.1, (evalT x).2.2) else if (evalT y).2.1 ≠ 0 then (false, (evalT y).2.1, (evalT y).2.2) else ((fun a b : Int => decide (b < a)) (evalT x).1 (evalT y).1, 0, zT) from (if_neg (by rw [hyes]; simp)).trans (by rw [hyes]; rfl))
  clear hyes
  obtain ⟨ax, cx, rfl⟩ := hx.form
  obtain ⟨ay, cy, rfl⟩ := hy.form
  obtain ⟨t0, t1, t2, tsz, tbl⟩ := three3 w (.cells #[.int .i64 x.k, .int .i64 x.n, .string x.s, .slice ax x.args.length cx] 30 (0, 0)) (.cells #[.int .i64 y.k, .int .i64 y.n, .string y.s, .slice ay y.args.length cy] 30 (0, 0)) (.cells #[.int .i64 0, .int .i64 0, .string ⟨#[]⟩, .slice none 0 0] 30 (0, 0))
  have HR0 := Lib.hid t0
  have HR1 := Lib.hid t1
  have HR2 := Lib.hid t2
  have HB := Lib.hid tbl
  have HX := Lib.hid (hx.lt.below tbl)
  have HY := Lib.hid (hy.lt.below tbl)
  have HFX := Lib.hid hfx
  have HFY := Lib.hid hfy
  have HFI := Lib.hid hfi
  have hgz : w.heap.size + 2 < (((w.alloc (.cells #[.int .i64 x.k, .int .i64 x.n, .string x.s, .slice ax x.args.length cx] 30 (0, 0))).alloc (.cells #[.int .i64 y.k, .int .i64 y.n, .string y.s, .slice ay y.args.length cy] 30 (0, 0))).alloc (.cells #[.int .i64 0, .int .i64 0, .string ⟨#[]⟩, .slice none 0 0] 30 (0, 0))).heap.size := by omega
  clear t0 t1 t2 tbl tsz hx hy hfx hfy hfi
  go_enter Try.func22, Try.ntmps22
  go_wp2_with fail
  generalize (((w.alloc (.cells #[.int .i64 x.k, .int .i64 x.n, .string x.s, .slice ax x.args.length cx] 30 (0, 0))).alloc (.cells #[.int .i64 y.k, .int .i64 y.n, .string y.s, .slice ay y.args.length cy] 30 (0, 0))).alloc (.cells #[.int .i64 0, .int .i64 0, .string ⟨#[]⟩, .slice none 0 0] 30 (0, 0))) = W at *
  refine (go_comparisons _).mono ?_
  rintro e1 w1 ⟨b1, rfl, hm, hb1⟩
  replace HR0 := Lib.hid (row_on HR0.out hb1)
  replace HR1 := Lib.hid (row_on HR1.out hb1)
  replace HR2 := Lib.hid (row_on HR2.out hb1)
  replace HX := Lib.hid (HX.out.below hb1)
  replace HY := Lib.hid (HY.out.below hb1)
  replace HB := Lib.hid (HB.out.trans (hb1.mono HB.out.size))
  have HM := Lib.hid hm
  have hg1 := Nat.lt_of_lt_of_le hgz hb1.size
  clear hb1 hgz hm
  go_upto_region 4 with (first
    | (refine wpList_lookup_now rfl 91 (.tmp 16) (.tmp 17) rfl _ _ _ Try.underlying91 Try.underlying9 rfl b1 _ _ rfl HM.out _ HFI.out .nilFunc cmp_zero ?_
       clear HFI HM))
  obtain ⟨x0, x1, x2, x3⟩ := row4 HR0.out
  go_wp2_with fail
  clear x0 x1 x2 x3
  refine (go_Eval x _ _ _ hMx HFX.out HX.out).mono ?_
  rintro e5 w5 ⟨v5, rfl, hi5, hb5⟩
  generalize hev : evalT x = r at hi5 HH ⊢
  obtain ⟨nx, ex, tx⟩ := r
  simp only at hi5 HH ⊢
  obtain ⟨a5, c5, rfl⟩ := hi5.form
  replace HR1 := Lib.hid (row_on HR1.out hb5)
  replace HR2 := Lib.hid (row_on HR2.out hb5)
  replace HY := Lib.hid (HY.out.below hb5)
  replace HB := Lib.hid (HB.out.trans (hb5.mono HB.out.size))
  have HI := Lib.hid hi5
  have hz5 := hb5.size
  clear hi5 hb5 hev HR0 HX
  by_cases hex : ex = 0
  case neg =>
    have pe : (ex != 0) = true := by simpa using hex
    replace HH := Lib.hid (HH.out.trans (if_pos hex))
    clear hex
    go_upto_region 6 with fail
    have hb6 := below_new w5 (.cells #[.int .i64 tx.k, .int .i64 tx.n, .string tx.s, .slice a5 tx.args.length c5] 30 (0, 0))
    have h6 := heap_alloc_new w5 (.cells #[.int .i64 tx.k, .int .i64 tx.n, .string tx.s, .slice a5 tx.args.length c5] 30 (0, 0))
    replace HR2 := Lib.hid (row_on HR2.out hb6)
    replace HI := Lib.hid (HI.out.below hb6)
    replace HB := Lib.hid (HB.out.trans (hb6.mono HB.out.size))
    have HW := Lib.hid h6
    clear hb6 h6
    generalize w5.alloc (.cells #[.int .i64 tx.k, .int .i64 tx.n, .string tx.s, .slice a5 tx.args.length c5] 30 (0, 0)) = W6 at *
    refine wp_region_rest (by kernel_rfl) ?_
    have hd := (Below.refl W6.heap.size W6).drew
    replace HR2 := Lib.hid (row_on HR2.out hd)
    replace HW := Lib.hid (row_on HW.out hd)
    replace HI := Lib.hid (HI.out.below hd)
    replace HB := Lib.hid (HB.out.trans (hd.mono HB.out.size))
    clear hd
    generalize W6.drew = W7 at *
    refine rest_chain 0 4 [(false, [0, 1, 2, 3])] [(false, [_, _, _, _])] rfl (by kernel_rfl) (by kernel_rfl) rfl (by kernel_rfl) (by kernel_rfl) (.inr (by kernel_rfl)) ?_
    obtain ⟨x0, x1, x2, x3⟩ := row4 HW.out
    refine chain_soft ?_
    intro E hE
    go_wp2
    clear x0 x1 x2 x3
    refine chain_nil ?_
    refine rest_lineL 4 5 [_] rfl (by kernel_rfl) (by decide) (by decide) (by kernel_rfl) ?_
    go_wp2_with (first
      | (with_reducible show wpList _ _ _ (⟨none, .store _ (.tmp 8) _, _, _, _, _⟩ :: _) _ _
         refine wpList_store_row rfl 30 (.tmp 8) (.tmp 33) rfl (w.heap.size + 2) #[.int .i64 tx.k, .int .i64 tx.n, .string tx.s, .slice a5 tx.args.length c5] rfl rfl _ _ HR2.out size_term rfl (one4 _ _ _ _ _ _) ?_))
    refine then_rest (rest_end (by decide) ?_)
    go_wp2
    exact bodyPost_ret (v := .tuple #[.bool false, .int .i64 ex, .agg #[.int .i64 tx.k, .int .i64 tx.n, .string tx.s, .slice a5 tx.args.length c5]]) (results_tmp2_cell Try.results22 _ _ (w.heap.size + 2) _ _ _ _ _ _ rfl rfl rfl (setRow_heap _ _ _ _ _ _ HR2.out) Try.underlying30 rfl (by kernel_rfl)) rfl (hd_end (t := tx) (g := (w.heap.size + 2)) HH.out HB.out (by omega) HI.out (fun b h => by have h2 : w1.heap.size ≤ b := h; omega))
  subst hex
  replace HH := Lib.hid (HH.out.trans (if_neg (by decide)))
  go_upto_region 7 with fail
  have hb6 := below_new w5 (.cells #[.int .i64 tx.k, .int .i64 tx.n, .string tx.s, .slice a5 tx.args.length c5] 30 (0, 0))
  have h6 := heap_alloc_new w5 (.cells #[.int .i64 tx.k, .int .i64 tx.n, .string tx.s, .slice a5 tx.args.length c5] 30 (0, 0))
  have hz6 : w5.heap.size < (w5.alloc (.cells #[.int .i64 tx.k, .int .i64 tx.n, .string tx.s, .slice a5 tx.args.length c5] 30 (0, 0))).heap.size := by simp
  replace HR1 := Lib.hid (row_on HR1.out hb6)
  replace HR2 := Lib.hid (row_on HR2.out hb6)
  replace HY := Lib.hid (HY.out.below hb6)
  replace HB := Lib.hid (HB.out.trans (hb6.mono HB.out.size))
  have HW := Lib.hid h6
  clear hb6 h6 HI
  generalize w5.alloc (.cells #[.int .i64 tx.k, .int .i64 tx.n, .string tx.s, .slice a5 tx.args.length c5] 30 (0, 0)) = W6 at *
  generalize w5.heap.size = g5 at *
  obtain ⟨x0, x1, x2, x3⟩ := row4 HR1.out
  go_wp2_with fail
  clear x0 x1 x2 x3
  refine (go_Eval y _ _ _ hMy HFY.out HY.out).mono ?_
  rintro e8 w8 ⟨v8, rfl, hi8, hb8⟩
  generalize hev : evalT y = r at hi8 HH ⊢
  obtain ⟨ny, ey, ty⟩ := r
  simp only at hi8 HH ⊢
  obtain ⟨a8, c8, rfl⟩ := hi8.form
  replace HR2 := Lib.hid (row_on HR2.out hb8)
  replace HW := Lib.hid (row_on HW.out hb8)
  replace HB := Lib.hid (HB.out.trans (hb8.mono HB.out.size))
  have HI := Lib.hid hi8
  clear hi8 hb8 hev HR1 HY
  by_cases hey : ey = 0
  case neg =>
    have pe : (ey != 0) = true := by simpa using hey
    replace HH := Lib.hid (HH.out.trans (if_pos hey))
    clear hey
    go_upto_region 9 with (first
      | (with_reducible show wpList _ _ _ (⟨none, .store _ (.tmp 13) _, _, _, _, _⟩ :: _) _ _
         refine wpList_store_row rfl 30 (.tmp 13) (.tmp 39) rfl g5 #[.int .i64 ty.k, .int .i64 ty.n, .string ty.s, .slice a8 ty.args.length c8] rfl rfl _ _ HW.out size_term rfl (one4 _ _ _ _ _ _) ?_))
    have HW2 := Lib.hid (setRow_heap w8 g5 _ (#[.int .i64 ty.k, .int .i64 ty.n, .string ty.s, .slice a8 ty.args.length c8] : Array Value) _ _ HW.out)
    replace HR2 := Lib.hid ((setRow_other w8 g5 (w.heap.size + 2) (#[.int .i64 ty.k, .int .i64 ty.n, .string ty.s, .slice a8 ty.args.length c8] : Array Value) (by omega)).trans HR2.out)
    replace HB := Lib.hid (show Below w.heap.size w (w8.setRow g5 (#[.int .i64 ty.k, .int .i64 ty.n, .string ty.s, .slice a8 ty.args.length c8] : Array Value)) from HB.out.trans ⟨rfl, rfl, rfl, by simp, fun k hk => setRow_other _ _ _ _ (by omega)⟩)
    replace HI := Lib.hid (HI.out.imp (w' := w8.setRow g5 (#[.int .i64 ty.k, .int .i64 ty.n, .string ty.s, .slice a8 ty.args.length c8] : Array Value)) (fun _ h => h) fun b h _ => setRow_other _ _ _ _ (by have h2 : W6.heap.size ≤ b := h; omega))
    clear HW
    generalize w8.setRow g5 (#[.int .i64 ty.k, .int .i64 ty.n, .string ty.s, .slice a8 ty.args.length c8] : Array Value) = W9 at *
    refine wp_region_rest (by kernel_rfl) ?_
    have hd := (Below.refl W9.heap.size W9).drew
    replace HR2 := Lib.hid (row_on HR2.out hd)
    replace HW2 := Lib.hid (row_on HW2.out hd)
    replace HI := Lib.hid (HI.out.below hd)
    replace HB := Lib.hid (HB.out.trans (hd.mono HB.out.size))
    clear hd
    generalize W9.drew = W7 at *
    refine rest_chain 0 4 [(false, [0, 1, 2, 3])] [(false, [_, _, _, _])] rfl (by kernel_rfl) (by kernel_rfl) rfl (by kernel_rfl) (by kernel_rfl) (.inr (by kernel_rfl)) ?_
    obtain ⟨x0, x1, x2, x3⟩ := row4 HW2.out
    refine chain_soft ?_
    intro E hE
    go_wp2
    clear x0 x1 x2 x3
    refine chain_nil ?_
    refine rest_lineL 4 5 [_] rfl (by kernel_rfl) (by decide) (by decide) (by kernel_rfl) ?_
    go_wp2_with (first
      | (with_reducible show wpList _ _ _ (⟨none, .store _ (.tmp 8) _, _, _, _, _⟩ :: _) _ _
         refine wpList_store_row rfl 30 (.tmp 8) (.tmp 43) rfl (w.heap.size + 2) #[.int .i64 ty.k, .int .i64 ty.n, .string ty.s, .slice a8 ty.args.length c8] rfl rfl _ _ HR2.out size_term rfl (one4 _ _ _ _ _ _) ?_))
    refine then_rest (rest_end (by decide) ?_)
    go_wp2
    exact bodyPost_ret (v := .tuple #[.bool false, .int .i64 ey, .agg #[.int .i64 ty.k, .int .i64 ty.n, .string ty.s, .slice a8 ty.args.length c8]]) (results_tmp2_cell Try.results22 _ _ (w.heap.size + 2) _ _ _ _ _ _ rfl rfl rfl (setRow_heap _ _ _ _ _ _ HR2.out) Try.underlying30 rfl (by kernel_rfl)) rfl (hd_end (t := ty) (g := (w.heap.size + 2)) HH.out HB.out (by omega) HI.out (fun b h => by have h2 : W6.heap.size ≤ b := h; omega))
  subst hey
  replace HH := Lib.hid (HH.out.trans (if_neg (by decide)))
  go_upto_region 10 with (first
    | (with_reducible show wpList _ _ _ (⟨none, .store _ (.tmp 13) _, _, _, _, _⟩ :: _) _ _
       refine wpList_store_row rfl 30 (.tmp 13) (.tmp 39) rfl g5 #[.int .i64 ty.k, .int .i64 ty.n, .string ty.s, .slice a8 ty.args.length c8] rfl rfl _ _ HW.out size_term rfl (one4 _ _ _ _ _ _) ?_))
  have HW2 := Lib.hid (setRow_heap w8 g5 _ (#[.int .i64 ty.k, .int .i64 ty.n, .string ty.s, .slice a8 ty.args.length c8] : Array Value) _ _ HW.out)
  replace HR2 := Lib.hid ((setRow_other w8 g5 (w.heap.size + 2) (#[.int .i64 ty.k, .int .i64 ty.n, .string ty.s, .slice a8 ty.args.length c8] : Array Value) (by omega)).trans HR2.out)
  replace HB := Lib.hid (show Below w.heap.size w (w8.setRow g5 (#[.int .i64 ty.k, .int .i64 ty.n, .string ty.s, .slice a8 ty.args.length c8] : Array Value)) from HB.out.trans ⟨rfl, rfl, rfl, by simp, fun k hk => setRow_other _ _ _ _ (by omega)⟩)
  replace HI := Lib.hid (HI.out.imp (w' := w8.setRow g5 (#[.int .i64 ty.k, .int .i64 ty.n, .string ty.s, .slice a8 ty.args.length c8] : Array Value)) (fun _ h => h) fun b h _ => setRow_other _ _ _ _ (by have h2 : W6.heap.size ≤ b := h; omega))
  clear HW
  generalize w8.setRow g5 (#[.int .i64 ty.k, .int .i64 ty.n, .string ty.s, .slice a8 ty.args.length c8] : Array Value) = W9 at *
  go_wp2_with fail
  refine (num_above _ _ _).mono ?_
  rintro e10 w10 ⟨rfl, hb10⟩
  replace HR2 := Lib.hid (row_on HR2.out hb10)
  replace HB := Lib.hid (HB.out.trans (hb10.mono HB.out.size))
  clear hb10
  obtain ⟨r, hr⟩ : ∃ r, r = (decide (ny < nx)) := ⟨_, rfl⟩
  replace HH : Hid (holdsT op x y = (r, 0, zT)) := Lib.hid (by rw [HH.out, hr])
  rw [← hr]
  clear hr
  go_wp2_with (first
    | (with_reducible show wpList _ _ _ (⟨none, .store _ (.tmp 8) _, _, _, _, _⟩ :: _) _ _
       refine wpList_store_row rfl 30 (.tmp 8) (.tmp 48) rfl (w.heap.size + 2) #[.int .i64 0, .int .i64 0, .string ⟨#[]⟩, .slice none 0 0] rfl rfl _ _ HR2.out size_term rfl (one4 _ _ _ _ _ _) ?_))
  exact bodyPost_ret (v := .tuple #[.bool r, .int .i64 0, .agg #[.int .i64 0, .int .i64 0, .string ⟨#[]⟩, .slice none 0 0]]) (results_tmp2_cell Try.results22 _ _ (w.heap.size + 2) _ _ _ _ _ _ rfl rfl rfl (setRow_heap _ _ _ _ _ _ HR2.out) Try.underlying30 rfl (by kernel_rfl)) rfl (hd_end (t := zT) (g := (w.heap.size + 2)) HH.out HB.out (by omega) (z_is _ (fun b => w.heap.size + 2 < b)) (fun b h => by have h2 : w.heap.size + 2 < b := h; omega))
set_option maxRecDepth 100000 in
set_option maxHeartbeats 2000000 in
theorem go_Holds_atMost (op : ByteArray) (hfi : Instr.findNow .string (.string op) cmpEntries.toList 0 = some (some (4, .func (.func 66) #[] #[]))) (hyes : ∀ a b, holdB op a b = some (decide (a ≤ b))) (x y : Tm) (vx vy : Value) (P P2 : Nat → Prop) (w : World) (hMx : x.size ≤ 1000000000) (hMy : y.size ≤ 1000000000) (hfx : fitT x) (hfy : fitT y) (hx : IsTm w P vx x) (hy : IsTm w P2 vy y) :
    Calls Try.prog 22 #[.string op, vx, vy] w (HdPost (holdsT op x y) w) := by
  have HH := Lib.hid (show holdsT op x y = if (evalT x).2.1 ≠ 0 then (false, (evalT x).2.1, (evalT x).2.2) else if (evalT y).2.1 ≠ 0 then (false, (evalT y).2.1, (evalT y).2.2) else ((fun a b : Int => decide (a ≤ b)) (evalT x).1 (evalT y).1, 0, zT) from (if_neg (by rw [hyes]; simp)).trans (by rw [hyes]; rfl))
  clear hyes
  obtain ⟨ax, cx, rfl⟩ := hx.form
  obtain ⟨ay, cy, rfl⟩ := hy.form
  obtain ⟨t0, t1, t2, tsz, tbl⟩ := three3 w (.cells #[.int .i64 x.k, .int .i64 x.n, .string x.s, .slice ax x.args.length cx] 30 (0, 0)) (.cells #[.int .i64 y.k, .int .i64 y.n, .string y.s, .slice ay y.args.length cy] 30 (0, 0)) (.cells #[.int .i64 0, .int .i64 0, .string ⟨#[]⟩, .slice none 0 0] 30 (0, 0))
  have HR0 := Lib.hid t0
  have HR1 := Lib.hid t1
  have HR2 := Lib.hid t2
  have HB := Lib.hid tbl
  have HX := Lib.hid (hx.lt.below tbl)
  have HY := Lib.hid (hy.lt.below tbl)
  have HFX := Lib.hid hfx
  have HFY := Lib.hid hfy
  have HFI := Lib.hid hfi
  have hgz : w.heap.size + 2 < (((w.alloc (.cells #[.int .i64 x.k, .int .i64 x.n, .string x.s, .slice ax x.args.length cx] 30 (0, 0))).alloc (.cells #[.int .i64 y.k, .int .i64 y.n, .string y.s, .slice ay y.args.length cy] 30 (0, 0))).alloc (.cells #[.int .i64 0, .int .i64 0, .string ⟨#[]⟩, .slice none 0 0] 30 (0, 0))).heap.size := by omega
  clear t0 t1 t2 tbl tsz hx hy hfx hfy hfi
  go_enter Try.func22, Try.ntmps22
  go_wp2_with fail
  generalize (((w.alloc (.cells #[.int .i64 x.k, .int .i64 x.n, .string x.s, .slice ax x.args.length cx] 30 (0, 0))).alloc (.cells #[.int .i64 y.k, .int .i64 y.n, .string y.s, .slice ay y.args.length cy] 30 (0, 0))).alloc (.cells #[.int .i64 0, .int .i64 0, .string ⟨#[]⟩, .slice none 0 0] 30 (0, 0))) = W at *
  refine (go_comparisons _).mono ?_
  rintro e1 w1 ⟨b1, rfl, hm, hb1⟩
  replace HR0 := Lib.hid (row_on HR0.out hb1)
  replace HR1 := Lib.hid (row_on HR1.out hb1)
  replace HR2 := Lib.hid (row_on HR2.out hb1)
  replace HX := Lib.hid (HX.out.below hb1)
  replace HY := Lib.hid (HY.out.below hb1)
  replace HB := Lib.hid (HB.out.trans (hb1.mono HB.out.size))
  have HM := Lib.hid hm
  have hg1 := Nat.lt_of_lt_of_le hgz hb1.size
  clear hb1 hgz hm
  go_upto_region 4 with (first
    | (refine wpList_lookup_now rfl 91 (.tmp 16) (.tmp 17) rfl _ _ _ Try.underlying91 Try.underlying9 rfl b1 _ _ rfl HM.out _ HFI.out .nilFunc cmp_zero ?_
       clear HFI HM))
  obtain ⟨x0, x1, x2, x3⟩ := row4 HR0.out
  go_wp2_with fail
  clear x0 x1 x2 x3
  refine (go_Eval x _ _ _ hMx HFX.out HX.out).mono ?_
  rintro e5 w5 ⟨v5, rfl, hi5, hb5⟩
  generalize hev : evalT x = r at hi5 HH ⊢
  obtain ⟨nx, ex, tx⟩ := r
  simp only at hi5 HH ⊢
  obtain ⟨a5, c5, rfl⟩ := hi5.form
  replace HR1 := Lib.hid (row_on HR1.out hb5)
  replace HR2 := Lib.hid (row_on HR2.out hb5)
  replace HY := Lib.hid (HY.out.below hb5)
  replace HB := Lib.hid (HB.out.trans (hb5.mono HB.out.size))
  have HI := Lib.hid hi5
  have hz5 := hb5.size
  clear hi5 hb5 hev HR0 HX
  by_cases hex : ex = 0
  case neg =>
    have pe : (ex != 0) = true := by simpa using hex
    replace HH := Lib.hid (HH.out.trans (if_pos hex))
    clear hex
    go_upto_region 6 with fail
    have hb6 := below_new w5 (.cells #[.int .i64 tx.k, .int .i64 tx.n, .string tx.s, .slice a5 tx.args.length c5] 30 (0, 0))
    have h6 := heap_alloc_new w5 (.cells #[.int .i64 tx.k, .int .i64 tx.n, .string tx.s, .slice a5 tx.args.length c5] 30 (0, 0))
    replace HR2 := Lib.hid (row_on HR2.out hb6)
    replace HI := Lib.hid (HI.out.below hb6)
    replace HB := Lib.hid (HB.out.trans (hb6.mono HB.out.size))
    have HW := Lib.hid h6
    clear hb6 h6
    generalize w5.alloc (.cells #[.int .i64 tx.k, .int .i64 tx.n, .string tx.s, .slice a5 tx.args.length c5] 30 (0, 0)) = W6 at *
    refine wp_region_rest (by kernel_rfl) ?_
    have hd := (Below.refl W6.heap.size W6).drew
    replace HR2 := Lib.hid (row_on HR2.out hd)
    replace HW := Lib.hid (row_on HW.out hd)
    replace HI := Lib.hid (HI.out.below hd)
    replace HB := Lib.hid (HB.out.trans (hd.mono HB.out.size))
    clear hd
    generalize W6.drew = W7 at *
    refine rest_chain 0 4 [(false, [0, 1, 2, 3])] [(false, [_, _, _, _])] rfl (by kernel_rfl) (by kernel_rfl) rfl (by kernel_rfl) (by kernel_rfl) (.inr (by kernel_rfl)) ?_
    obtain ⟨x0, x1, x2, x3⟩ := row4 HW.out
    refine chain_soft ?_
    intro E hE
    go_wp2
    clear x0 x1 x2 x3
    refine chain_nil ?_
    refine rest_lineL 4 5 [_] rfl (by kernel_rfl) (by decide) (by decide) (by kernel_rfl) ?_
    go_wp2_with (first
      | (with_reducible show wpList _ _ _ (⟨none, .store _ (.tmp 8) _, _, _, _, _⟩ :: _) _ _
         refine wpList_store_row rfl 30 (.tmp 8) (.tmp 33) rfl (w.heap.size + 2) #[.int .i64 tx.k, .int .i64 tx.n, .string tx.s, .slice a5 tx.args.length c5] rfl rfl _ _ HR2.out size_term rfl (one4 _ _ _ _ _ _) ?_))
    refine then_rest (rest_end (by decide) ?_)
    go_wp2
    exact bodyPost_ret (v := .tuple #[.bool false, .int .i64 ex, .agg #[.int .i64 tx.k, .int .i64 tx.n, .string tx.s, .slice a5 tx.args.length c5]]) (results_tmp2_cell Try.results22 _ _ (w.heap.size + 2) _ _ _ _ _ _ rfl rfl rfl (setRow_heap _ _ _ _ _ _ HR2.out) Try.underlying30 rfl (by kernel_rfl)) rfl (hd_end (t := tx) (g := (w.heap.size + 2)) HH.out HB.out (by omega) HI.out (fun b h => by have h2 : w1.heap.size ≤ b := h; omega))
  subst hex
  replace HH := Lib.hid (HH.out.trans (if_neg (by decide)))
  go_upto_region 7 with fail
  have hb6 := below_new w5 (.cells #[.int .i64 tx.k, .int .i64 tx.n, .string tx.s, .slice a5 tx.args.length c5] 30 (0, 0))
  have h6 := heap_alloc_new w5 (.cells #[.int .i64 tx.k, .int .i64 tx.n, .string tx.s, .slice a5 tx.args.length c5] 30 (0, 0))
  have hz6 : w5.heap.size < (w5.alloc (.cells #[.int .i64 tx.k, .int .i64 tx.n, .string tx.s, .slice a5 tx.args.length c5] 30 (0, 0))).heap.size := by simp
  replace HR1 := Lib.hid (row_on HR1.out hb6)
  replace HR2 := Lib.hid (row_on HR2.out hb6)
  replace HY := Lib.hid (HY.out.below hb6)
  replace HB := Lib.hid (HB.out.trans (hb6.mono HB.out.size))
  have HW := Lib.hid h6
  clear hb6 h6 HI
  generalize w5.alloc (.cells #[.int .i64 tx.k, .int .i64 tx.n, .string tx.s, .slice a5 tx.args.length c5] 30 (0, 0)) = W6 at *
  generalize w5.heap.size = g5 at *
  obtain ⟨x0, x1, x2, x3⟩ := row4 HR1.out
  go_wp2_with fail
  clear x0 x1 x2 x3
  refine (go_Eval y _ _ _ hMy HFY.out HY.out).mono ?_
  rintro e8 w8 ⟨v8, rfl, hi8, hb8⟩
  generalize hev : evalT y = r at hi8 HH ⊢
  obtain ⟨ny, ey, ty⟩ := r
  simp only at hi8 HH ⊢
  obtain ⟨a8, c8, rfl⟩ := hi8.form
  replace HR2 := Lib.hid (row_on HR2.out hb8)
  replace HW := Lib.hid (row_on HW.out hb8)
  replace HB := Lib.hid (HB.out.trans (hb8.mono HB.out.size))
  have HI := Lib.hid hi8
  clear hi8 hb8 hev HR1 HY
  by_cases hey : ey = 0
  case neg =>
    have pe : (ey != 0) = true := by simpa using hey
    replace HH := Lib.hid (HH.out.trans (if_pos hey))
    clear hey
    go_upto_region 9 with (first
      | (with_reducible show wpList _ _ _ (⟨none, .store _ (.tmp 13) _, _, _, _, _⟩ :: _) _ _
         refine wpList_store_row rfl 30 (.tmp 13) (.tmp 39) rfl g5 #[.int .i64 ty.k, .int .i64 ty.n, .string ty.s, .slice a8 ty.args.length c8] rfl rfl _ _ HW.out size_term rfl (one4 _ _ _ _ _ _) ?_))
    have HW2 := Lib.hid (setRow_heap w8 g5 _ (#[.int .i64 ty.k, .int .i64 ty.n, .string ty.s, .slice a8 ty.args.length c8] : Array Value) _ _ HW.out)
    replace HR2 := Lib.hid ((setRow_other w8 g5 (w.heap.size + 2) (#[.int .i64 ty.k, .int .i64 ty.n, .string ty.s, .slice a8 ty.args.length c8] : Array Value) (by omega)).trans HR2.out)
    replace HB := Lib.hid (show Below w.heap.size w (w8.setRow g5 (#[.int .i64 ty.k, .int .i64 ty.n, .string ty.s, .slice a8 ty.args.length c8] : Array Value)) from HB.out.trans ⟨rfl, rfl, rfl, by simp, fun k hk => setRow_other _ _ _ _ (by omega)⟩)
    replace HI := Lib.hid (HI.out.imp (w' := w8.setRow g5 (#[.int .i64 ty.k, .int .i64 ty.n, .string ty.s, .slice a8 ty.args.length c8] : Array Value)) (fun _ h => h) fun b h _ => setRow_other _ _ _ _ (by have h2 : W6.heap.size ≤ b := h; omega))
    clear HW
    generalize w8.setRow g5 (#[.int .i64 ty.k, .int .i64 ty.n, .string ty.s, .slice a8 ty.args.length c8] : Array Value) = W9 at *
    refine wp_region_rest (by kernel_rfl) ?_
    have hd := (Below.refl W9.heap.size W9).drew
    replace HR2 := Lib.hid (row_on HR2.out hd)
    replace HW2 := Lib.hid (row_on HW2.out hd)
    replace HI := Lib.hid (HI.out.below hd)
    replace HB := Lib.hid (HB.out.trans (hd.mono HB.out.size))
    clear hd
    generalize W9.drew = W7 at *
    refine rest_chain 0 4 [(false, [0, 1, 2, 3])] [(false, [_, _, _, _])] rfl (by kernel_rfl) (by kernel_rfl) rfl (by kernel_rfl) (by kernel_rfl) (.inr (by kernel_rfl)) ?_
    obtain ⟨x0, x1, x2, x3⟩ := row4 HW2.out
    refine chain_soft ?_
    intro E hE
    go_wp2
    clear x0 x1 x2 x3
    refine chain_nil ?_
    refine rest_lineL 4 5 [_] rfl (by kernel_rfl) (by decide) (by decide) (by kernel_rfl) ?_
    go_wp2_with (first
      | (with_reducible show wpList _ _ _ (⟨none, .store _ (.tmp 8) _, _, _, _, _⟩ :: _) _ _
         refine wpList_store_row rfl 30 (.tmp 8) (.tmp 43) rfl (w.heap.size + 2) #[.int .i64 ty.k, .int .i64 ty.n, .string ty.s, .slice a8 ty.args.length c8] rfl rfl _ _ HR2.out size_term rfl (one4 _ _ _ _ _ _) ?_))
    refine then_rest (rest_end (by decide) ?_)
    go_wp2
    exact bodyPost_ret (v := .tuple #[.bool false, .int .i64 ey, .agg #[.int .i64 ty.k, .int .i64 ty.n, .string ty.s, .slice a8 ty.args.length c8]]) (results_tmp2_cell Try.results22 _ _ (w.heap.size + 2) _ _ _ _ _ _ rfl rfl rfl (setRow_heap _ _ _ _ _ _ HR2.out) Try.underlying30 rfl (by kernel_rfl)) rfl (hd_end (t := ty) (g := (w.heap.size + 2)) HH.out HB.out (by omega) HI.out (fun b h => by have h2 : W6.heap.size ≤ b := h; omega))
  subst hey
  replace HH := Lib.hid (HH.out.trans (if_neg (by decide)))
  go_upto_region 10 with (first
    | (with_reducible show wpList _ _ _ (⟨none, .store _ (.tmp 13) _, _, _, _, _⟩ :: _) _ _
       refine wpList_store_row rfl 30 (.tmp 13) (.tmp 39) rfl g5 #[.int .i64 ty.k, .int .i64 ty.n, .string ty.s, .slice a8 ty.args.length c8] rfl rfl _ _ HW.out size_term rfl (one4 _ _ _ _ _ _) ?_))
  have HW2 := Lib.hid (setRow_heap w8 g5 _ (#[.int .i64 ty.k, .int .i64 ty.n, .string ty.s, .slice a8 ty.args.length c8] : Array Value) _ _ HW.out)
  replace HR2 := Lib.hid ((setRow_other w8 g5 (w.heap.size + 2) (#[.int .i64 ty.k, .int .i64 ty.n, .string ty.s, .slice a8 ty.args.length c8] : Array Value) (by omega)).trans HR2.out)
  replace HB := Lib.hid (show Below w.heap.size w (w8.setRow g5 (#[.int .i64 ty.k, .int .i64 ty.n, .string ty.s, .slice a8 ty.args.length c8] : Array Value)) from HB.out.trans ⟨rfl, rfl, rfl, by simp, fun k hk => setRow_other _ _ _ _ (by omega)⟩)
  replace HI := Lib.hid (HI.out.imp (w' := w8.setRow g5 (#[.int .i64 ty.k, .int .i64 ty.n, .string ty.s, .slice a8 ty.args.length c8] : Array Value)) (fun _ h => h) fun b h _ => setRow_other _ _ _ _ (by have h2 : W6.heap.size ≤ b := h; omega))
  clear HW
  generalize w8.setRow g5 (#[.int .i64 ty.k, .int .i64 ty.n, .string ty.s, .slice a8 ty.args.length c8] : Array Value) = W9 at *
  go_wp2_with fail
  refine (num_atMost _ _ _).mono ?_
  rintro e10 w10 ⟨rfl, hb10⟩
  replace HR2 := Lib.hid (row_on HR2.out hb10)
  replace HB := Lib.hid (HB.out.trans (hb10.mono HB.out.size))
  clear hb10
  obtain ⟨r, hr⟩ : ∃ r, r = (decide (nx ≤ ny)) := ⟨_, rfl⟩
  replace HH : Hid (holdsT op x y = (r, 0, zT)) := Lib.hid (by rw [HH.out, hr])
  rw [← hr]
  clear hr
  go_wp2_with (first
    | (with_reducible show wpList _ _ _ (⟨none, .store _ (.tmp 8) _, _, _, _, _⟩ :: _) _ _
       refine wpList_store_row rfl 30 (.tmp 8) (.tmp 48) rfl (w.heap.size + 2) #[.int .i64 0, .int .i64 0, .string ⟨#[]⟩, .slice none 0 0] rfl rfl _ _ HR2.out size_term rfl (one4 _ _ _ _ _ _) ?_))
  exact bodyPost_ret (v := .tuple #[.bool r, .int .i64 0, .agg #[.int .i64 0, .int .i64 0, .string ⟨#[]⟩, .slice none 0 0]]) (results_tmp2_cell Try.results22 _ _ (w.heap.size + 2) _ _ _ _ _ _ rfl rfl rfl (setRow_heap _ _ _ _ _ _ HR2.out) Try.underlying30 rfl (by kernel_rfl)) rfl (hd_end (t := zT) (g := (w.heap.size + 2)) HH.out HB.out (by omega) (z_is _ (fun b => w.heap.size + 2 < b)) (fun b h => by have h2 : w.heap.size + 2 < b := h; omega))
set_option maxRecDepth 100000 in
set_option maxHeartbeats 2000000 in
theorem go_Holds_atLeast (op : ByteArray) (hfi : Instr.findNow .string (.string op) cmpEntries.toList 0 = some (some (5, .func (.func 67) #[] #[]))) (hyes : ∀ a b, holdB op a b = some (decide (b ≤ a))) (x y : Tm) (vx vy : Value) (P P2 : Nat → Prop) (w : World) (hMx : x.size ≤ 1000000000) (hMy : y.size ≤ 1000000000) (hfx : fitT x) (hfy : fitT y) (hx : IsTm w P vx x) (hy : IsTm w P2 vy y) :
    Calls Try.prog 22 #[.string op, vx, vy] w (HdPost (holdsT op x y) w) := by
  have HH := Lib.hid (show holdsT op x y = if (evalT x).2.1 ≠ 0 then (false, (evalT x).2.1, (evalT x).2.2) else if (evalT y).2.1 ≠ 0 then (false, (evalT y).2.1, (evalT y).2.2) else ((fun a b : Int => decide (b ≤ a)) (evalT x).1 (evalT y).1, 0, zT) from (if_neg (by rw [hyes]; simp)).trans (by rw [hyes]; rfl))
  clear hyes
  obtain ⟨ax, cx, rfl⟩ := hx.form
  obtain ⟨ay, cy, rfl⟩ := hy.form
  obtain ⟨t0, t1, t2, tsz, tbl⟩ := three3 w (.cells #[.int .i64 x.k, .int .i64 x.n, .string x.s, .slice ax x.args.length cx] 30 (0, 0)) (.cells #[.int .i64 y.k, .int .i64 y.n, .string y.s, .slice ay y.args.length cy] 30 (0, 0)) (.cells #[.int .i64 0, .int .i64 0, .string ⟨#[]⟩, .slice none 0 0] 30 (0, 0))
  have HR0 := Lib.hid t0
  have HR1 := Lib.hid t1
  have HR2 := Lib.hid t2
  have HB := Lib.hid tbl
  have HX := Lib.hid (hx.lt.below tbl)
  have HY := Lib.hid (hy.lt.below tbl)
  have HFX := Lib.hid hfx
  have HFY := Lib.hid hfy
  have HFI := Lib.hid hfi
  have hgz : w.heap.size + 2 < (((w.alloc (.cells #[.int .i64 x.k, .int .i64 x.n, .string x.s, .slice ax x.args.length cx] 30 (0, 0))).alloc (.cells #[.int .i64 y.k, .int .i64 y.n, .string y.s, .slice ay y.args.length cy] 30 (0, 0))).alloc (.cells #[.int .i64 0, .int .i64 0, .string ⟨#[]⟩, .slice none 0 0] 30 (0, 0))).heap.size := by omega
  clear t0 t1 t2 tbl tsz hx hy hfx hfy hfi
  go_enter Try.func22, Try.ntmps22
  go_wp2_with fail
  generalize (((w.alloc (.cells #[.int .i64 x.k, .int .i64 x.n, .string x.s, .slice ax x.args.length cx] 30 (0, 0))).alloc (.cells #[.int .i64 y.k, .int .i64 y.n, .string y.s, .slice ay y.args.length cy] 30 (0, 0))).alloc (.cells #[.int .i64 0, .int .i64 0, .string ⟨#[]⟩, .slice none 0 0] 30 (0, 0))) = W at *
  refine (go_comparisons _).mono ?_
  rintro e1 w1 ⟨b1, rfl, hm, hb1⟩
  replace HR0 := Lib.hid (row_on HR0.out hb1)
  replace HR1 := Lib.hid (row_on HR1.out hb1)
  replace HR2 := Lib.hid (row_on HR2.out hb1)
  replace HX := Lib.hid (HX.out.below hb1)
  replace HY := Lib.hid (HY.out.below hb1)
  replace HB := Lib.hid (HB.out.trans (hb1.mono HB.out.size))
  have HM := Lib.hid hm
  have hg1 := Nat.lt_of_lt_of_le hgz hb1.size
  clear hb1 hgz hm
  go_upto_region 4 with (first
    | (refine wpList_lookup_now rfl 91 (.tmp 16) (.tmp 17) rfl _ _ _ Try.underlying91 Try.underlying9 rfl b1 _ _ rfl HM.out _ HFI.out .nilFunc cmp_zero ?_
       clear HFI HM))
  obtain ⟨x0, x1, x2, x3⟩ := row4 HR0.out
  go_wp2_with fail
  clear x0 x1 x2 x3
  refine (go_Eval x _ _ _ hMx HFX.out HX.out).mono ?_
  rintro e5 w5 ⟨v5, rfl, hi5, hb5⟩
  generalize hev : evalT x = r at hi5 HH ⊢
  obtain ⟨nx, ex, tx⟩ := r
  simp only at hi5 HH ⊢
  obtain ⟨a5, c5, rfl⟩ := hi5.form
  replace HR1 := Lib.hid (row_on HR1.out hb5)
  replace HR2 := Lib.hid (row_on HR2.out hb5)
  replace HY := Lib.hid (HY.out.below hb5)
  replace HB := Lib.hid (HB.out.trans (hb5.mono HB.out.size))
  have HI := Lib.hid hi5
  have hz5 := hb5.size
  clear hi5 hb5 hev HR0 HX
  by_cases hex : ex = 0
  case neg =>
    have pe : (ex != 0) = true := by simpa using hex
    replace HH := Lib.hid (HH.out.trans (if_pos hex))
    clear hex
    go_upto_region 6 with fail
    have hb6 := below_new w5 (.cells #[.int .i64 tx.k, .int .i64 tx.n, .string tx.s, .slice a5 tx.args.length c5] 30 (0, 0))
    have h6 := heap_alloc_new w5 (.cells #[.int .i64 tx.k, .int .i64 tx.n, .string tx.s, .slice a5 tx.args.length c5] 30 (0, 0))
    replace HR2 := Lib.hid (row_on HR2.out hb6)
    replace HI := Lib.hid (HI.out.below hb6)
    replace HB := Lib.hid (HB.out.trans (hb6.mono HB.out.size))
    have HW := Lib.hid h6
    clear hb6 h6
    generalize w5.alloc (.cells #[.int .i64 tx.k, .int .i64 tx.n, .string tx.s, .slice a5 tx.args.length c5] 30 (0, 0)) = W6 at *
    refine wp_region_rest (by kernel_rfl) ?_
    have hd := (Below.refl W6.heap.size W6).drew
    replace HR2 := Lib.hid (row_on HR2.out hd)
    replace HW := Lib.hid (row_on HW.out hd)
    replace HI := Lib.hid (HI.out.below hd)
    replace HB := Lib.hid (HB.out.trans (hd.mono HB.out.size))
    clear hd
    generalize W6.drew = W7 at *
    refine rest_chain 0 4 [(false, [0, 1, 2, 3])] [(false, [_, _, _, _])] rfl (by kernel_rfl) (by kernel_rfl) rfl (by kernel_rfl) (by kernel_rfl) (.inr (by kernel_rfl)) ?_
    obtain ⟨x0, x1, x2, x3⟩ := row4 HW.out
    refine chain_soft ?_
    intro E hE
    go_wp2
    clear x0 x1 x2 x3
    refine chain_nil ?_
    refine rest_lineL 4 5 [_] rfl (by kernel_rfl) (by decide) (by decide) (by kernel_rfl) ?_
    go_wp2_with (first
      | (with_reducible show wpList _ _ _ (⟨none, .store _ (.tmp 8) _, _, _, _, _⟩ :: _) _ _
         refine wpList_store_row rfl 30 (.tmp 8) (.tmp 33) rfl (w.heap.size + 2) #[.int .i64 tx.k, .int .i64 tx.n, .string tx.s, .slice a5 tx.args.length c5] rfl rfl _ _ HR2.out size_term rfl (one4 _ _ _ _ _ _) ?_))
    refine then_rest (rest_end (by decide) ?_)
    go_wp2
    exact bodyPost_ret (v := .tuple #[.bool false, .int .i64 ex, .agg #[.int .i64 tx.k, .int .i64 tx.n, .string tx.s, .slice a5 tx.args.length c5]]) (results_tmp2_cell Try.results22 _ _ (w.heap.size + 2) _ _ _ _ _ _ rfl rfl rfl (setRow_heap _ _ _ _ _ _ HR2.out) Try.underlying30 rfl (by kernel_rfl)) rfl (hd_end (t := tx) (g := (w.heap.size + 2)) HH.out HB.out (by omega) HI.out (fun b h => by have h2 : w1.heap.size ≤ b := h; omega))
  subst hex
  replace HH := Lib.hid (HH.out.trans (if_neg (by decide)))
  go_upto_region 7 with fail
  have hb6 := below_new w5 (.cells #[.int .i64 tx.k, .int .i64 tx.n, .string tx.s, .slice a5 tx.args.length c5] 30 (0, 0))
  have h6 := heap_alloc_new w5 (.cells #[.int .i64 tx.k, .int .i64 tx.n, .string tx.s, .slice a5 tx.args.length c5] 30 (0, 0))
  have hz6 : w5.heap.size < (w5.alloc (.cells #[.int .i64 tx.k, .int .i64 tx.n, .string tx.s, .slice a5 tx.args.length c5] 30 (0, 0))).heap.size := by simp
  replace HR1 := Lib.hid (row_on HR1.out hb6)
  replace HR2 := Lib.hid (row_on HR2.out hb6)
  replace HY := Lib.hid (HY.out.below hb6)
  replace HB := Lib.hid (HB.out.trans (hb6.mono HB.out.size))
  have HW := Lib.hid h6
  clear hb6 h6 HI
  generalize w5.alloc (.cells #[.int .i64 tx.k, .int .i64 tx.n, .string tx.s, .slice a5 tx.args.length c5] 30 (0, 0)) = W6 at *
  generalize w5.heap.size = g5 at *
  obtain ⟨x0, x1, x2, x3⟩ := row4 HR1.out
  go_wp2_with fail
  clear x0 x1 x2 x3
  refine (go_Eval y _ _ _ hMy HFY.out HY.out).mono ?_
  rintro e8 w8 ⟨v8, rfl, hi8, hb8⟩
  generalize hev : evalT y = r at hi8 HH ⊢
  obtain ⟨ny, ey, ty⟩ := r
  simp only at hi8 HH ⊢
  obtain ⟨a8, c8, rfl⟩ := hi8.form
  replace HR2 := Lib.hid (row_on HR2.out hb8)
  replace HW := Lib.hid (row_on HW.out hb8)
  replace HB := Lib.hid (HB.out.trans (hb8.mono HB.out.size))
  have HI := Lib.hid hi8
  clear hi8 hb8 hev HR1 HY
  by_cases hey : ey = 0
  case neg =>
    have pe : (ey != 0) = true := by simpa using hey
    replace HH := Lib.hid (HH.out.trans (if_pos hey))
    clear hey
    go_upto_region 9 with (first
      | (with_reducible show wpList _ _ _ (⟨none, .store _ (.tmp 13) _, _, _, _, _⟩ :: _) _ _
         refine wpList_store_row rfl 30 (.tmp 13) (.tmp 39) rfl g5 #[.int .i64 ty.k, .int .i64 ty.n, .string ty.s, .slice a8 ty.args.length c8] rfl rfl _ _ HW.out size_term rfl (one4 _ _ _ _ _ _) ?_))
    have HW2 := Lib.hid (setRow_heap w8 g5 _ (#[.int .i64 ty.k, .int .i64 ty.n, .string ty.s, .slice a8 ty.args.length c8] : Array Value) _ _ HW.out)
    replace HR2 := Lib.hid ((setRow_other w8 g5 (w.heap.size + 2) (#[.int .i64 ty.k, .int .i64 ty.n, .string ty.s, .slice a8 ty.args.length c8] : Array Value) (by omega)).trans HR2.out)
    replace HB := Lib.hid (show Below w.heap.size w (w8.setRow g5 (#[.int .i64 ty.k, .int .i64 ty.n, .string ty.s, .slice a8 ty.args.length c8] : Array Value)) from HB.out.trans ⟨rfl, rfl, rfl, by simp, fun k hk => setRow_other _ _ _ _ (by omega)⟩)
    replace HI := Lib.hid (HI.out.imp (w' := w8.setRow g5 (#[.int .i64 ty.k, .int .i64 ty.n, .string ty.s, .slice a8 ty.args.length c8] : Array Value)) (fun _ h => h) fun b h _ => setRow_other _ _ _ _ (by have h2 : W6.heap.size ≤ b := h; omega))
    clear HW
    generalize w8.setRow g5 (#[.int .i64 ty.k, .int .i64 ty.n, .string ty.s, .slice a8 ty.args.length c8] : Array Value) = W9 at *
    refine wp_region_rest (by kernel_rfl) ?_
    have hd := (Below.refl W9.heap.size W9).drew
    replace HR2 := Lib.hid (row_on HR2.out hd)
    replace HW2 := Lib.hid (row_on HW2.out hd)
    replace HI := Lib.hid (HI.out.below hd)
    replace HB := Lib.hid (HB.out.trans (hd.mono HB.out.size))
    clear hd
    generalize W9.drew = W7 at *
    refine rest_chain 0 4 [(false, [0, 1, 2, 3])] [(false, [_, _, _, _])] rfl (by kernel_rfl) (by kernel_rfl) rfl (by kernel_rfl) (by kernel_rfl) (.inr (by kernel_rfl)) ?_
    obtain ⟨x0, x1, x2, x3⟩ := row4 HW2.out
    refine chain_soft ?_
    intro E hE
    go_wp2
    clear x0 x1 x2 x3
    refine chain_nil ?_
    refine rest_lineL 4 5 [_] rfl (by kernel_rfl) (by decide) (by decide) (by kernel_rfl) ?_
    go_wp2_with (first
      | (with_reducible show wpList _ _ _ (⟨none, .store _ (.tmp 8) _, _, _, _, _⟩ :: _) _ _
         refine wpList_store_row rfl 30 (.tmp 8) (.tmp 43) rfl (w.heap.size + 2) #[.int .i64 ty.k, .int .i64 ty.n, .string ty.s, .slice a8 ty.args.length c8] rfl rfl _ _ HR2.out size_term rfl (one4 _ _ _ _ _ _) ?_))
    refine then_rest (rest_end (by decide) ?_)
    go_wp2
    exact bodyPost_ret (v := .tuple #[.bool false, .int .i64 ey, .agg #[.int .i64 ty.k, .int .i64 ty.n, .string ty.s, .slice a8 ty.args.length c8]]) (results_tmp2_cell Try.results22 _ _ (w.heap.size + 2) _ _ _ _ _ _ rfl rfl rfl (setRow_heap _ _ _ _ _ _ HR2.out) Try.underlying30 rfl (by kernel_rfl)) rfl (hd_end (t := ty) (g := (w.heap.size + 2)) HH.out HB.out (by omega) HI.out (fun b h => by have h2 : W6.heap.size ≤ b := h; omega))
  subst hey
  replace HH := Lib.hid (HH.out.trans (if_neg (by decide)))
  go_upto_region 10 with (first
    | (with_reducible show wpList _ _ _ (⟨none, .store _ (.tmp 13) _, _, _, _, _⟩ :: _) _ _
       refine wpList_store_row rfl 30 (.tmp 13) (.tmp 39) rfl g5 #[.int .i64 ty.k, .int .i64 ty.n, .string ty.s, .slice a8 ty.args.length c8] rfl rfl _ _ HW.out size_term rfl (one4 _ _ _ _ _ _) ?_))
  have HW2 := Lib.hid (setRow_heap w8 g5 _ (#[.int .i64 ty.k, .int .i64 ty.n, .string ty.s, .slice a8 ty.args.length c8] : Array Value) _ _ HW.out)
  replace HR2 := Lib.hid ((setRow_other w8 g5 (w.heap.size + 2) (#[.int .i64 ty.k, .int .i64 ty.n, .string ty.s, .slice a8 ty.args.length c8] : Array Value) (by omega)).trans HR2.out)
  replace HB := Lib.hid (show Below w.heap.size w (w8.setRow g5 (#[.int .i64 ty.k, .int .i64 ty.n, .string ty.s, .slice a8 ty.args.length c8] : Array Value)) from HB.out.trans ⟨rfl, rfl, rfl, by simp, fun k hk => setRow_other _ _ _ _ (by omega)⟩)
  replace HI := Lib.hid (HI.out.imp (w' := w8.setRow g5 (#[.int .i64 ty.k, .int .i64 ty.n, .string ty.s, .slice a8 ty.args.length c8] : Array Value)) (fun _ h => h) fun b h _ => setRow_other _ _ _ _ (by have h2 : W6.heap.size ≤ b := h; omega))
  clear HW
  generalize w8.setRow g5 (#[.int .i64 ty.k, .int .i64 ty.n, .string ty.s, .slice a8 ty.args.length c8] : Array Value) = W9 at *
  go_wp2_with fail
  refine (num_atLeast _ _ _).mono ?_
  rintro e10 w10 ⟨rfl, hb10⟩
  replace HR2 := Lib.hid (row_on HR2.out hb10)
  replace HB := Lib.hid (HB.out.trans (hb10.mono HB.out.size))
  clear hb10
  obtain ⟨r, hr⟩ : ∃ r, r = (decide (ny ≤ nx)) := ⟨_, rfl⟩
  replace HH : Hid (holdsT op x y = (r, 0, zT)) := Lib.hid (by rw [HH.out, hr])
  rw [← hr]
  clear hr
  go_wp2_with (first
    | (with_reducible show wpList _ _ _ (⟨none, .store _ (.tmp 8) _, _, _, _, _⟩ :: _) _ _
       refine wpList_store_row rfl 30 (.tmp 8) (.tmp 48) rfl (w.heap.size + 2) #[.int .i64 0, .int .i64 0, .string ⟨#[]⟩, .slice none 0 0] rfl rfl _ _ HR2.out size_term rfl (one4 _ _ _ _ _ _) ?_))
  exact bodyPost_ret (v := .tuple #[.bool r, .int .i64 0, .agg #[.int .i64 0, .int .i64 0, .string ⟨#[]⟩, .slice none 0 0]]) (results_tmp2_cell Try.results22 _ _ (w.heap.size + 2) _ _ _ _ _ _ rfl rfl rfl (setRow_heap _ _ _ _ _ _ HR2.out) Try.underlying30 rfl (by kernel_rfl)) rfl (hd_end (t := zT) (g := (w.heap.size + 2)) HH.out HB.out (by omega) (z_is _ (fun b => w.heap.size + 2 < b)) (fun b h => by have h2 : w.heap.size + 2 < b := h; omega))
theorem go_Holds (op : ByteArray) (x y : Tm) (vx vy : Value) (P P2 : Nat → Prop) (w : World) (hMx : x.size ≤ 1000000000) (hMy : y.size ≤ 1000000000) (hfx : fitT x) (hfy : fitT y) (hx : IsTm w P vx x) (hy : IsTm w P2 vy y) : Calls Try.prog 22 #[.string op, vx, vy] w (HdPost (holdsT op x y) w) := by
  by_cases h0 : op = ⟨#[61, 58, 61]⟩
  · subst h0; exact go_Holds_same _ (by kernel_rfl) (fun a b => by unfold holdB; rw [if_pos rfl]) x y vx vy P P2 w hMx hMy hfx hfy hx hy
  by_cases h1 : op = ⟨#[61, 92, 61]⟩
  · subst h1; exact go_Holds_unlike _ (by kernel_rfl) (fun a b => by unfold holdB; rw [if_neg h0]; rw [if_pos rfl]) x y vx vy P P2 w hMx hMy hfx hfy hx hy
  by_cases h2 : op = ⟨#[60]⟩
  · subst h2; exact go_Holds_below _ (by kernel_rfl) (fun a b => by unfold holdB; rw [if_neg h0]; rw [if_neg h1]; rw [if_pos rfl]) x y vx vy P P2 w hMx hMy hfx hfy hx hy
  by_cases h3 : op = ⟨#[62]⟩
  · subst h3; exact go_Holds_above _ (by kernel_rfl) (fun a b => by unfold holdB; rw [if_neg h0]; rw [if_neg h1]; rw [if_neg h2]; rw [if_pos rfl]) x y vx vy P P2 w hMx hMy hfx hfy hx hy
  by_cases h4 : op = ⟨#[61, 60]⟩
  · subst h4; exact go_Holds_atMost _ (by kernel_rfl) (fun a b => by unfold holdB; rw [if_neg h0]; rw [if_neg h1]; rw [if_neg h2]; rw [if_neg h3]; rw [if_pos rfl]) x y vx vy P P2 w hMx hMy hfx hfy hx hy
  by_cases h5 : op = ⟨#[62, 61]⟩
  · subst h5; exact go_Holds_atLeast _ (by kernel_rfl) (fun a b => by unfold holdB; rw [if_neg h0]; rw [if_neg h1]; rw [if_neg h2]; rw [if_neg h3]; rw [if_neg h4]; rw [if_pos rfl]) x y vx vy P P2 w hMx hMy hfx hfy hx hy
  refine go_Holds_no op ?_ (by unfold holdB; rw [if_neg h0]; rw [if_neg h1]; rw [if_neg h2]; rw [if_neg h3]; rw [if_neg h4]; rw [if_neg h5]) x y vx vy P P2 w hMx hMy hfx hfy hx hy
  refine (find_ne (bytes_ne h0)).trans ?_
  refine (find_ne (bytes_ne h1)).trans ?_
  refine (find_ne (bytes_ne h2)).trans ?_
  refine (find_ne (bytes_ne h3)).trans ?_
  refine (find_ne (bytes_ne h4)).trans ?_
  refine (find_ne (bytes_ne h5)).trans ?_
  rfl
end Go.Proofs.Ytibjcfbilkkmkaa.Tms
