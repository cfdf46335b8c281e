
/-
  Layer 12: arith.eval and Eval, walked over the program (printed by gen_arc.py).
-/
import Derived.Test.YtibjcfbilkkmkaaArb
import Derived.Test.YtibjcfbilkkmkaaRow
import Derived.Test.YtibjcfbilkkmkaaMend
import Derived.Test.YtibjcfbilkkmkaaMsd
import Derived.Test.YtibjcfbilkkmkaaChn
import Derived.Handy
import Derived.LoopN
import Derived.Deep.Cut
namespace Go.Proofs.Ytibjcfbilkkmkaa.Tms
open Go Go.RowKit Go.Proofs.Ytibjcfbilkkmkaa.Reg Go.Proofs.Ytibjcfbilkkmkaa.Maps Go.Proofs.Ytibjcfbilkkmkaa.Num
set_option linter.unusedVariables false
set_option linter.unusedSimpArgs false

def EvPost (r : Int × Int × Tm) (w : World) (e : Ending) (w' : World) : Prop :=
  ∃ v, e = .returned (.tuple #[.int .i64 r.1, .int .i64 r.2.1, v]) ∧ IsTm w' (fun b => w.heap.size ≤ b) v r.2.2 ∧ Below w.heap.size w w'
/-- three results: two slots, and a struct in a row -/
theorem results_tmp2_cell {P : Program} {fn : Func} {p q r : Tmp} {ty : TypeId} (h : fn.results = #[.tmp q, .tmp r, .cell p ty]) (tmps : Array Value) (w : World) (g : Nat) (t : TypeId) (cs : Array Value) (fr : Nat × Nat) (d : TypeDesc) (x y : Value)
    (hp : tmps.getD p undef = .pointer (some ⟨g, 0, none⟩)) (hx : tmps.getD q undef = x) (hy : tmps.getD r undef = y) (hg : w.heap[g]? = some (.cells cs t fr))
    (hu : P.underlying ty = some d) (hd : (match d with | .struct _ | .array _ _ => true | _ => false) = true) (hi : (P.info? ty).map (·.size) = some cs.size) :
    (results fn tmps).run P w = .ok (.tuple #[x, y, .agg cs]) w := by
  have hp' : tmps[p]?.getD undef = .pointer (some ⟨g, 0, none⟩) := by simpa using hp
  have hx' : tmps[q]?.getD undef = x := by simpa using hx
  have hy' : tmps[r]?.getD undef = y := by simpa using hy
  simp [results, h, hp', hx', hy', asAddr, run_loadVar_row w g t ty cs fr d hg hu hd hi]
theorem ev_end {w W : World} {g : Nat} {r : Int × Int × Tm} {x y : Int} {a : Option Addr} {c : Nat} {t : Tm} {P : Nat → Prop} {cs : Array Value} (hr : r = (x, y, t)) (hB : Below w.heap.size w W) (hg : w.heap.size ≤ g)
    (ht : IsTm W P (.agg #[.int .i64 t.k, .int .i64 t.n, .string t.s, .slice a t.args.length c]) t) (hP : ∀ b, P b → w.heap.size ≤ b ∧ b ≠ g) :
    EvPost r w (.returned (.tuple #[.int .i64 x, .int .i64 y, .agg #[.int .i64 t.k, .int .i64 t.n, .string t.s, .slice a t.args.length c]])) (W.setRow g cs) := by
  subst hr
  exact ⟨_, rfl, ht.imp (fun b h => (hP b h).1) fun b h _ => setRow_other _ _ _ _ (hP b h).2, hB.trans ⟨rfl, rfl, rfl, by simp, fun k hk => setRow_other _ _ _ _ (by omega)⟩⟩
theorem rowA2 {w : World} {g : Nat} {y0 y1 : Value} {T : TypeId} {fr : Nat × Nat} (h : w.heap[g]? = some (.cells #[y0, y1] T fr)) : w.cell? ⟨g, 0, none⟩ = some y0 ∧ w.cell? ⟨g, 1, none⟩ = some y1 :=
  ⟨cell_of_row w g 0 _ _ _ h, cell_of_row w g 1 _ _ _ h⟩
theorem z_is (W : World) (P : Nat → Prop) : IsTm W P (.agg #[.int .i64 0, .int .i64 0, .string ⟨#[]⟩, .slice none 0 0]) zT := leaf_is _ _ _ _ _
theorem two_below (w : World) (a b : Obj) : Below w.heap.size w ((w.alloc a).alloc b) := ((Below.refl _ _).alloc (Nat.le_refl _) _).alloc (by simp) _
theorem sizes {l : List Tm} {t : Tm} (h : t ∈ l) : t.size ≤ sizeL l := by
  obtain ⟨i, hi, rfl⟩ := List.getElem_of_mem h
  exact size_mem hi
set_option maxRecDepth 100000 in
set_option maxHeartbeats 4000000 in
theorem go_eval (N : Nat) : ∀ (t : Tm) (v : Value) (P : Nat → Prop) (w : World), t.size ≤ N → t.size ≤ 1000000000 → fitT t → IsTm w P v t → Calls Try.prog 42 #[v] w (EvPost (evT t) w) := by
  induction N with
  | zero => intro t v P w hN; have := size_pos t; omega
  | succ N ih =>
    intro t v P w hN hM hfit h
    have IH := Lib.hid ih
    clear ih
    have hl := h.lt
    clear h
    obtain ⟨a, cap, rfl⟩ := hl.form
    obtain ⟨k, n, s, l⟩ := t
    have HSL := Lib.hid hl.args
    simp only [Tm.k, Tm.n, Tm.s, Tm.args] at HSL ⊢
    have HNL : Hid (sizeL l ≤ N) := Lib.hid (by simp only [Tm.size] at hN; omega)
    have HML : Hid (sizeL l ≤ 1000000000) := Lib.hid (by simp only [Tm.size] at hM; omega)
    have HF := Lib.hid hfit.2
    have hll : l.length ≤ 1000000000 := Nat.le_trans (len_le l) HML.out
    clear hl hN hM
    by_cases k1 : k = 1
    · subst k1
      rw [ev_var]
      clear HSL HNL HML HF IH hfit
      go_enter Try.func42, Try.ntmps42
      go_wp2
      exact bodyPost_ret (v := .tuple #[.int .i64 0, .int .i64 12, .agg #[.int .i64 0, .int .i64 0, .string ⟨#[]⟩, .slice none 0 0]]) (by simp [results, Try.results42, go_sem]) rfl ⟨_, rfl, z_is _ _, two_below _ _ _⟩
    have p1 : (k == 1) = false := by simpa using k1
    by_cases k2 : k = 2
    · subst k2
      rw [ev_int]
      clear HSL HNL HML HF IH hfit
      go_enter Try.func42, Try.ntmps42
      go_wp2
      exact bodyPost_ret (v := .tuple #[.int .i64 n, .int .i64 0, .agg #[.int .i64 0, .int .i64 0, .string ⟨#[]⟩, .slice none 0 0]]) (by simp [results, Try.results42, go_sem]) rfl ⟨_, rfl, z_is _ _, two_below _ _ _⟩
    have p2 : (k == 2) = false := by simpa using k2
    obtain ⟨t0, t1, tsz, tbl⟩ := two w (.cells #[.int .i64 k, .int .i64 n, .string s, .slice a l.length cap] 30 (0, 0)) (.cells #[.int .i64 0, .int .i64 0, .string ⟨#[]⟩, .slice none 0 0] 30 (0, 0))
    obtain ⟨x0, x1, x2, x3⟩ := row4 t0
    have HR0 := Lib.hid t0
    have HR1 := Lib.hid t1
    have HB := Lib.hid tbl
    replace HSL := Lib.hid (HSL.out.below tbl)
    have hgz : w.heap.size + 1 < ((w.alloc (.cells #[.int .i64 k, .int .i64 n, .string s, .slice a l.length cap] 30 (0, 0))).alloc (.cells #[.int .i64 0, .int .i64 0, .string ⟨#[]⟩, .slice none 0 0] 30 (0, 0))).heap.size := by omega
    have HGZ := Lib.hid hgz
    clear t0 t1 tbl tsz hgz
    cases hk : knB s l.length with
    | false =>
      have HE := Lib.hid (ev_no (n := n) k1 k2 hk)
      have HK := Lib.hid hk
      clear hk k1 k2 HNL HML HF IH hfit HSL
      go_enter Try.func42, Try.ntmps42
      go_wp2_with fail
      clear x0 x1 x2 x3
      generalize (w.alloc (.cells #[.int .i64 k, .int .i64 n, .string s, .slice a l.length cap] 30 (0, 0))).alloc (.cells #[.int .i64 0, .int .i64 0, .string ⟨#[]⟩, .slice none 0 0] 30 (0, 0)) = W at *
      refine (go_known s l.length _).mono ?_
      rintro e1 w1 ⟨rfl, hb1⟩
      rw [HK.out]
      replace HR0 := Lib.hid (row_on HR0.out hb1)
      replace HR1 := Lib.hid (row_on HR1.out hb1)
      replace HB := Lib.hid (HB.out.trans (hb1.mono HB.out.size))
      have hg1 := Nat.lt_of_lt_of_le HGZ.out hb1.size
      clear hb1
      obtain ⟨x0, x1, x2, x3⟩ := row4 HR0.out
      go_wp2_with fail
      clear x0 x1 x2 x3
      refine (go_ind s l.length _).mono ?_
      rintro e2 w2 ⟨v2, rfl, hi2, hb2⟩
      obtain ⟨a2, c2, rfl⟩ := hi2.form
      replace HR0 := Lib.hid (row_on HR0.out hb2)
      replace HR1 := Lib.hid (row_on HR1.out hb2)
      replace HB := Lib.hid (HB.out.trans (hb2.mono HB.out.size))
      have HI := Lib.hid hi2
      clear hi2 hb2
      go_wp2_with (first
        | (with_reducible show wpList _ _ _ (⟨none, .store _ (.tmp 4) _, _, _, _, _⟩ :: _) _ _
           refine wpList_store_row rfl 30 (.tmp 4) (.tmp 35) rfl (w.heap.size + 1) #[.int .i64 (indT s l.length).k, .int .i64 (indT s l.length).n, .string (indT s l.length).s, .slice a2 (indT s l.length).args.length c2] rfl rfl _ _ HR1.out size_term rfl (one4 _ _ _ _ _ _) ?_))
      exact bodyPost_ret (results_tmp2_cell Try.results42 _ _ (w.heap.size + 1) _ _ _ _ _ _ rfl rfl rfl (setRow_heap _ _ _ _ _ _ HR1.out) Try.underlying30 rfl (by kernel_rfl)) rfl (ev_end HE.out HB.out (by omega) HI.out (fun b h => by rcases h with h | h; exact h.elim; omega))
    | true =>
      have hkl := kn_len hk
      have HK := Lib.hid hk
      have K1 := Lib.hid k1
      have K2 := Lib.hid k2
      clear hk k1 k2
      rcases l with _ | ⟨x, _ | ⟨y, _ | ⟨z, l⟩⟩⟩
      · simp at hkl
      · simp only [List.length_cons, List.length_nil, Nat.zero_add, Nat.reduceAdd] at *
        have HS0 := Lib.hid (show x.size ≤ N by have := HNL.out; simp only [sizeL] at this; omega)
        have HM0 := Lib.hid (show x.size ≤ 1000000000 by have := HML.out; simp only [sizeL] at this; omega)
        have HF0 := Lib.hid (show fitT x from HF.out.1)
        clear HNL HML HF hkl hfit
        go_enter Try.func42, Try.ntmps42
        go_wp2_with fail
        clear x0 x1 x2 x3
        generalize (w.alloc (.cells #[.int .i64 k, .int .i64 n, .string s, .slice a 1 cap] 30 (0, 0))).alloc (.cells #[.int .i64 0, .int .i64 0, .string ⟨#[]⟩, .slice none 0 0] 30 (0, 0)) = W at *
        refine (go_known s 1 _).mono ?_
        rintro e1 w1 ⟨rfl, hb1⟩
        rw [HK.out]
        replace HR0 := Lib.hid (row_on HR0.out hb1)
        replace HR1 := Lib.hid (row_on HR1.out hb1)
        replace HSL := Lib.hid (HSL.out.below hb1)
        replace HB := Lib.hid (HB.out.trans (hb1.mono HB.out.size))
        have hg1 := Nat.lt_of_lt_of_le HGZ.out hb1.size
        clear hb1 HGZ
        obtain ⟨x0, x1, x2, x3⟩ := row4 HR0.out
        go_upto_region 9 with fail
        clear x0 x1 x2 x3
        have hbA := below_new w1 (.cells #[.int .i64 0, .int .i64 0] 110 (0, 0))
        have hA := heap_alloc_new w1 (.cells #[.int .i64 0, .int .i64 0] 110 (0, 0))
        have hgA : w1.heap.size < (w1.alloc (.cells #[.int .i64 0, .int .i64 0] 110 (0, 0))).heap.size := by simp
        replace HR0 := Lib.hid (row_on HR0.out hbA)
        replace HR1 := Lib.hid (row_on HR1.out hbA)
        replace HSL := Lib.hid (HSL.out.below hbA)
        replace HB := Lib.hid (HB.out.trans (hbA.mono HB.out.size))
        have HA := Lib.hid hA
        clear hbA hA
        generalize w1.alloc (.cells #[.int .i64 0, .int .i64 0] 110 (0, 0)) = W3 at *
        generalize w1.heap.size = gA at *
        obtain ⟨x0, x1, x2, x3⟩ := row4 HR0.out
        go_wp2_with fail
        clear x0 x1 x2 x3
        refine wp_loop_rounds 2 ?_
        rw [rounds_succ]
        obtain ⟨b0, o0, hab0, hP0, hta0⟩ := HSL.out.at 0 (by simp)
        subst hab0
        obtain ⟨ax0, cx0, y0, y1, y2, y3, hx0, -⟩ := hta0.read
        simp only [Nat.zero_mul, Nat.one_mul, Nat.add_zero, List.getElem_cons_zero, List.getElem_cons_succ, Nat.add_assoc, Nat.reduceAdd] at y0 y1 y2 y3 hx0
        go_wp2_with fail
        have hb4 := below_new W3 (.cells #[.int .i64 x.k, .int .i64 x.n, .string x.s, .slice ax0 x.args.length cx0] 30 (0, 0))
        have h4 := heap_alloc_new W3 (.cells #[.int .i64 x.k, .int .i64 x.n, .string x.s, .slice ax0 x.args.length cx0] 30 (0, 0))
        have hz4 : W3.heap.size < (W3.alloc (.cells #[.int .i64 x.k, .int .i64 x.n, .string x.s, .slice ax0 x.args.length cx0] 30 (0, 0))).heap.size := by simp
        have HX := Lib.hid (hx0.below hb4)
        replace HR0 := Lib.hid (row_on HR0.out hb4)
        replace HR1 := Lib.hid (row_on HR1.out hb4)
        replace HA := Lib.hid (row_on HA.out hb4)
        replace HSL := Lib.hid (HSL.out.below hb4)
        replace HB := Lib.hid (HB.out.trans (hb4.mono HB.out.size))
        clear y0 y1 y2 y3 hx0 hta0 hb4 h4
        generalize W3.alloc (.cells #[.int .i64 x.k, .int .i64 x.n, .string x.s, .slice ax0 x.args.length cx0] 30 (0, 0)) = W4 at *
        generalize W3.heap.size = g70 at *
        refine (IH.out x _ _ _ HS0.out HM0.out HF0.out HX.out).mono ?_
        rintro e5 w5 ⟨v5, rfl, hi5, hb5⟩
        have hgood := ev_good x HF0.out
        generalize hev : evT x = rx at hi5 hgood ⊢
        obtain ⟨nx, ex, tx⟩ := rx
        have HEx := Lib.hid hev
        clear hev
        simp only at hi5 hgood ⊢
        obtain ⟨a5, c5, rfl⟩ := hi5.form
        replace HR0 := Lib.hid (row_on HR0.out hb5)
        replace HR1 := Lib.hid (row_on HR1.out hb5)
        replace HA := Lib.hid (row_on HA.out hb5)
        replace HSL := Lib.hid (HSL.out.below hb5)
        replace HB := Lib.hid (HB.out.trans (hb5.mono HB.out.size))
        have hz5 := hb5.size
        have HI := Lib.hid hi5
        clear hi5 hb5 HX
        by_cases hex : ex = 0
        case neg =>
          have pe : (ex != 0) = true := by simpa using hex
          have HE := Lib.hid (ev1_bad (n := n) K1.out K2.out HK.out HEx.out hex)
          clear hex
          go_upto_region 14 with fail
          have hb6 := below_new w5 (.cells #[.int .i64 tx.k, .int .i64 tx.n, .string tx.s, .slice a5 tx.args.length c5] 30 (0, 0))
          have h6 := heap_alloc_new w5 (.cells #[.int .i64 tx.k, .int .i64 tx.n, .string tx.s, .slice a5 tx.args.length c5] 30 (0, 0))
          replace HR1 := Lib.hid (row_on HR1.out hb6)
          replace HI := Lib.hid (HI.out.below hb6)
          replace HB := Lib.hid (HB.out.trans (hb6.mono HB.out.size))
          have HW := Lib.hid h6
          clear hb6 h6
          generalize w5.alloc (.cells #[.int .i64 tx.k, .int .i64 tx.n, .string tx.s, .slice a5 tx.args.length c5] 30 (0, 0)) = W6 at *
          refine wp_region_rest (by kernel_rfl) ?_
          have hd := (Below.refl W6.heap.size W6).drew
          replace HR1 := Lib.hid (row_on HR1.out hd)
          replace HW := Lib.hid (row_on HW.out hd)
          replace HI := Lib.hid (HI.out.below hd)
          replace HB := Lib.hid (HB.out.trans (hd.mono HB.out.size))
          clear hd
          generalize W6.drew = W7 at *
          refine rest_chain 0 4 [(false, [0, 1, 2, 3])] [(false, [_, _, _, _])] rfl (by kernel_rfl) (by kernel_rfl) rfl (by kernel_rfl) (by kernel_rfl) (.inr (by kernel_rfl)) ?_
          obtain ⟨x0, x1, x2, x3⟩ := row4 HW.out
          refine chain_soft ?_
          intro E hE
          go_wp2
          clear x0 x1 x2 x3
          refine chain_nil ?_
          refine rest_lineL 4 5 [_] rfl (by kernel_rfl) (by decide) (by decide) (by kernel_rfl) ?_
          go_wp2_with (first
            | (with_reducible show wpList _ _ _ (⟨none, .store _ (.tmp 4) _, _, _, _, _⟩ :: _) _ _
               refine wpList_store_row rfl 30 (.tmp 4) (.tmp 53) rfl (w.heap.size + 1) #[.int .i64 tx.k, .int .i64 tx.n, .string tx.s, .slice a5 tx.args.length c5] rfl rfl _ _ HR1.out size_term rfl (one4 _ _ _ _ _ _) ?_))
          refine then_rest (rest_end (by decide) ?_)
          go_wp2
          exact bodyPost_ret (v := .tuple #[.int .i64 0, .int .i64 ex, .agg #[.int .i64 tx.k, .int .i64 tx.n, .string tx.s, .slice a5 tx.args.length c5]]) (results_tmp2_cell Try.results42 _ _ (w.heap.size + 1) _ _ _ _ _ _ rfl rfl rfl (setRow_heap _ _ _ _ _ _ HR1.out) Try.underlying30 rfl (by kernel_rfl)) rfl (ev_end (t := tx) (g := w.heap.size + 1) HE.out HB.out (by omega) HI.out (fun b h => by have h2 : W4.heap.size ≤ b := h; omega))
        subst hex
        have hfx := hgood.2
        clear hgood
        go_upto_region 15 with fail
        have hb6 := below_new w5 (.cells #[.int .i64 tx.k, .int .i64 tx.n, .string tx.s, .slice a5 tx.args.length c5] 30 (0, 0))
        replace HR0 := Lib.hid (row_on HR0.out hb6)
        replace HR1 := Lib.hid (row_on HR1.out hb6)
        replace HA := Lib.hid (row_on HA.out hb6)
        replace HSL := Lib.hid (HSL.out.below hb6)
        replace HB := Lib.hid (HB.out.trans (hb6.mono HB.out.size))
        have hz6 : W4.heap.size < (w5.alloc (.cells #[.int .i64 tx.k, .int .i64 tx.n, .string tx.s, .slice a5 tx.args.length c5] 30 (0, 0))).heap.size := Nat.lt_of_le_of_lt hz5 (by simp)
        clear hb6 HI
        generalize w5.alloc (.cells #[.int .i64 tx.k, .int .i64 tx.n, .string tx.s, .slice a5 tx.args.length c5] 30 (0, 0)) = W6 at *
        obtain ⟨z0, z1⟩ := rowA2 HA.out
        have fz := zero_frozen (q := 0) HA.out
        go_wp2_with fail
        clear z0 z1 fz
        have hA : (W6.setCell ⟨gA, 0, none⟩ (.int .i64 nx)).heap[gA]? = some (.cells #[.int .i64 nx, .int .i64 0] 110 (0, 0)) := by have := heap_setCell_same W6 gA 0 _ _ (.int .i64 nx) HA.out; simpa using this
        replace HR0 := Lib.hid ((Below.heap_setCell W6 ⟨gA, 0, none⟩ (.int .i64 nx) w.heap.size (show _ ≠ gA by omega)).trans HR0.out)
        replace HR1 := Lib.hid ((Below.heap_setCell W6 ⟨gA, 0, none⟩ (.int .i64 nx) (w.heap.size + 1) (show _ ≠ gA by omega)).trans HR1.out)
        replace HSL := Lib.hid (HSL.out.imp (w' := W6.setCell ⟨gA, 0, none⟩ (.int .i64 nx)) (fun _ h => h) fun b h _ => Below.heap_setCell W6 ⟨gA, 0, none⟩ _ b (show b ≠ gA by have := h.2; omega))
        replace HB := Lib.hid (show Below w.heap.size w (W6.setCell ⟨gA, 0, none⟩ (.int .i64 nx)) from HB.out.setCell (show w.heap.size ≤ gA by omega) _)
        replace HA := Lib.hid hA
        have hz3 : W4.heap.size < (W6.setCell ⟨gA, 0, none⟩ (.int .i64 nx)).heap.size := by simpa [World.setCell] using hz6
        clear hA
        generalize W6.setCell ⟨gA, 0, none⟩ (.int .i64 nx) = W3 at *
        rw [rounds_succ]
        obtain ⟨x0, x1, x2, x3⟩ := row4 HR0.out
        obtain ⟨z0, z1⟩ := rowA2 HA.out
        go_wp2_with fail
        clear x0 x1 x2 x3
        clear z0 z1
        refine (go_One s nx hfx _).mono ?_
        rintro e8 w8 ⟨rfl, hb8⟩
        have hg8 := one_g HK.out hfx
        generalize hone : oneT s nx = r at hg8 ⊢
        obtain ⟨m, er⟩ := r
        have HO := Lib.hid hone
        replace HR0 := Lib.hid (row_on HR0.out hb8)
        replace HR1 := Lib.hid (row_on HR1.out hb8)
        replace HB := Lib.hid (HB.out.trans (hb8.mono HB.out.size))
        clear hone hb8
        simp only at hg8 ⊢
        by_cases he8 : er = 0
        case neg =>
          have pe : (er != 0) = true := by simpa using he8
          have HE := Lib.hid (ev1_op (n := n) K1.out K2.out HK.out HEx.out)
          rw [HO.out, show m = 0 from hg8.2.1 he8] at HE
          clear he8 hg8
          obtain ⟨x0, x1, x2, x3⟩ := row4 HR0.out
          go_upto_region 21 with fail
          clear x0 x1 x2 x3
          go_wp2_with (first
            | (with_reducible show wpList _ _ _ (⟨none, .store _ (.tmp 4) _, _, _, _, _⟩ :: _) _ _
               refine wpList_store_row rfl 30 (.tmp 4) (.tmp 83) rfl (w.heap.size + 1) #[.int .i64 0, .int .i64 0, .string ⟨#[]⟩, .slice none 0 0] rfl rfl _ _ HR1.out size_term rfl (one4 _ _ _ _ _ _) ?_))
          exact bodyPost_ret (v := .tuple #[.int .i64 0, .int .i64 er, .agg #[.int .i64 0, .int .i64 0, .string ⟨#[]⟩, .slice none 0 0]]) (results_tmp2_cell Try.results42 _ _ (w.heap.size + 1) _ _ _ _ _ _ rfl rfl rfl (setRow_heap _ _ _ _ _ _ HR1.out) Try.underlying30 rfl (by kernel_rfl)) rfl (ev_end (t := zT) (g := w.heap.size + 1) HE.out HB.out (by omega) (z_is _ (fun b => w.heap.size + 1 < b)) (fun b h => by have h2 : w.heap.size + 1 < b := h; omega))
        subst he8
        have HE := Lib.hid (ev1_op (n := n) K1.out K2.out HK.out HEx.out)
        rw [HO.out] at HE
        clear hg8
        obtain ⟨x0, x1, x2, x3⟩ := row4 HR0.out
        go_upto_region 22 with fail
        clear x0 x1 x2 x3
        go_wp2_with (first
          | (with_reducible show wpList _ _ _ (⟨none, .store _ (.tmp 4) _, _, _, _, _⟩ :: _) _ _
             refine wpList_store_row rfl 30 (.tmp 4) (.tmp 85) rfl (w.heap.size + 1) #[.int .i64 0, .int .i64 0, .string ⟨#[]⟩, .slice none 0 0] rfl rfl _ _ HR1.out size_term rfl (one4 _ _ _ _ _ _) ?_))
        exact bodyPost_ret (v := .tuple #[.int .i64 m, .int .i64 0, .agg #[.int .i64 0, .int .i64 0, .string ⟨#[]⟩, .slice none 0 0]]) (results_tmp2_cell Try.results42 _ _ (w.heap.size + 1) _ _ _ _ _ _ rfl rfl rfl (setRow_heap _ _ _ _ _ _ HR1.out) Try.underlying30 rfl (by kernel_rfl)) rfl (ev_end (t := zT) (g := w.heap.size + 1) HE.out HB.out (by omega) (z_is _ (fun b => w.heap.size + 1 < b)) (fun b h => by have h2 : w.heap.size + 1 < b := h; omega))
      · simp only [List.length_cons, List.length_nil, Nat.zero_add, Nat.reduceAdd] at *
        have HS0 := Lib.hid (show x.size ≤ N by have := HNL.out; simp only [sizeL] at this; omega)
        have HM0 := Lib.hid (show x.size ≤ 1000000000 by have := HML.out; simp only [sizeL] at this; omega)
        have HF0 := Lib.hid (show fitT x from HF.out.1)
        have HS1 := Lib.hid (show y.size ≤ N by have := HNL.out; simp only [sizeL] at this; omega)
        have HM1 := Lib.hid (show y.size ≤ 1000000000 by have := HML.out; simp only [sizeL] at this; omega)
        have HF1 := Lib.hid (show fitT y from HF.out.2.1)
        clear HNL HML HF hkl hfit
        go_enter Try.func42, Try.ntmps42
        go_wp2_with fail
        clear x0 x1 x2 x3
        generalize (w.alloc (.cells #[.int .i64 k, .int .i64 n, .string s, .slice a 2 cap] 30 (0, 0))).alloc (.cells #[.int .i64 0, .int .i64 0, .string ⟨#[]⟩, .slice none 0 0] 30 (0, 0)) = W at *
        refine (go_known s 2 _).mono ?_
        rintro e1 w1 ⟨rfl, hb1⟩
        rw [HK.out]
        replace HR0 := Lib.hid (row_on HR0.out hb1)
        replace HR1 := Lib.hid (row_on HR1.out hb1)
        replace HSL := Lib.hid (HSL.out.below hb1)
        replace HB := Lib.hid (HB.out.trans (hb1.mono HB.out.size))
        have hg1 := Nat.lt_of_lt_of_le HGZ.out hb1.size
        clear hb1 HGZ
        obtain ⟨x0, x1, x2, x3⟩ := row4 HR0.out
        go_upto_region 9 with fail
        clear x0 x1 x2 x3
        have hbA := below_new w1 (.cells #[.int .i64 0, .int .i64 0] 110 (0, 0))
        have hA := heap_alloc_new w1 (.cells #[.int .i64 0, .int .i64 0] 110 (0, 0))
        have hgA : w1.heap.size < (w1.alloc (.cells #[.int .i64 0, .int .i64 0] 110 (0, 0))).heap.size := by simp
        replace HR0 := Lib.hid (row_on HR0.out hbA)
        replace HR1 := Lib.hid (row_on HR1.out hbA)
        replace HSL := Lib.hid (HSL.out.below hbA)
        replace HB := Lib.hid (HB.out.trans (hbA.mono HB.out.size))
        have HA := Lib.hid hA
        clear hbA hA
        generalize w1.alloc (.cells #[.int .i64 0, .int .i64 0] 110 (0, 0)) = W3 at *
        generalize w1.heap.size = gA at *
        obtain ⟨x0, x1, x2, x3⟩ := row4 HR0.out
        go_wp2_with fail
        clear x0 x1 x2 x3
        refine wp_loop_rounds 3 ?_
        rw [rounds_succ]
        obtain ⟨b0, o0, hab0, hP0, hta0⟩ := HSL.out.at 0 (by simp)
        subst hab0
        obtain ⟨ax0, cx0, y0, y1, y2, y3, hx0, -⟩ := hta0.read
        simp only [Nat.zero_mul, Nat.one_mul, Nat.add_zero, List.getElem_cons_zero, List.getElem_cons_succ, Nat.add_assoc, Nat.reduceAdd] at y0 y1 y2 y3 hx0
        go_wp2_with fail
        have hb4 := below_new W3 (.cells #[.int .i64 x.k, .int .i64 x.n, .string x.s, .slice ax0 x.args.length cx0] 30 (0, 0))
        have h4 := heap_alloc_new W3 (.cells #[.int .i64 x.k, .int .i64 x.n, .string x.s, .slice ax0 x.args.length cx0] 30 (0, 0))
        have hz4 : W3.heap.size < (W3.alloc (.cells #[.int .i64 x.k, .int .i64 x.n, .string x.s, .slice ax0 x.args.length cx0] 30 (0, 0))).heap.size := by simp
        have HX := Lib.hid (hx0.below hb4)
        replace HR0 := Lib.hid (row_on HR0.out hb4)
        replace HR1 := Lib.hid (row_on HR1.out hb4)
        replace HA := Lib.hid (row_on HA.out hb4)
        replace HSL := Lib.hid (HSL.out.below hb4)
        replace HB := Lib.hid (HB.out.trans (hb4.mono HB.out.size))
        clear y0 y1 y2 y3 hx0 hta0 hb4 h4
        generalize W3.alloc (.cells #[.int .i64 x.k, .int .i64 x.n, .string x.s, .slice ax0 x.args.length cx0] 30 (0, 0)) = W4 at *
        generalize W3.heap.size = g70 at *
        refine (IH.out x _ _ _ HS0.out HM0.out HF0.out HX.out).mono ?_
        rintro e5 w5 ⟨v5, rfl, hi5, hb5⟩
        have hgood := ev_good x HF0.out
        generalize hev : evT x = rx at hi5 hgood ⊢
        obtain ⟨nx, ex, tx⟩ := rx
        have HEx := Lib.hid hev
        clear hev
        simp only at hi5 hgood ⊢
        obtain ⟨a5, c5, rfl⟩ := hi5.form
        replace HR0 := Lib.hid (row_on HR0.out hb5)
        replace HR1 := Lib.hid (row_on HR1.out hb5)
        replace HA := Lib.hid (row_on HA.out hb5)
        replace HSL := Lib.hid (HSL.out.below hb5)
        replace HB := Lib.hid (HB.out.trans (hb5.mono HB.out.size))
        have hz5 := hb5.size
        have HI := Lib.hid hi5
        clear hi5 hb5 HX
        by_cases hex : ex = 0
        case neg =>
          have pe : (ex != 0) = true := by simpa using hex
          have HE := Lib.hid (ev2_bad1 (n := n) (y := y) K1.out K2.out HK.out HEx.out hex)
          clear hex
          go_upto_region 14 with fail
          have hb6 := below_new w5 (.cells #[.int .i64 tx.k, .int .i64 tx.n, .string tx.s, .slice a5 tx.args.length c5] 30 (0, 0))
          have h6 := heap_alloc_new w5 (.cells #[.int .i64 tx.k, .int .i64 tx.n, .string tx.s, .slice a5 tx.args.length c5] 30 (0, 0))
          replace HR1 := Lib.hid (row_on HR1.out hb6)
          replace HI := Lib.hid (HI.out.below hb6)
          replace HB := Lib.hid (HB.out.trans (hb6.mono HB.out.size))
          have HW := Lib.hid h6
          clear hb6 h6
          generalize w5.alloc (.cells #[.int .i64 tx.k, .int .i64 tx.n, .string tx.s, .slice a5 tx.args.length c5] 30 (0, 0)) = W6 at *
          refine wp_region_rest (by kernel_rfl) ?_
          have hd := (Below.refl W6.heap.size W6).drew
          replace HR1 := Lib.hid (row_on HR1.out hd)
          replace HW := Lib.hid (row_on HW.out hd)
          replace HI := Lib.hid (HI.out.below hd)
          replace HB := Lib.hid (HB.out.trans (hd.mono HB.out.size))
          clear hd
          generalize W6.drew = W7 at *
          refine rest_chain 0 4 [(false, [0, 1, 2, 3])] [(false, [_, _, _, _])] rfl (by kernel_rfl) (by kernel_rfl) rfl (by kernel_rfl) (by kernel_rfl) (.inr (by kernel_rfl)) ?_
          obtain ⟨x0, x1, x2, x3⟩ := row4 HW.out
          refine chain_soft ?_
          intro E hE
          go_wp2
          clear x0 x1 x2 x3
          refine chain_nil ?_
          refine rest_lineL 4 5 [_] rfl (by kernel_rfl) (by decide) (by decide) (by kernel_rfl) ?_
          go_wp2_with (first
            | (with_reducible show wpList _ _ _ (⟨none, .store _ (.tmp 4) _, _, _, _, _⟩ :: _) _ _
               refine wpList_store_row rfl 30 (.tmp 4) (.tmp 53) rfl (w.heap.size + 1) #[.int .i64 tx.k, .int .i64 tx.n, .string tx.s, .slice a5 tx.args.length c5] rfl rfl _ _ HR1.out size_term rfl (one4 _ _ _ _ _ _) ?_))
          refine then_rest (rest_end (by decide) ?_)
          go_wp2
          exact bodyPost_ret (v := .tuple #[.int .i64 0, .int .i64 ex, .agg #[.int .i64 tx.k, .int .i64 tx.n, .string tx.s, .slice a5 tx.args.length c5]]) (results_tmp2_cell Try.results42 _ _ (w.heap.size + 1) _ _ _ _ _ _ rfl rfl rfl (setRow_heap _ _ _ _ _ _ HR1.out) Try.underlying30 rfl (by kernel_rfl)) rfl (ev_end (t := tx) (g := w.heap.size + 1) HE.out HB.out (by omega) HI.out (fun b h => by have h2 : W4.heap.size ≤ b := h; omega))
        subst hex
        have hfx := hgood.2
        clear hgood
        go_upto_region 15 with fail
        have hb6 := below_new w5 (.cells #[.int .i64 tx.k, .int .i64 tx.n, .string tx.s, .slice a5 tx.args.length c5] 30 (0, 0))
        replace HR0 := Lib.hid (row_on HR0.out hb6)
        replace HR1 := Lib.hid (row_on HR1.out hb6)
        replace HA := Lib.hid (row_on HA.out hb6)
        replace HSL := Lib.hid (HSL.out.below hb6)
        replace HB := Lib.hid (HB.out.trans (hb6.mono HB.out.size))
        have hz6 : W4.heap.size < (w5.alloc (.cells #[.int .i64 tx.k, .int .i64 tx.n, .string tx.s, .slice a5 tx.args.length c5] 30 (0, 0))).heap.size := Nat.lt_of_le_of_lt hz5 (by simp)
        clear hb6 HI
        generalize w5.alloc (.cells #[.int .i64 tx.k, .int .i64 tx.n, .string tx.s, .slice a5 tx.args.length c5] 30 (0, 0)) = W6 at *
        obtain ⟨z0, z1⟩ := rowA2 HA.out
        have fz := zero_frozen (q := 0) HA.out
        go_wp2_with fail
        clear z0 z1 fz
        have hA : (W6.setCell ⟨gA, 0, none⟩ (.int .i64 nx)).heap[gA]? = some (.cells #[.int .i64 nx, .int .i64 0] 110 (0, 0)) := by have := heap_setCell_same W6 gA 0 _ _ (.int .i64 nx) HA.out; simpa using this
        replace HR0 := Lib.hid ((Below.heap_setCell W6 ⟨gA, 0, none⟩ (.int .i64 nx) w.heap.size (show _ ≠ gA by omega)).trans HR0.out)
        replace HR1 := Lib.hid ((Below.heap_setCell W6 ⟨gA, 0, none⟩ (.int .i64 nx) (w.heap.size + 1) (show _ ≠ gA by omega)).trans HR1.out)
        replace HSL := Lib.hid (HSL.out.imp (w' := W6.setCell ⟨gA, 0, none⟩ (.int .i64 nx)) (fun _ h => h) fun b h _ => Below.heap_setCell W6 ⟨gA, 0, none⟩ _ b (show b ≠ gA by have := h.2; omega))
        replace HB := Lib.hid (show Below w.heap.size w (W6.setCell ⟨gA, 0, none⟩ (.int .i64 nx)) from HB.out.setCell (show w.heap.size ≤ gA by omega) _)
        replace HA := Lib.hid hA
        have hz3 : W4.heap.size < (W6.setCell ⟨gA, 0, none⟩ (.int .i64 nx)).heap.size := by simpa [World.setCell] using hz6
        clear hA
        generalize W6.setCell ⟨gA, 0, none⟩ (.int .i64 nx) = W3 at *
        rw [rounds_succ]
        obtain ⟨b1, o1, hab1, hP1, hta1⟩ := HSL.out.at 1 (by simp)
        obtain ⟨rfl, rfl⟩ : b1 = b0 ∧ o1 = o0 := by simp at hab1; exact ⟨hab1.1.symm, hab1.2.symm⟩
        obtain ⟨ax1, cx1, y0, y1, y2, y3, hx1, -⟩ := hta1.read
        simp only [Nat.zero_mul, Nat.one_mul, Nat.add_zero, List.getElem_cons_zero, List.getElem_cons_succ, Nat.add_assoc, Nat.reduceAdd] at y0 y1 y2 y3 hx1
        go_wp2_with fail
        have hb4 := below_new W3 (.cells #[.int .i64 y.k, .int .i64 y.n, .string y.s, .slice ax1 y.args.length cx1] 30 (0, 0))
        have h4 := heap_alloc_new W3 (.cells #[.int .i64 y.k, .int .i64 y.n, .string y.s, .slice ax1 y.args.length cx1] 30 (0, 0))
        have hz4 : W3.heap.size < (W3.alloc (.cells #[.int .i64 y.k, .int .i64 y.n, .string y.s, .slice ax1 y.args.length cx1] 30 (0, 0))).heap.size := by simp
        have HX := Lib.hid (hx1.below hb4)
        replace HR0 := Lib.hid (row_on HR0.out hb4)
        replace HR1 := Lib.hid (row_on HR1.out hb4)
        replace HA := Lib.hid (row_on HA.out hb4)
        replace HSL := Lib.hid (HSL.out.below hb4)
        replace HB := Lib.hid (HB.out.trans (hb4.mono HB.out.size))
        clear y0 y1 y2 y3 hx1 hta1 hb4 h4
        generalize W3.alloc (.cells #[.int .i64 y.k, .int .i64 y.n, .string y.s, .slice ax1 y.args.length cx1] 30 (0, 0)) = W4 at *
        generalize W3.heap.size = g71 at *
        refine (IH.out y _ _ _ HS1.out HM1.out HF1.out HX.out).mono ?_
        rintro e5 w5 ⟨v5, rfl, hi5, hb5⟩
        have hgood := ev_good y HF1.out
        generalize hev : evT y = ry at hi5 hgood ⊢
        obtain ⟨ny, ey, ty⟩ := ry
        have HEy := Lib.hid hev
        clear hev
        simp only at hi5 hgood ⊢
        obtain ⟨a5, c5, rfl⟩ := hi5.form
        replace HR0 := Lib.hid (row_on HR0.out hb5)
        replace HR1 := Lib.hid (row_on HR1.out hb5)
        replace HA := Lib.hid (row_on HA.out hb5)
        replace HSL := Lib.hid (HSL.out.below hb5)
        replace HB := Lib.hid (HB.out.trans (hb5.mono HB.out.size))
        have hz5 := hb5.size
        have HI := Lib.hid hi5
        clear hi5 hb5 HX
        by_cases hey : ey = 0
        case neg =>
          have pe : (ey != 0) = true := by simpa using hey
          have HE := Lib.hid (ev2_bad2 (n := n) (y := y) K1.out K2.out HK.out HEx.out HEy.out hey)
          clear hey
          go_upto_region 14 with fail
          have hb6 := below_new w5 (.cells #[.int .i64 ty.k, .int .i64 ty.n, .string ty.s, .slice a5 ty.args.length c5] 30 (0, 0))
          have h6 := heap_alloc_new w5 (.cells #[.int .i64 ty.k, .int .i64 ty.n, .string ty.s, .slice a5 ty.args.length c5] 30 (0, 0))
          replace HR1 := Lib.hid (row_on HR1.out hb6)
          replace HI := Lib.hid (HI.out.below hb6)
          replace HB := Lib.hid (HB.out.trans (hb6.mono HB.out.size))
          have HW := Lib.hid h6
          clear hb6 h6
          generalize w5.alloc (.cells #[.int .i64 ty.k, .int .i64 ty.n, .string ty.s, .slice a5 ty.args.length c5] 30 (0, 0)) = W6 at *
          refine wp_region_rest (by kernel_rfl) ?_
          have hd := (Below.refl W6.heap.size W6).drew
          replace HR1 := Lib.hid (row_on HR1.out hd)
          replace HW := Lib.hid (row_on HW.out hd)
          replace HI := Lib.hid (HI.out.below hd)
          replace HB := Lib.hid (HB.out.trans (hd.mono HB.out.size))
          clear hd
          generalize W6.drew = W7 at *
          refine rest_chain 0 4 [(false, [0, 1, 2, 3])] [(false, [_, _, _, _])] rfl (by kernel_rfl) (by kernel_rfl) rfl (by kernel_rfl) (by kernel_rfl) (.inr (by kernel_rfl)) ?_
          obtain ⟨x0, x1, x2, x3⟩ := row4 HW.out
          refine chain_soft ?_
          intro E hE
          go_wp2
          clear x0 x1 x2 x3
          refine chain_nil ?_
          refine rest_lineL 4 5 [_] rfl (by kernel_rfl) (by decide) (by decide) (by kernel_rfl) ?_
          go_wp2_with (first
            | (with_reducible show wpList _ _ _ (⟨none, .store _ (.tmp 4) _, _, _, _, _⟩ :: _) _ _
               refine wpList_store_row rfl 30 (.tmp 4) (.tmp 53) rfl (w.heap.size + 1) #[.int .i64 ty.k, .int .i64 ty.n, .string ty.s, .slice a5 ty.args.length c5] rfl rfl _ _ HR1.out size_term rfl (one4 _ _ _ _ _ _) ?_))
          refine then_rest (rest_end (by decide) ?_)
          go_wp2
          exact bodyPost_ret (v := .tuple #[.int .i64 0, .int .i64 ey, .agg #[.int .i64 ty.k, .int .i64 ty.n, .string ty.s, .slice a5 ty.args.length c5]]) (results_tmp2_cell Try.results42 _ _ (w.heap.size + 1) _ _ _ _ _ _ rfl rfl rfl (setRow_heap _ _ _ _ _ _ HR1.out) Try.underlying30 rfl (by kernel_rfl)) rfl (ev_end (t := ty) (g := w.heap.size + 1) HE.out HB.out (by omega) HI.out (fun b h => by have h2 : W4.heap.size ≤ b := h; omega))
        subst hey
        have hfy := hgood.2
        clear hgood
        go_upto_region 15 with fail
        have hb6 := below_new w5 (.cells #[.int .i64 ty.k, .int .i64 ty.n, .string ty.s, .slice a5 ty.args.length c5] 30 (0, 0))
        replace HR0 := Lib.hid (row_on HR0.out hb6)
        replace HR1 := Lib.hid (row_on HR1.out hb6)
        replace HA := Lib.hid (row_on HA.out hb6)
        replace HSL := Lib.hid (HSL.out.below hb6)
        replace HB := Lib.hid (HB.out.trans (hb6.mono HB.out.size))
        have hz6 : W4.heap.size < (w5.alloc (.cells #[.int .i64 ty.k, .int .i64 ty.n, .string ty.s, .slice a5 ty.args.length c5] 30 (0, 0))).heap.size := Nat.lt_of_le_of_lt hz5 (by simp)
        clear hb6 HI
        generalize w5.alloc (.cells #[.int .i64 ty.k, .int .i64 ty.n, .string ty.s, .slice a5 ty.args.length c5] 30 (0, 0)) = W6 at *
        obtain ⟨z0, z1⟩ := rowA2 HA.out
        have fz := zero_frozen (q := 1) HA.out
        go_wp2_with fail
        clear z0 z1 fz
        have hA : (W6.setCell ⟨gA, 1, none⟩ (.int .i64 ny)).heap[gA]? = some (.cells #[.int .i64 nx, .int .i64 ny] 110 (0, 0)) := by have := heap_setCell_same W6 gA 1 _ _ (.int .i64 ny) HA.out; simpa using this
        replace HR0 := Lib.hid ((Below.heap_setCell W6 ⟨gA, 1, none⟩ (.int .i64 ny) w.heap.size (show _ ≠ gA by omega)).trans HR0.out)
        replace HR1 := Lib.hid ((Below.heap_setCell W6 ⟨gA, 1, none⟩ (.int .i64 ny) (w.heap.size + 1) (show _ ≠ gA by omega)).trans HR1.out)
        replace HSL := Lib.hid (HSL.out.imp (w' := W6.setCell ⟨gA, 1, none⟩ (.int .i64 ny)) (fun _ h => h) fun b h _ => Below.heap_setCell W6 ⟨gA, 1, none⟩ _ b (show b ≠ gA by have := h.2; omega))
        replace HB := Lib.hid (show Below w.heap.size w (W6.setCell ⟨gA, 1, none⟩ (.int .i64 ny)) from HB.out.setCell (show w.heap.size ≤ gA by omega) _)
        replace HA := Lib.hid hA
        have hz3 : W4.heap.size < (W6.setCell ⟨gA, 1, none⟩ (.int .i64 ny)).heap.size := by simpa [World.setCell] using hz6
        clear hA
        generalize W6.setCell ⟨gA, 1, none⟩ (.int .i64 ny) = W3 at *
        rw [rounds_succ]
        obtain ⟨x0, x1, x2, x3⟩ := row4 HR0.out
        obtain ⟨z0, z1⟩ := rowA2 HA.out
        go_wp2_with fail
        clear x0 x1 x2 x3
        clear z0 z1
        refine (go_One s nx hfx _).mono ?_
        rintro e7 w7 ⟨rfl, hb7⟩
        replace HR0 := Lib.hid (row_on HR0.out hb7)
        replace HR1 := Lib.hid (row_on HR1.out hb7)
        replace HA := Lib.hid (row_on HA.out hb7)
        replace HB := Lib.hid (HB.out.trans (hb7.mono HB.out.size))
        clear hb7
        generalize oneT s nx = r7 at *
        obtain ⟨x0, x1, x2, x3⟩ := row4 HR0.out
        obtain ⟨z0, z1⟩ := rowA2 HA.out
        go_wp2_with fail
        clear x0 x1 x2 x3
        clear z0 z1
        refine (go_Two s nx ny hfx hfy _).mono ?_
        rintro e8 w8 ⟨rfl, hb8⟩
        have hg8 := two_g HK.out hfx hfy
        generalize hone : twoT s nx ny = r at hg8 ⊢
        obtain ⟨m, er⟩ := r
        have HO := Lib.hid hone
        replace HR0 := Lib.hid (row_on HR0.out hb8)
        replace HR1 := Lib.hid (row_on HR1.out hb8)
        replace HB := Lib.hid (HB.out.trans (hb8.mono HB.out.size))
        clear hone hb8
        simp only at hg8 ⊢
        by_cases he8 : er = 0
        case neg =>
          have pe : (er != 0) = true := by simpa using he8
          have HE := Lib.hid (ev2_op (n := n) K1.out K2.out HK.out HEx.out HEy.out)
          rw [HO.out, show m = 0 from hg8.2.1 he8] at HE
          clear he8 hg8
          obtain ⟨x0, x1, x2, x3⟩ := row4 HR0.out
          go_upto_region 21 with fail
          clear x0 x1 x2 x3
          go_wp2_with (first
            | (with_reducible show wpList _ _ _ (⟨none, .store _ (.tmp 4) _, _, _, _, _⟩ :: _) _ _
               refine wpList_store_row rfl 30 (.tmp 4) (.tmp 83) rfl (w.heap.size + 1) #[.int .i64 0, .int .i64 0, .string ⟨#[]⟩, .slice none 0 0] rfl rfl _ _ HR1.out size_term rfl (one4 _ _ _ _ _ _) ?_))
          exact bodyPost_ret (v := .tuple #[.int .i64 0, .int .i64 er, .agg #[.int .i64 0, .int .i64 0, .string ⟨#[]⟩, .slice none 0 0]]) (results_tmp2_cell Try.results42 _ _ (w.heap.size + 1) _ _ _ _ _ _ rfl rfl rfl (setRow_heap _ _ _ _ _ _ HR1.out) Try.underlying30 rfl (by kernel_rfl)) rfl (ev_end (t := zT) (g := w.heap.size + 1) HE.out HB.out (by omega) (z_is _ (fun b => w.heap.size + 1 < b)) (fun b h => by have h2 : w.heap.size + 1 < b := h; omega))
        subst he8
        have HE := Lib.hid (ev2_op (n := n) K1.out K2.out HK.out HEx.out HEy.out)
        rw [HO.out] at HE
        clear hg8
        obtain ⟨x0, x1, x2, x3⟩ := row4 HR0.out
        go_upto_region 22 with fail
        clear x0 x1 x2 x3
        go_wp2_with (first
          | (with_reducible show wpList _ _ _ (⟨none, .store _ (.tmp 4) _, _, _, _, _⟩ :: _) _ _
             refine wpList_store_row rfl 30 (.tmp 4) (.tmp 85) rfl (w.heap.size + 1) #[.int .i64 0, .int .i64 0, .string ⟨#[]⟩, .slice none 0 0] rfl rfl _ _ HR1.out size_term rfl (one4 _ _ _ _ _ _) ?_))
        exact bodyPost_ret (v := .tuple #[.int .i64 m, .int .i64 0, .agg #[.int .i64 0, .int .i64 0, .string ⟨#[]⟩, .slice none 0 0]]) (results_tmp2_cell Try.results42 _ _ (w.heap.size + 1) _ _ _ _ _ _ rfl rfl rfl (setRow_heap _ _ _ _ _ _ HR1.out) Try.underlying30 rfl (by kernel_rfl)) rfl (ev_end (t := zT) (g := w.heap.size + 1) HE.out HB.out (by omega) (z_is _ (fun b => w.heap.size + 1 < b)) (fun b h => by have h2 : w.heap.size + 1 < b := h; omega))
      · exfalso; simp at hkl
end Go.Proofs.Ytibjcfbilkkmkaa.Tms
