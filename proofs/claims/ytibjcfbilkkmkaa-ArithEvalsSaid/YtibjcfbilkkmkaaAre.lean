
/-
  Layer 12's reference: eval, Eval and Holds, walked over the program (printed by gen_are.py).
-/
import Derived.Test.YtibjcfbilkkmkaaArd
import Derived.Test.YtibjcfbilkkmkaaRmay
namespace Go.Proofs.Ytibjcfbilkkmkaa.Tms
open Go Go.RowKit Go.Proofs.Ytibjcfbilkkmkaa.Reg Go.Proofs.Ytibjcfbilkkmkaa.Maps Go.Proofs.Ytibjcfbilkkmkaa.Num
set_option linter.unusedVariables false
set_option linter.unusedSimpArgs false

theorem kn_no {s : ByteArray} {n : Nat} (h1 : n ≠ 1) (h2 : n ≠ 2) : knB s n = false := by unfold knB; simp [h1, h2]
theorem may_three {n : Int} {s : ByteArray} {l : List Tm} (h : mayT (.mk 3 n s l) = true) : l = [] := by
  cases l with
  | nil => rfl
  | cons x l => exfalso; simp [mayT, mayB] at h
set_option maxRecDepth 100000 in
set_option maxHeartbeats 4000000 in
theorem ref_eval (N : Nat) : ∀ (t : Tm) (v : Value) (P : Nat → Prop) (w : World), t.size ≤ N → t.size ≤ 1000000000 → mayT t = true → fitT t → IsTm w P v t → Calls Try.prog 43 #[v] w (EvPost (evT t) w) := by
  induction N with
  | zero => intro t v P w hN; have := size_pos t; omega
  | succ N ih =>
    intro t v P w hN hM hmay hfit h
    have IH := Lib.hid ih
    clear ih
    have hl := h.lt
    clear h
    obtain ⟨a, cap, rfl⟩ := hl.form
    have hkd := may_kind hmay
    obtain ⟨k, n, s, l⟩ := t
    have HSL := Lib.hid hl.args
    have hargs := fun x hx => may_arg (x := x) hmay hx
    simp only [Tm.k, Tm.n, Tm.s, Tm.args] at HSL hkd hargs ⊢
    have HNL : Hid (sizeL l ≤ N) := Lib.hid (by simp only [Tm.size] at hN; omega)
    have HML : Hid (sizeL l ≤ 1000000000) := Lib.hid (by simp only [Tm.size] at hM; omega)
    have HF := Lib.hid hfit.2
    have HMA := Lib.hid hargs
    have hll : l.length ≤ 1000000000 := Nat.le_trans (len_le l) HML.out
    clear hl hN hM hargs
    by_cases k1 : k = 1
    · subst k1
      rw [ev_var]
      clear HSL HNL HML HF IH hfit HMA hmay hkd
      go_enter Try.func43, Try.ntmps43
      go_wp2
      exact bodyPost_ret (v := .tuple #[.int .i64 0, .int .i64 12, .agg #[.int .i64 0, .int .i64 0, .string ⟨#[]⟩, .slice none 0 0]]) (by simp [results, Try.results43, go_sem]) rfl ⟨_, rfl, z_is _ _, two_below _ _ _⟩
    by_cases k2 : k = 2
    · subst k2
      rw [ev_int]
      clear HSL HNL HML HF IH hfit k1 HMA hmay hkd
      go_enter Try.func43, Try.ntmps43
      go_wp2
      exact bodyPost_ret (v := .tuple #[.int .i64 n, .int .i64 0, .agg #[.int .i64 0, .int .i64 0, .string ⟨#[]⟩, .slice none 0 0]]) (by simp [results, Try.results43, go_sem]) rfl ⟨_, rfl, z_is _ _, two_below _ _ _⟩
    by_cases k3 : k = 3
    · subst k3
      obtain rfl := may_three hmay
      rw [ev_no k1 k2 (kn_no (by decide) (by decide))]
      clear HNL HML HF IH hfit HMA hmay hkd k1 k2 HSL
      obtain ⟨t0, t1, tsz, tbl⟩ := two w (.cells #[.int .i64 3, .int .i64 n, .string s, .slice a 0 cap] 30 (0, 0)) (.cells #[.int .i64 0, .int .i64 0, .string ⟨#[]⟩, .slice none 0 0] 30 (0, 0))
      obtain ⟨x0, x1, x2, x3⟩ := row4 t0
      have HR0 := Lib.hid t0
      have HR1 := Lib.hid t1
      have HB := Lib.hid tbl
      have hgz : w.heap.size + 1 < ((w.alloc (.cells #[.int .i64 3, .int .i64 n, .string s, .slice a 0 cap] 30 (0, 0))).alloc (.cells #[.int .i64 0, .int .i64 0, .string ⟨#[]⟩, .slice none 0 0] 30 (0, 0))).heap.size := by omega
      clear t0 t1 tbl tsz
      go_enter Try.func43, Try.ntmps43
      go_wp2_with fail
      clear x0 x1 x2 x3
      generalize (w.alloc (.cells #[.int .i64 3, .int .i64 n, .string s, .slice a 0 cap] 30 (0, 0))).alloc (.cells #[.int .i64 0, .int .i64 0, .string ⟨#[]⟩, .slice none 0 0] 30 (0, 0)) = W at *
      refine (ref_ind s 0 _).mono ?_
      rintro e2 w2 ⟨v2, rfl, hi2, hb2⟩
      obtain ⟨a2, c2, rfl⟩ := hi2.form
      replace HR1 := Lib.hid (row_on HR1.out hb2)
      replace HB := Lib.hid (HB.out.trans (hb2.mono HB.out.size))
      have HI := Lib.hid hi2
      clear hi2 hb2
      go_wp2_with (first
        | (with_reducible show wpList _ _ _ (⟨none, .store _ (.tmp 4) _, _, _, _, _⟩ :: _) _ _
           refine wpList_store_row rfl 30 (.tmp 4) (.tmp 34) rfl (w.heap.size + 1) #[.int .i64 (indT s 0).k, .int .i64 (indT s 0).n, .string (indT s 0).s, .slice a2 (indT s 0).args.length c2] rfl rfl _ _ HR1.out size_term rfl (one4 _ _ _ _ _ _) ?_))
      exact bodyPost_ret (v := .tuple #[.int .i64 0, .int .i64 13, .agg #[.int .i64 (indT s 0).k, .int .i64 (indT s 0).n, .string (indT s 0).s, .slice a2 (indT s 0).args.length c2]]) (results_tmp2_cell Try.results43 _ _ (w.heap.size + 1) _ _ _ _ _ _ rfl rfl rfl (setRow_heap _ _ _ _ _ _ HR1.out) Try.underlying30 rfl (by kernel_rfl)) rfl (ev_end (t := (indT s 0)) (g := (w.heap.size + 1)) rfl HB.out (by omega) HI.out (fun b h => by rcases h with h | h; exact h.elim; omega))
    obtain rfl : k = 4 := by omega
    clear hkd
    rcases l with _ | ⟨x, _ | ⟨y, _ | ⟨z, l⟩⟩⟩
    · simp only [List.length_cons, List.length_nil, Nat.zero_add, Nat.reduceAdd] at *
      have hk : knB s 0 = false := kn_no (by decide) (by decide)
      have HE := Lib.hid (ev_no (n := n) (args := []) k1 k2 hk)
      clear hk k1 k2 k3 HNL HML HF IH hfit HMA hmay HSL
      obtain ⟨t0, t1, tsz, tbl⟩ := two w (.cells #[.int .i64 4, .int .i64 n, .string s, .slice a 0 cap] 30 (0, 0)) (.cells #[.int .i64 0, .int .i64 0, .string ⟨#[]⟩, .slice none 0 0] 30 (0, 0))
      obtain ⟨x0, x1, x2, x3⟩ := row4 t0
      have HR0 := Lib.hid t0
      have HR1 := Lib.hid t1
      have HB := Lib.hid tbl
      have hgz : w.heap.size + 1 < ((w.alloc (.cells #[.int .i64 4, .int .i64 n, .string s, .slice a 0 cap] 30 (0, 0))).alloc (.cells #[.int .i64 0, .int .i64 0, .string ⟨#[]⟩, .slice none 0 0] 30 (0, 0))).heap.size := by omega
      clear t0 t1 tbl tsz
      go_enter Try.func43, Try.ntmps43
      go_wp2_with fail
      clear x0 x1 x2 x3
      generalize (w.alloc (.cells #[.int .i64 4, .int .i64 n, .string s, .slice a 0 cap] 30 (0, 0))).alloc (.cells #[.int .i64 0, .int .i64 0, .string ⟨#[]⟩, .slice none 0 0] 30 (0, 0)) = W at *
      refine (ref_Two s 1 1 (by decide) (by decide) _).mono ?_
      rintro e1 w1 ⟨rfl, hb1⟩
      replace HR0 := Lib.hid (row_on HR0.out hb1)
      replace HR1 := Lib.hid (row_on HR1.out hb1)
      replace HB := Lib.hid (HB.out.trans (hb1.mono HB.out.size))
      have hg1 := Nat.lt_of_lt_of_le hgz hb1.size
      clear hb1 hgz
      obtain ⟨x0, x1, x2, x3⟩ := row4 HR0.out
      go_wp2_with fail
      clear x0 x1 x2 x3
      refine (ref_One s 1 (by decide) _).mono ?_
      rintro e2 w2 ⟨rfl, hb2⟩
      replace HR0 := Lib.hid (row_on HR0.out hb2)
      replace HR1 := Lib.hid (row_on HR1.out hb2)
      replace HB := Lib.hid (HB.out.trans (hb2.mono HB.out.size))
      have hg2 := Nat.lt_of_lt_of_le hg1 hb2.size
      clear hb2
      obtain ⟨x0, x1, x2, x3⟩ := row4 HR0.out
      go_wp2_with fail
      clear x0 x1 x2 x3
      refine (ref_ind s 0 _).mono ?_
      rintro e3 w3 ⟨v3, rfl, hi3, hb3⟩
      obtain ⟨a3, c3, rfl⟩ := hi3.form
      replace HR1 := Lib.hid (row_on HR1.out hb3)
      replace HB := Lib.hid (HB.out.trans (hb3.mono HB.out.size))
      have HI := Lib.hid hi3
      clear hi3 hb3
      go_wp2_with (first
        | (with_reducible show wpList _ _ _ (⟨none, .store _ (.tmp 4) _, _, _, _, _⟩ :: _) _ _
           refine wpList_store_row rfl 30 (.tmp 4) (.tmp 71) rfl (w.heap.size + 1) #[.int .i64 (indT s 0).k, .int .i64 (indT s 0).n, .string (indT s 0).s, .slice a3 (indT s 0).args.length c3] rfl rfl _ _ HR1.out size_term rfl (one4 _ _ _ _ _ _) ?_))
      exact bodyPost_ret (v := .tuple #[.int .i64 0, .int .i64 13, .agg #[.int .i64 (indT s 0).k, .int .i64 (indT s 0).n, .string (indT s 0).s, .slice a3 (indT s 0).args.length c3]]) (results_tmp2_cell Try.results43 _ _ (w.heap.size + 1) _ _ _ _ _ _ rfl rfl rfl (setRow_heap _ _ _ _ _ _ HR1.out) Try.underlying30 rfl (by kernel_rfl)) rfl (ev_end (t := (indT s 0)) (g := (w.heap.size + 1)) HE.out HB.out (by omega) HI.out (fun b h => by rcases h with h | h; exact h.elim; omega))
    · simp only [List.length_cons, List.length_nil, Nat.zero_add, Nat.reduceAdd] at *
      cases hk : knB s 1 with
      | false =>
        have HE := Lib.hid (ev_no (n := n) (args := [x]) k1 k2 hk)
        have p1 : ((oneT s 1).2 != 8) = false := by have := hk; rw [← kn_one s 1 (by decide)] at this; simpa using this
        clear hk k1 k2 k3 HNL HML HF IH hfit HMA hmay HSL
        obtain ⟨t0, t1, tsz, tbl⟩ := two w (.cells #[.int .i64 4, .int .i64 n, .string s, .slice a 1 cap] 30 (0, 0)) (.cells #[.int .i64 0, .int .i64 0, .string ⟨#[]⟩, .slice none 0 0] 30 (0, 0))
        obtain ⟨x0, x1, x2, x3⟩ := row4 t0
        have HR0 := Lib.hid t0
        have HR1 := Lib.hid t1
        have HB := Lib.hid tbl
        have hgz : w.heap.size + 1 < ((w.alloc (.cells #[.int .i64 4, .int .i64 n, .string s, .slice a 1 cap] 30 (0, 0))).alloc (.cells #[.int .i64 0, .int .i64 0, .string ⟨#[]⟩, .slice none 0 0] 30 (0, 0))).heap.size := by omega
        clear t0 t1 tbl tsz
        go_enter Try.func43, Try.ntmps43
        go_wp2_with fail
        clear x0 x1 x2 x3
        generalize (w.alloc (.cells #[.int .i64 4, .int .i64 n, .string s, .slice a 1 cap] 30 (0, 0))).alloc (.cells #[.int .i64 0, .int .i64 0, .string ⟨#[]⟩, .slice none 0 0] 30 (0, 0)) = W at *
        refine (ref_Two s 1 1 (by decide) (by decide) _).mono ?_
        rintro e1 w1 ⟨rfl, hb1⟩
        replace HR0 := Lib.hid (row_on HR0.out hb1)
        replace HR1 := Lib.hid (row_on HR1.out hb1)
        replace HB := Lib.hid (HB.out.trans (hb1.mono HB.out.size))
        have hg1 := Nat.lt_of_lt_of_le hgz hb1.size
        clear hb1 hgz
        obtain ⟨x0, x1, x2, x3⟩ := row4 HR0.out
        go_wp2_with fail
        clear x0 x1 x2 x3
        refine (ref_One s 1 (by decide) _).mono ?_
        rintro e2 w2 ⟨rfl, hb2⟩
        replace HR0 := Lib.hid (row_on HR0.out hb2)
        replace HR1 := Lib.hid (row_on HR1.out hb2)
        replace HB := Lib.hid (HB.out.trans (hb2.mono HB.out.size))
        have hg2 := Nat.lt_of_lt_of_le hg1 hb2.size
        clear hb2
        obtain ⟨x0, x1, x2, x3⟩ := row4 HR0.out
        go_wp2_with fail
        clear x0 x1 x2 x3
        refine (ref_ind s 1 _).mono ?_
        rintro e3 w3 ⟨v3, rfl, hi3, hb3⟩
        obtain ⟨a3, c3, rfl⟩ := hi3.form
        replace HR1 := Lib.hid (row_on HR1.out hb3)
        replace HB := Lib.hid (HB.out.trans (hb3.mono HB.out.size))
        have HI := Lib.hid hi3
        clear hi3 hb3
        go_wp2_with (first
          | (with_reducible show wpList _ _ _ (⟨none, .store _ (.tmp 4) _, _, _, _, _⟩ :: _) _ _
             refine wpList_store_row rfl 30 (.tmp 4) (.tmp 71) rfl (w.heap.size + 1) #[.int .i64 (indT s 1).k, .int .i64 (indT s 1).n, .string (indT s 1).s, .slice a3 (indT s 1).args.length c3] rfl rfl _ _ HR1.out size_term rfl (one4 _ _ _ _ _ _) ?_))
        exact bodyPost_ret (v := .tuple #[.int .i64 0, .int .i64 13, .agg #[.int .i64 (indT s 1).k, .int .i64 (indT s 1).n, .string (indT s 1).s, .slice a3 (indT s 1).args.length c3]]) (results_tmp2_cell Try.results43 _ _ (w.heap.size + 1) _ _ _ _ _ _ rfl rfl rfl (setRow_heap _ _ _ _ _ _ HR1.out) Try.underlying30 rfl (by kernel_rfl)) rfl (ev_end (t := (indT s 1)) (g := (w.heap.size + 1)) HE.out HB.out (by omega) HI.out (fun b h => by rcases h with h | h; exact h.elim; omega))
      | true =>
        have HK := Lib.hid hk
        have K1 := Lib.hid k1
        have K2 := Lib.hid k2
        have p1 : ((oneT s 1).2 != 8) = true := by have := hk; rw [← kn_one s 1 (by decide)] at this; simpa using this
        have HS0 := Lib.hid (show x.size ≤ N by have := HNL.out; simp only [sizeL] at this; omega)
        have HM0 := Lib.hid (show x.size ≤ 1000000000 by have := HML.out; simp only [sizeL] at this; omega)
        have HF0 := Lib.hid (show fitT x from HF.out.1)
        have HY0 := Lib.hid (HMA.out x (by simp))
        clear HNL HML HF hfit hk k1 k2 k3 HMA hmay
        obtain ⟨t0, t1, tsz, tbl⟩ := two w (.cells #[.int .i64 4, .int .i64 n, .string s, .slice a 1 cap] 30 (0, 0)) (.cells #[.int .i64 0, .int .i64 0, .string ⟨#[]⟩, .slice none 0 0] 30 (0, 0))
        obtain ⟨x0, x1, x2, x3⟩ := row4 t0
        have HR0 := Lib.hid t0
        have HR1 := Lib.hid t1
        have HB := Lib.hid tbl
        have hgz : w.heap.size + 1 < ((w.alloc (.cells #[.int .i64 4, .int .i64 n, .string s, .slice a 1 cap] 30 (0, 0))).alloc (.cells #[.int .i64 0, .int .i64 0, .string ⟨#[]⟩, .slice none 0 0] 30 (0, 0))).heap.size := by omega
        replace HSL := Lib.hid (HSL.out.below tbl)
        clear t0 t1 tbl tsz
        go_enter Try.func43, Try.ntmps43
        go_wp2_with fail
        clear x0 x1 x2 x3
        generalize (w.alloc (.cells #[.int .i64 4, .int .i64 n, .string s, .slice a 1 cap] 30 (0, 0))).alloc (.cells #[.int .i64 0, .int .i64 0, .string ⟨#[]⟩, .slice none 0 0] 30 (0, 0)) = W at *
        refine (ref_Two s 1 1 (by decide) (by decide) _).mono ?_
        rintro e1 w1 ⟨rfl, hb1⟩
        replace HR0 := Lib.hid (row_on HR0.out hb1)
        replace HR1 := Lib.hid (row_on HR1.out hb1)
        replace HSL := Lib.hid (HSL.out.below hb1)
        replace HB := Lib.hid (HB.out.trans (hb1.mono HB.out.size))
        have hg1 := Nat.lt_of_lt_of_le hgz hb1.size
        clear hb1 hgz
        obtain ⟨x0, x1, x2, x3⟩ := row4 HR0.out
        go_wp2_with fail
        clear x0 x1 x2 x3
        refine (ref_One s 1 (by decide) _).mono ?_
        rintro e2 w2 ⟨rfl, hb2⟩
        replace HR0 := Lib.hid (row_on HR0.out hb2)
        replace HR1 := Lib.hid (row_on HR1.out hb2)
        replace HSL := Lib.hid (HSL.out.below hb2)
        replace HB := Lib.hid (HB.out.trans (hb2.mono HB.out.size))
        have hg2 := Nat.lt_of_lt_of_le hg1 hb2.size
        clear hb2
        obtain ⟨x0, x1, x2, x3⟩ := row4 HR0.out
        obtain ⟨b0, o0, hab0, hP0, hta0⟩ := HSL.out.at 0 (by simp)
        subst hab0
        obtain ⟨ax0, cx0, y0, y1, y2, y3, hx0, -⟩ := hta0.read
        simp only [Nat.zero_mul, Nat.one_mul, Nat.add_zero, List.getElem_cons_zero, List.getElem_cons_succ, Nat.add_assoc, Nat.reduceAdd] at y0 y1 y2 y3 hx0
        go_wp2_with fail
        clear x0 x1 x2 x3 y0 y1 y2 y3 hta0
        have HX := Lib.hid hx0
        clear hx0
        refine (IH.out x _ _ _ HS0.out HM0.out HY0.out HF0.out HX.out).mono ?_
        rintro e5 w5 ⟨v5, rfl, hi5, hb5⟩
        have hgood := ev_good x HF0.out
        generalize hev : evT x = rx at hi5 hgood ⊢
        obtain ⟨nx, ex, tx⟩ := rx
        have HEx := Lib.hid hev
        clear hev
        simp only at hi5 hgood ⊢
        obtain ⟨a5, c5, rfl⟩ := hi5.form
        replace HR0 := Lib.hid (row_on HR0.out hb5)
        replace HR1 := Lib.hid (row_on HR1.out hb5)
        replace HSL := Lib.hid (HSL.out.below hb5)
        replace HB := Lib.hid (HB.out.trans (hb5.mono HB.out.size))
        have hz5 := hb5.size
        have HI := Lib.hid hi5
        clear hi5 hb5 HX
        by_cases hex : ex = 0
        case neg =>
          have pe : (ex != 0) = true := by simpa using hex
          have HE := Lib.hid (ev1_bad (n := n) K1.out K2.out HK.out HEx.out hex)
          clear hex
          go_upto_region 13 with fail
          have hb6 := below_new w5 (.cells #[.int .i64 tx.k, .int .i64 tx.n, .string tx.s, .slice a5 tx.args.length c5] 30 (0, 0))
          have h6 := heap_alloc_new w5 (.cells #[.int .i64 tx.k, .int .i64 tx.n, .string tx.s, .slice a5 tx.args.length c5] 30 (0, 0))
          replace HR1 := Lib.hid (row_on HR1.out hb6)
          replace HI := Lib.hid (HI.out.below hb6)
          replace HB := Lib.hid (HB.out.trans (hb6.mono HB.out.size))
          have HW := Lib.hid h6
          clear hb6 h6
          generalize w5.alloc (.cells #[.int .i64 tx.k, .int .i64 tx.n, .string tx.s, .slice a5 tx.args.length c5] 30 (0, 0)) = W6 at *
          refine wp_region_rest (by kernel_rfl) ?_
          have hd := (Below.refl W6.heap.size W6).drew
          replace HR1 := Lib.hid (row_on HR1.out hd)
          replace HW := Lib.hid (row_on HW.out hd)
          replace HI := Lib.hid (HI.out.below hd)
          replace HB := Lib.hid (HB.out.trans (hd.mono HB.out.size))
          clear hd
          generalize W6.drew = W7 at *
          refine rest_chain 0 4 [(false, [0, 1, 2, 3])] [(false, [_, _, _, _])] rfl (by kernel_rfl) (by kernel_rfl) rfl (by kernel_rfl) (by kernel_rfl) (.inr (by kernel_rfl)) ?_
          obtain ⟨x0, x1, x2, x3⟩ := row4 HW.out
          refine chain_soft ?_
          intro E hE
          go_wp2
          clear x0 x1 x2 x3
          refine chain_nil ?_
          refine rest_lineL 4 5 [_] rfl (by kernel_rfl) (by decide) (by decide) (by kernel_rfl) ?_
          go_wp2_with (first
            | (with_reducible show wpList _ _ _ (⟨none, .store _ (.tmp 4) _, _, _, _, _⟩ :: _) _ _
               refine wpList_store_row rfl 30 (.tmp 4) (.tmp 84) rfl (w.heap.size + 1) #[.int .i64 tx.k, .int .i64 tx.n, .string tx.s, .slice a5 tx.args.length c5] rfl rfl _ _ HR1.out size_term rfl (one4 _ _ _ _ _ _) ?_))
          refine then_rest (rest_end (by decide) ?_)
          go_wp2
          exact bodyPost_ret (v := .tuple #[.int .i64 0, .int .i64 ex, .agg #[.int .i64 tx.k, .int .i64 tx.n, .string tx.s, .slice a5 tx.args.length c5]]) (results_tmp2_cell Try.results43 _ _ (w.heap.size + 1) _ _ _ _ _ _ rfl rfl rfl (setRow_heap _ _ _ _ _ _ HR1.out) Try.underlying30 rfl (by kernel_rfl)) rfl (ev_end (t := tx) (g := (w.heap.size + 1)) HE.out HB.out (by omega) HI.out (fun b h => by have h2 : w2.heap.size ≤ b := h; omega))
        subst hex
        have hfx := hgood.2
        clear hgood
        go_upto_region 14 with fail
        have hb6 := below_new w5 (.cells #[.int .i64 tx.k, .int .i64 tx.n, .string tx.s, .slice a5 tx.args.length c5] 30 (0, 0))
        have h6 := heap_alloc_new w5 (.cells #[.int .i64 tx.k, .int .i64 tx.n, .string tx.s, .slice a5 tx.args.length c5] 30 (0, 0))
        have hz6 : w5.heap.size < (w5.alloc (.cells #[.int .i64 tx.k, .int .i64 tx.n, .string tx.s, .slice a5 tx.args.length c5] 30 (0, 0))).heap.size := by simp
        replace HR0 := Lib.hid (row_on HR0.out hb6)
        replace HR1 := Lib.hid (row_on HR1.out hb6)
        replace HSL := Lib.hid (HSL.out.below hb6)
        replace HB := Lib.hid (HB.out.trans (hb6.mono HB.out.size))
        have HW := Lib.hid h6
        clear hb6 h6 HI
        generalize w5.alloc (.cells #[.int .i64 tx.k, .int .i64 tx.n, .string tx.s, .slice a5 tx.args.length c5] 30 (0, 0)) = W6 at *
        generalize w5.heap.size = g5 at *
        obtain ⟨x0, x1, x2, x3⟩ := row4 HR0.out
        go_wp2_with fail
        clear x0 x1 x2 x3
        refine (ref_One s nx hfx _).mono ?_
        rintro e8 w8 ⟨rfl, hb8⟩
        have HE := Lib.hid (ev1_op (n := n) K1.out K2.out HK.out HEx.out)
        generalize hone : oneT s nx = r at HE ⊢
        obtain ⟨m, er⟩ := r
        replace HR1 := Lib.hid (row_on HR1.out hb8)
        replace HB := Lib.hid (HB.out.trans (hb8.mono HB.out.size))
        clear hone hb8
        simp only at HE ⊢
        go_wp2_with (first
          | (with_reducible show wpList _ _ _ (⟨none, .store _ (.tmp 4) _, _, _, _, _⟩ :: _) _ _
             refine wpList_store_row rfl 30 (.tmp 4) (.tmp 98) rfl (w.heap.size + 1) #[.int .i64 0, .int .i64 0, .string ⟨#[]⟩, .slice none 0 0] rfl rfl _ _ HR1.out size_term rfl (one4 _ _ _ _ _ _) ?_))
        exact bodyPost_ret (v := .tuple #[.int .i64 m, .int .i64 er, .agg #[.int .i64 0, .int .i64 0, .string ⟨#[]⟩, .slice none 0 0]]) (results_tmp2_cell Try.results43 _ _ (w.heap.size + 1) _ _ _ _ _ _ rfl rfl rfl (setRow_heap _ _ _ _ _ _ HR1.out) Try.underlying30 rfl (by kernel_rfl)) rfl (ev_end (t := zT) (g := (w.heap.size + 1)) HE.out HB.out (by omega) (z_is _ (fun b => w.heap.size + 1 < b)) (fun b h => by have h2 : w.heap.size + 1 < b := h; omega))
    · simp only [List.length_cons, List.length_nil, Nat.zero_add, Nat.reduceAdd] at *
      cases hk : knB s 2 with
      | false =>
        have HE := Lib.hid (ev_no (n := n) (args := [x, y]) k1 k2 hk)
        have p1 : ((twoT s 1 1).2 != 8) = false := by have := hk; rw [← kn_two s 1 1 (by decide) (by decide)] at this; simpa using this
        clear hk k1 k2 k3 HNL HML HF IH hfit HMA hmay HSL
        obtain ⟨t0, t1, tsz, tbl⟩ := two w (.cells #[.int .i64 4, .int .i64 n, .string s, .slice a 2 cap] 30 (0, 0)) (.cells #[.int .i64 0, .int .i64 0, .string ⟨#[]⟩, .slice none 0 0] 30 (0, 0))
        obtain ⟨x0, x1, x2, x3⟩ := row4 t0
        have HR0 := Lib.hid t0
        have HR1 := Lib.hid t1
        have HB := Lib.hid tbl
        have hgz : w.heap.size + 1 < ((w.alloc (.cells #[.int .i64 4, .int .i64 n, .string s, .slice a 2 cap] 30 (0, 0))).alloc (.cells #[.int .i64 0, .int .i64 0, .string ⟨#[]⟩, .slice none 0 0] 30 (0, 0))).heap.size := by omega
        clear t0 t1 tbl tsz
        go_enter Try.func43, Try.ntmps43
        go_wp2_with fail
        clear x0 x1 x2 x3
        generalize (w.alloc (.cells #[.int .i64 4, .int .i64 n, .string s, .slice a 2 cap] 30 (0, 0))).alloc (.cells #[.int .i64 0, .int .i64 0, .string ⟨#[]⟩, .slice none 0 0] 30 (0, 0)) = W at *
        refine (ref_Two s 1 1 (by decide) (by decide) _).mono ?_
        rintro e1 w1 ⟨rfl, hb1⟩
        replace HR0 := Lib.hid (row_on HR0.out hb1)
        replace HR1 := Lib.hid (row_on HR1.out hb1)
        replace HB := Lib.hid (HB.out.trans (hb1.mono HB.out.size))
        have hg1 := Nat.lt_of_lt_of_le hgz hb1.size
        clear hb1 hgz
        obtain ⟨x0, x1, x2, x3⟩ := row4 HR0.out
        go_wp2_with fail
        clear x0 x1 x2 x3
        refine (ref_One s 1 (by decide) _).mono ?_
        rintro e2 w2 ⟨rfl, hb2⟩
        replace HR0 := Lib.hid (row_on HR0.out hb2)
        replace HR1 := Lib.hid (row_on HR1.out hb2)
        replace HB := Lib.hid (HB.out.trans (hb2.mono HB.out.size))
        have hg2 := Nat.lt_of_lt_of_le hg1 hb2.size
        clear hb2
        obtain ⟨x0, x1, x2, x3⟩ := row4 HR0.out
        go_wp2_with fail
        clear x0 x1 x2 x3
        refine (ref_ind s 2 _).mono ?_
        rintro e3 w3 ⟨v3, rfl, hi3, hb3⟩
        obtain ⟨a3, c3, rfl⟩ := hi3.form
        replace HR1 := Lib.hid (row_on HR1.out hb3)
        replace HB := Lib.hid (HB.out.trans (hb3.mono HB.out.size))
        have HI := Lib.hid hi3
        clear hi3 hb3
        go_wp2_with (first
          | (with_reducible show wpList _ _ _ (⟨none, .store _ (.tmp 4) _, _, _, _, _⟩ :: _) _ _
             refine wpList_store_row rfl 30 (.tmp 4) (.tmp 71) rfl (w.heap.size + 1) #[.int .i64 (indT s 2).k, .int .i64 (indT s 2).n, .string (indT s 2).s, .slice a3 (indT s 2).args.length c3] rfl rfl _ _ HR1.out size_term rfl (one4 _ _ _ _ _ _) ?_))
        exact bodyPost_ret (v := .tuple #[.int .i64 0, .int .i64 13, .agg #[.int .i64 (indT s 2).k, .int .i64 (indT s 2).n, .string (indT s 2).s, .slice a3 (indT s 2).args.length c3]]) (results_tmp2_cell Try.results43 _ _ (w.heap.size + 1) _ _ _ _ _ _ rfl rfl rfl (setRow_heap _ _ _ _ _ _ HR1.out) Try.underlying30 rfl (by kernel_rfl)) rfl (ev_end (t := (indT s 2)) (g := (w.heap.size + 1)) HE.out HB.out (by omega) HI.out (fun b h => by rcases h with h | h; exact h.elim; omega))
      | true =>
        have HK := Lib.hid hk
        have K1 := Lib.hid k1
        have K2 := Lib.hid k2
        have p1 : ((twoT s 1 1).2 != 8) = true := by have := hk; rw [← kn_two s 1 1 (by decide) (by decide)] at this; simpa using this
        have HS0 := Lib.hid (show x.size ≤ N by have := HNL.out; simp only [sizeL] at this; omega)
        have HM0 := Lib.hid (show x.size ≤ 1000000000 by have := HML.out; simp only [sizeL] at this; omega)
        have HF0 := Lib.hid (show fitT x from HF.out.1)
        have HY0 := Lib.hid (HMA.out x (by simp))
        have HS1 := Lib.hid (show y.size ≤ N by have := HNL.out; simp only [sizeL] at this; omega)
        have HM1 := Lib.hid (show y.size ≤ 1000000000 by have := HML.out; simp only [sizeL] at this; omega)
        have HF1 := Lib.hid (show fitT y from HF.out.2.1)
        have HY1 := Lib.hid (HMA.out y (by simp))
        clear HNL HML HF hfit hk k1 k2 k3 HMA hmay
        obtain ⟨t0, t1, tsz, tbl⟩ := two w (.cells #[.int .i64 4, .int .i64 n, .string s, .slice a 2 cap] 30 (0, 0)) (.cells #[.int .i64 0, .int .i64 0, .string ⟨#[]⟩, .slice none 0 0] 30 (0, 0))
        obtain ⟨x0, x1, x2, x3⟩ := row4 t0
        have HR0 := Lib.hid t0
        have HR1 := Lib.hid t1
        have HB := Lib.hid tbl
        have hgz : w.heap.size + 1 < ((w.alloc (.cells #[.int .i64 4, .int .i64 n, .string s, .slice a 2 cap] 30 (0, 0))).alloc (.cells #[.int .i64 0, .int .i64 0, .string ⟨#[]⟩, .slice none 0 0] 30 (0, 0))).heap.size := by omega
        replace HSL := Lib.hid (HSL.out.below tbl)
        clear t0 t1 tbl tsz
        go_enter Try.func43, Try.ntmps43
        go_wp2_with fail
        clear x0 x1 x2 x3
        generalize (w.alloc (.cells #[.int .i64 4, .int .i64 n, .string s, .slice a 2 cap] 30 (0, 0))).alloc (.cells #[.int .i64 0, .int .i64 0, .string ⟨#[]⟩, .slice none 0 0] 30 (0, 0)) = W at *
        refine (ref_Two s 1 1 (by decide) (by decide) _).mono ?_
        rintro e1 w1 ⟨rfl, hb1⟩
        replace HR0 := Lib.hid (row_on HR0.out hb1)
        replace HR1 := Lib.hid (row_on HR1.out hb1)
        replace HSL := Lib.hid (HSL.out.below hb1)
        replace HB := Lib.hid (HB.out.trans (hb1.mono HB.out.size))
        have hg1 := Nat.lt_of_lt_of_le hgz hb1.size
        clear hb1 hgz
        obtain ⟨x0, x1, x2, x3⟩ := row4 HR0.out
        go_wp2_with fail
        clear x0 x1 x2 x3
        refine (ref_One s 1 (by decide) _).mono ?_
        rintro e2 w2 ⟨rfl, hb2⟩
        replace HR0 := Lib.hid (row_on HR0.out hb2)
        replace HR1 := Lib.hid (row_on HR1.out hb2)
        replace HSL := Lib.hid (HSL.out.below hb2)
        replace HB := Lib.hid (HB.out.trans (hb2.mono HB.out.size))
        have hg2 := Nat.lt_of_lt_of_le hg1 hb2.size
        clear hb2
        obtain ⟨x0, x1, x2, x3⟩ := row4 HR0.out
        obtain ⟨b0, o0, hab0, hP0, hta0⟩ := HSL.out.at 0 (by simp)
        subst hab0
        obtain ⟨ax0, cx0, y0, y1, y2, y3, hx0, -⟩ := hta0.read
        simp only [Nat.zero_mul, Nat.one_mul, Nat.add_zero, List.getElem_cons_zero, List.getElem_cons_succ, Nat.add_assoc, Nat.reduceAdd] at y0 y1 y2 y3 hx0
        go_wp2_with fail
        clear x0 x1 x2 x3 y0 y1 y2 y3 hta0
        have HX := Lib.hid hx0
        clear hx0
        refine (IH.out x _ _ _ HS0.out HM0.out HY0.out HF0.out HX.out).mono ?_
        rintro e5 w5 ⟨v5, rfl, hi5, hb5⟩
        have hgood := ev_good x HF0.out
        generalize hev : evT x = rx at hi5 hgood ⊢
        obtain ⟨nx, ex, tx⟩ := rx
        have HEx := Lib.hid hev
        clear hev
        simp only at hi5 hgood ⊢
        obtain ⟨a5, c5, rfl⟩ := hi5.form
        replace HR0 := Lib.hid (row_on HR0.out hb5)
        replace HR1 := Lib.hid (row_on HR1.out hb5)
        replace HSL := Lib.hid (HSL.out.below hb5)
        replace HB := Lib.hid (HB.out.trans (hb5.mono HB.out.size))
        have hz5 := hb5.size
        have HI := Lib.hid hi5
        clear hi5 hb5 HX
        by_cases hex : ex = 0
        case neg =>
          have pe : (ex != 0) = true := by simpa using hex
          have HE := Lib.hid (ev2_bad1 (n := n) (y := y) K1.out K2.out HK.out HEx.out hex)
          clear hex
          go_upto_region 13 with fail
          have hb6 := below_new w5 (.cells #[.int .i64 tx.k, .int .i64 tx.n, .string tx.s, .slice a5 tx.args.length c5] 30 (0, 0))
          have h6 := heap_alloc_new w5 (.cells #[.int .i64 tx.k, .int .i64 tx.n, .string tx.s, .slice a5 tx.args.length c5] 30 (0, 0))
          replace HR1 := Lib.hid (row_on HR1.out hb6)
          replace HI := Lib.hid (HI.out.below hb6)
          replace HB := Lib.hid (HB.out.trans (hb6.mono HB.out.size))
          have HW := Lib.hid h6
          clear hb6 h6
          generalize w5.alloc (.cells #[.int .i64 tx.k, .int .i64 tx.n, .string tx.s, .slice a5 tx.args.length c5] 30 (0, 0)) = W6 at *
          refine wp_region_rest (by kernel_rfl) ?_
          have hd := (Below.refl W6.heap.size W6).drew
          replace HR1 := Lib.hid (row_on HR1.out hd)
          replace HW := Lib.hid (row_on HW.out hd)
          replace HI := Lib.hid (HI.out.below hd)
          replace HB := Lib.hid (HB.out.trans (hd.mono HB.out.size))
          clear hd
          generalize W6.drew = W7 at *
          refine rest_chain 0 4 [(false, [0, 1, 2, 3])] [(false, [_, _, _, _])] rfl (by kernel_rfl) (by kernel_rfl) rfl (by kernel_rfl) (by kernel_rfl) (.inr (by kernel_rfl)) ?_
          obtain ⟨x0, x1, x2, x3⟩ := row4 HW.out
          refine chain_soft ?_
          intro E hE
          go_wp2
          clear x0 x1 x2 x3
          refine chain_nil ?_
          refine rest_lineL 4 5 [_] rfl (by kernel_rfl) (by decide) (by decide) (by kernel_rfl) ?_
          go_wp2_with (first
            | (with_reducible show wpList _ _ _ (⟨none, .store _ (.tmp 4) _, _, _, _, _⟩ :: _) _ _
               refine wpList_store_row rfl 30 (.tmp 4) (.tmp 84) rfl (w.heap.size + 1) #[.int .i64 tx.k, .int .i64 tx.n, .string tx.s, .slice a5 tx.args.length c5] rfl rfl _ _ HR1.out size_term rfl (one4 _ _ _ _ _ _) ?_))
          refine then_rest (rest_end (by decide) ?_)
          go_wp2
          exact bodyPost_ret (v := .tuple #[.int .i64 0, .int .i64 ex, .agg #[.int .i64 tx.k, .int .i64 tx.n, .string tx.s, .slice a5 tx.args.length c5]]) (results_tmp2_cell Try.results43 _ _ (w.heap.size + 1) _ _ _ _ _ _ rfl rfl rfl (setRow_heap _ _ _ _ _ _ HR1.out) Try.underlying30 rfl (by kernel_rfl)) rfl (ev_end (t := tx) (g := (w.heap.size + 1)) HE.out HB.out (by omega) HI.out (fun b h => by have h2 : w2.heap.size ≤ b := h; omega))
        subst hex
        have hfx := hgood.2
        clear hgood
        go_upto_region 14 with fail
        have hb6 := below_new w5 (.cells #[.int .i64 tx.k, .int .i64 tx.n, .string tx.s, .slice a5 tx.args.length c5] 30 (0, 0))
        have h6 := heap_alloc_new w5 (.cells #[.int .i64 tx.k, .int .i64 tx.n, .string tx.s, .slice a5 tx.args.length c5] 30 (0, 0))
        have hz6 : w5.heap.size < (w5.alloc (.cells #[.int .i64 tx.k, .int .i64 tx.n, .string tx.s, .slice a5 tx.args.length c5] 30 (0, 0))).heap.size := by simp
        replace HR0 := Lib.hid (row_on HR0.out hb6)
        replace HR1 := Lib.hid (row_on HR1.out hb6)
        replace HSL := Lib.hid (HSL.out.below hb6)
        replace HB := Lib.hid (HB.out.trans (hb6.mono HB.out.size))
        have HW := Lib.hid h6
        clear hb6 h6 HI
        generalize w5.alloc (.cells #[.int .i64 tx.k, .int .i64 tx.n, .string tx.s, .slice a5 tx.args.length c5] 30 (0, 0)) = W6 at *
        generalize w5.heap.size = g5 at *
        obtain ⟨x0, x1, x2, x3⟩ := row4 HR0.out
        obtain ⟨b1, o1, hab1, hP1, hta1⟩ := HSL.out.at 1 (by simp)
        obtain ⟨rfl, rfl⟩ : b1 = b0 ∧ o1 = o0 := by simp at hab1; exact ⟨hab1.1.symm, hab1.2.symm⟩
        obtain ⟨ax1, cx1, y0, y1, y2, y3, hx1, -⟩ := hta1.read
        simp only [Nat.zero_mul, Nat.one_mul, Nat.add_zero, List.getElem_cons_zero, List.getElem_cons_succ, Nat.add_assoc, Nat.reduceAdd] at y0 y1 y2 y3 hx1
        go_wp2_with fail
        clear x0 x1 x2 x3 y0 y1 y2 y3 hta1
        have HX := Lib.hid hx1
        clear hx1
        refine (IH.out y _ _ _ HS1.out HM1.out HY1.out HF1.out HX.out).mono ?_
        rintro e8 w8 ⟨v8, rfl, hi8, hb8⟩
        have hgood := ev_good y HF1.out
        generalize hev : evT y = ry at hi8 hgood ⊢
        obtain ⟨ny, ey, ty⟩ := ry
        have HEy := Lib.hid hev
        clear hev
        simp only at hi8 hgood ⊢
        obtain ⟨a8, c8, rfl⟩ := hi8.form
        replace HR0 := Lib.hid (row_on HR0.out hb8)
        replace HR1 := Lib.hid (row_on HR1.out hb8)
        replace HW := Lib.hid (row_on HW.out hb8)
        replace HSL := Lib.hid (HSL.out.below hb8)
        replace HB := Lib.hid (HB.out.trans (hb8.mono HB.out.size))
        have HI := Lib.hid hi8
        clear hi8 hb8 HX
        by_cases hey : ey = 0
        case neg =>
          have pe : (ey != 0) = true := by simpa using hey
          have HE := Lib.hid (ev2_bad2 (n := n) K1.out K2.out HK.out HEx.out HEy.out hey)
          clear hey
          go_upto_region 19 with (first
            | (with_reducible show wpList _ _ _ (⟨none, .store _ (.tmp 11) _, _, _, _, _⟩ :: _) _ _
               refine wpList_store_row rfl 30 (.tmp 11) (.tmp 107) rfl g5 #[.int .i64 ty.k, .int .i64 ty.n, .string ty.s, .slice a8 ty.args.length c8] rfl rfl _ _ HW.out size_term rfl (one4 _ _ _ _ _ _) ?_))
          have HW2 := Lib.hid (setRow_heap w8 g5 _ (#[.int .i64 ty.k, .int .i64 ty.n, .string ty.s, .slice a8 ty.args.length c8] : Array Value) _ _ HW.out)
          replace HR0 := Lib.hid ((setRow_other w8 g5 w.heap.size (#[.int .i64 ty.k, .int .i64 ty.n, .string ty.s, .slice a8 ty.args.length c8] : Array Value) (by omega)).trans HR0.out)
          replace HR1 := Lib.hid ((setRow_other w8 g5 (w.heap.size + 1) (#[.int .i64 ty.k, .int .i64 ty.n, .string ty.s, .slice a8 ty.args.length c8] : Array Value) (by omega)).trans HR1.out)
          replace HB := Lib.hid (show Below w.heap.size w (w8.setRow g5 (#[.int .i64 ty.k, .int .i64 ty.n, .string ty.s, .slice a8 ty.args.length c8] : Array Value)) from HB.out.trans ⟨rfl, rfl, rfl, by simp, fun k hk => setRow_other _ _ _ _ (by omega)⟩)
          replace HI := Lib.hid (HI.out.imp (w' := w8.setRow g5 (#[.int .i64 ty.k, .int .i64 ty.n, .string ty.s, .slice a8 ty.args.length c8] : Array Value)) (fun _ h => h) fun b h _ => setRow_other _ _ _ _ (by have h2 : W6.heap.size ≤ b := h; omega))
          clear HW
          generalize w8.setRow g5 (#[.int .i64 ty.k, .int .i64 ty.n, .string ty.s, .slice a8 ty.args.length c8] : Array Value) = W9 at *
          refine wp_region_rest (by kernel_rfl) ?_
          have hd := (Below.refl W9.heap.size W9).drew
          replace HR1 := Lib.hid (row_on HR1.out hd)
          replace HW2 := Lib.hid (row_on HW2.out hd)
          replace HI := Lib.hid (HI.out.below hd)
          replace HB := Lib.hid (HB.out.trans (hd.mono HB.out.size))
          clear hd
          generalize W9.drew = W7 at *
          refine rest_chain 0 4 [(false, [0, 1, 2, 3])] [(false, [_, _, _, _])] rfl (by kernel_rfl) (by kernel_rfl) rfl (by kernel_rfl) (by kernel_rfl) (.inr (by kernel_rfl)) ?_
          obtain ⟨x0, x1, x2, x3⟩ := row4 HW2.out
          refine chain_soft ?_
          intro E hE
          go_wp2
          clear x0 x1 x2 x3
          refine chain_nil ?_
          refine rest_lineL 4 5 [_] rfl (by kernel_rfl) (by decide) (by decide) (by kernel_rfl) ?_
          go_wp2_with (first
            | (with_reducible show wpList _ _ _ (⟨none, .store _ (.tmp 4) _, _, _, _, _⟩ :: _) _ _
               refine wpList_store_row rfl 30 (.tmp 4) (.tmp 111) rfl (w.heap.size + 1) #[.int .i64 ty.k, .int .i64 ty.n, .string ty.s, .slice a8 ty.args.length c8] rfl rfl _ _ HR1.out size_term rfl (one4 _ _ _ _ _ _) ?_))
          refine then_rest (rest_end (by decide) ?_)
          go_wp2
          exact bodyPost_ret (v := .tuple #[.int .i64 0, .int .i64 ey, .agg #[.int .i64 ty.k, .int .i64 ty.n, .string ty.s, .slice a8 ty.args.length c8]]) (results_tmp2_cell Try.results43 _ _ (w.heap.size + 1) _ _ _ _ _ _ rfl rfl rfl (setRow_heap _ _ _ _ _ _ HR1.out) Try.underlying30 rfl (by kernel_rfl)) rfl (ev_end (t := ty) (g := (w.heap.size + 1)) HE.out HB.out (by omega) HI.out (fun b h => by have h2 : W6.heap.size ≤ b := h; omega))
        subst hey
        have hfy := hgood.2
        clear hgood
        go_upto_region 20 with (first
          | (with_reducible show wpList _ _ _ (⟨none, .store _ (.tmp 11) _, _, _, _, _⟩ :: _) _ _
             refine wpList_store_row rfl 30 (.tmp 11) (.tmp 107) rfl g5 #[.int .i64 ty.k, .int .i64 ty.n, .string ty.s, .slice a8 ty.args.length c8] rfl rfl _ _ HW.out size_term rfl (one4 _ _ _ _ _ _) ?_))
        have HW2 := Lib.hid (setRow_heap w8 g5 _ (#[.int .i64 ty.k, .int .i64 ty.n, .string ty.s, .slice a8 ty.args.length c8] : Array Value) _ _ HW.out)
        replace HR0 := Lib.hid ((setRow_other w8 g5 w.heap.size (#[.int .i64 ty.k, .int .i64 ty.n, .string ty.s, .slice a8 ty.args.length c8] : Array Value) (by omega)).trans HR0.out)
        replace HR1 := Lib.hid ((setRow_other w8 g5 (w.heap.size + 1) (#[.int .i64 ty.k, .int .i64 ty.n, .string ty.s, .slice a8 ty.args.length c8] : Array Value) (by omega)).trans HR1.out)
        replace HB := Lib.hid (show Below w.heap.size w (w8.setRow g5 (#[.int .i64 ty.k, .int .i64 ty.n, .string ty.s, .slice a8 ty.args.length c8] : Array Value)) from HB.out.trans ⟨rfl, rfl, rfl, by simp, fun k hk => setRow_other _ _ _ _ (by omega)⟩)
        replace HI := Lib.hid (HI.out.imp (w' := w8.setRow g5 (#[.int .i64 ty.k, .int .i64 ty.n, .string ty.s, .slice a8 ty.args.length c8] : Array Value)) (fun _ h => h) fun b h _ => setRow_other _ _ _ _ (by have h2 : W6.heap.size ≤ b := h; omega))
        clear HW
        generalize w8.setRow g5 (#[.int .i64 ty.k, .int .i64 ty.n, .string ty.s, .slice a8 ty.args.length c8] : Array Value) = W9 at *
        obtain ⟨x0, x1, x2, x3⟩ := row4 HR0.out
        go_wp2_with fail
        clear x0 x1 x2 x3
        refine (ref_Two s nx ny hfx hfy _).mono ?_
        rintro e9 w9 ⟨rfl, hb9⟩
        have HE := Lib.hid (ev2_op (n := n) K1.out K2.out HK.out HEx.out HEy.out)
        generalize hone : twoT s nx ny = r at HE ⊢
        obtain ⟨m, er⟩ := r
        replace HR1 := Lib.hid (row_on HR1.out hb9)
        replace HB := Lib.hid (HB.out.trans (hb9.mono HB.out.size))
        clear hone hb9
        simp only at HE ⊢
        go_wp2_with (first
          | (with_reducible show wpList _ _ _ (⟨none, .store _ (.tmp 4) _, _, _, _, _⟩ :: _) _ _
             refine wpList_store_row rfl 30 (.tmp 4) (.tmp 122) rfl (w.heap.size + 1) #[.int .i64 0, .int .i64 0, .string ⟨#[]⟩, .slice none 0 0] rfl rfl _ _ HR1.out size_term rfl (one4 _ _ _ _ _ _) ?_))
        exact bodyPost_ret (v := .tuple #[.int .i64 m, .int .i64 er, .agg #[.int .i64 0, .int .i64 0, .string ⟨#[]⟩, .slice none 0 0]]) (results_tmp2_cell Try.results43 _ _ (w.heap.size + 1) _ _ _ _ _ _ rfl rfl rfl (setRow_heap _ _ _ _ _ _ HR1.out) Try.underlying30 rfl (by kernel_rfl)) rfl (ev_end (t := zT) (g := (w.heap.size + 1)) HE.out HB.out (by omega) (z_is _ (fun b => w.heap.size + 1 < b)) (fun b h => by have h2 : w.heap.size + 1 < b := h; omega))
    · have hk : knB s (x :: y :: z :: l).length = false := kn_no (by simp) (by simp)
      have q1 : (((x :: y :: z :: l).length : Int) == 2) = false := by simp; omega
      have q2 : (((x :: y :: z :: l).length : Int) == 1) = false := by simp; omega
      generalize hL : x :: y :: z :: l = L at *
      clear hL
      have HE := Lib.hid (ev_no (n := n) (args := L) k1 k2 hk)
      clear hk k1 k2 k3 HNL HML HF IH hfit HMA hmay HSL
      obtain ⟨t0, t1, tsz, tbl⟩ := two w (.cells #[.int .i64 4, .int .i64 n, .string s, .slice a L.length cap] 30 (0, 0)) (.cells #[.int .i64 0, .int .i64 0, .string ⟨#[]⟩, .slice none 0 0] 30 (0, 0))
      obtain ⟨x0, x1, x2, x3⟩ := row4 t0
      have HR0 := Lib.hid t0
      have HR1 := Lib.hid t1
      have HB := Lib.hid tbl
      have hgz : w.heap.size + 1 < ((w.alloc (.cells #[.int .i64 4, .int .i64 n, .string s, .slice a L.length cap] 30 (0, 0))).alloc (.cells #[.int .i64 0, .int .i64 0, .string ⟨#[]⟩, .slice none 0 0] 30 (0, 0))).heap.size := by omega
      clear t0 t1 tbl tsz
      go_enter Try.func43, Try.ntmps43
      go_wp2_with fail
      clear x0 x1 x2 x3
      generalize (w.alloc (.cells #[.int .i64 4, .int .i64 n, .string s, .slice a L.length cap] 30 (0, 0))).alloc (.cells #[.int .i64 0, .int .i64 0, .string ⟨#[]⟩, .slice none 0 0] 30 (0, 0)) = W at *
      refine (ref_Two s 1 1 (by decide) (by decide) _).mono ?_
      rintro e1 w1 ⟨rfl, hb1⟩
      replace HR0 := Lib.hid (row_on HR0.out hb1)
      replace HR1 := Lib.hid (row_on HR1.out hb1)
      replace HB := Lib.hid (HB.out.trans (hb1.mono HB.out.size))
      have hg1 := Nat.lt_of_lt_of_le hgz hb1.size
      clear hb1 hgz
      obtain ⟨x0, x1, x2, x3⟩ := row4 HR0.out
      go_wp2_with fail
      clear x0 x1 x2 x3
      refine (ref_One s 1 (by decide) _).mono ?_
      rintro e2 w2 ⟨rfl, hb2⟩
      replace HR0 := Lib.hid (row_on HR0.out hb2)
      replace HR1 := Lib.hid (row_on HR1.out hb2)
      replace HB := Lib.hid (HB.out.trans (hb2.mono HB.out.size))
      have hg2 := Nat.lt_of_lt_of_le hg1 hb2.size
      clear hb2
      obtain ⟨x0, x1, x2, x3⟩ := row4 HR0.out
      go_wp2_with fail
      clear x0 x1 x2 x3
      refine (ref_ind s L.length _).mono ?_
      rintro e3 w3 ⟨v3, rfl, hi3, hb3⟩
      obtain ⟨a3, c3, rfl⟩ := hi3.form
      replace HR1 := Lib.hid (row_on HR1.out hb3)
      replace HB := Lib.hid (HB.out.trans (hb3.mono HB.out.size))
      have HI := Lib.hid hi3
      clear hi3 hb3
      go_wp2_with (first
        | (with_reducible show wpList _ _ _ (⟨none, .store _ (.tmp 4) _, _, _, _, _⟩ :: _) _ _
           refine wpList_store_row rfl 30 (.tmp 4) (.tmp 71) rfl (w.heap.size + 1) #[.int .i64 (indT s L.length).k, .int .i64 (indT s L.length).n, .string (indT s L.length).s, .slice a3 (indT s L.length).args.length c3] rfl rfl _ _ HR1.out size_term rfl (one4 _ _ _ _ _ _) ?_))
      exact bodyPost_ret (v := .tuple #[.int .i64 0, .int .i64 13, .agg #[.int .i64 (indT s L.length).k, .int .i64 (indT s L.length).n, .string (indT s L.length).s, .slice a3 (indT s L.length).args.length c3]]) (results_tmp2_cell Try.results43 _ _ (w.heap.size + 1) _ _ _ _ _ _ rfl rfl rfl (setRow_heap _ _ _ _ _ _ HR1.out) Try.underlying30 rfl (by kernel_rfl)) rfl (ev_end (t := (indT s L.length)) (g := (w.heap.size + 1)) HE.out HB.out (by omega) HI.out (fun b h => by rcases h with h | h; exact h.elim; omega))
end Go.Proofs.Ytibjcfbilkkmkaa.Tms
