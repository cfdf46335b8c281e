
/-
  Layer 19's reference: Back, walked over the program.
-/
import Derived.Test.YtibjcfbilkkmkaaRtk
import Derived.Test.YtibjcfbilkkmkaaBak
namespace Go.Proofs.Ytibjcfbilkkmkaa.Tms
open Go Go.RowKit Go.Proofs.Ytibjcfbilkkmkaa.Reg Go.Proofs.Ytibjcfbilkkmkaa.Rws Go.Proofs.Ytibjcfbilkkmkaa.Cod
set_option linter.unusedVariables false
set_option linter.unusedSimpArgs false

theorem take_size (N : Nat) : (∀ l x j, sk l 1 = some j → j ≤ N → (takeT N l x).1.size ≤ j) ∧ ∀ n l x j, sk l n = some j → j ≤ N → sizeL (takeN (takeT N) n l x).1 ≤ j := by
  induction N with
  | zero =>
    refine ⟨fun l x j h hj => ?_, fun n l x j h hj => ?_⟩
    · obtain ⟨i, l', q, -, -, -, e⟩ := sk_one h; omega
    · cases n with
      | zero => rw [sk_zero] at h; cases h; simp [takeN, sizeL]
      | succ n => have := sk_pos l n j h; omega
  | succ N ih =>
    have h1 : ∀ l x j, sk l 1 = some j → j ≤ N + 1 → (takeT (N + 1) l x).1.size ≤ j := fun l x j h hj => by
      obtain ⟨i, l', q, rfl, hb, hq, rfl⟩ := sk_one h
      have hn := not_bad hb
      by_cases o6 : i.op = 6
      · have har : i.ar = i.a.toNat := by simp [Ins.ar, o6]
        rw [har] at hq
        simp only [takeT]
        rw [if_neg (by omega), if_neg (by omega), if_neg (by omega), if_neg (by omega)]
        have a := ih.2 _ _ x _ hq (by omega)
        simp only [compT, Tm.size]
        omega
      · simp only [takeT]
        split
        · simp only [varT, Tm.size, sizeL]; omega
        · split
          · simp only [varT, Tm.size, sizeL]; omega
          · split
            · simp only [intT, Tm.size, sizeL]; omega
            · split
              · simp only [atomT, Tm.size, sizeL]; omega
              · omega
    refine ⟨h1, fun n => ?_⟩
    induction n with
    | zero => intro l x j h hj; rw [sk_zero] at h; cases h; simp [takeN, sizeL]
    | succ n ihn =>
      intro l x j h hj
      obtain ⟨a, b, ha, hb, rfl⟩ := sk_split l 1 n j (by rw [Nat.add_comm]; exact h)
      have hr := (take_rest (N + 1)).1 l x a ha (by omega)
      have p1 := h1 l x a ha (by omega)
      have q1 := ihn (l.drop a) (takeT (N + 1) l x).2.2 b hb (by omega)
      simp only [takeN, hr]
      simp only [sizeL]
      omega
/-- the call's first variables, the code among them -/
structure RbCtx (w : World) (c : Cod) (vs : Value) (W : World) : Prop where
  crow : W.heap[w.heap.size]? = some (rcCells c vs)
  bk : BkCtx w W
theorem RbCtx.on {w : World} {c : Cod} {vs : Value} {W W' : World} (h : RbCtx w c vs W) (hb : Below W.heap.size W W') : RbCtx w c vs W' := by
  have := h.bk.big
  exact ⟨(hb.block _ (by omega)).trans h.crow, h.bk.on hb⟩
theorem RbCtx.keeps {w : World} {c : Cod} {vs : Value} {W W' : World} {M : Nat → Prop} (h : RbCtx w c vs W) (hb : Keeps W W' M) (hM : ∀ b, M b → w.heap.size + 3 ≤ b) : RbCtx w c vs W' := by
  have := h.bk.big
  exact ⟨(hb.block _ (by omega) fun e => by have := hM _ e; omega).trans h.crow, h.bk.keeps hb hM⟩
/-- behind r arguments -/
structure RbRow (w : World) (c : Cod) (vs : Value) (hb n A r : Nat) (va : Value) (at_ : Nat) (an' : Int) (wr : World) : Prop where
  le : r ≤ n
  at_ : ∃ d, sk c.l r = some at_ ∧ sk (c.l.drop at_) (n - r) = some d ∧ at_ + d = A ∧ c.slots + an' = (takeN (takeT c.l.length) r c.l c.slots).2.2
  own : Own tmKind wr (hb + 1) (fun b => hb + 1 ≤ b) va (takeN (takeT c.l.length) r c.l c.slots).1
  ctx : RbCtx w c vs wr
  hrow : wr.heap[hb]? = some (.cells #[.int .i64 (if r = 0 then 3 else 4), .int .i64 0, .string c.name, va] 30 (0, 0))
  big : hb + 1 ≤ wr.heap.size
def RbRel (w : World) (c : Cod) (vs : Value) (hb n A : Nat) (v7 v8 v9 : Value) (wr : World) : Prop :=
  ∃ (r : Nat) (va : Value) (m : Nat) (an' : Int), v7 = .int .i64 m ∧ v8 = .int .i64 an' ∧ v9 = .int .i64 r ∧ RbRow w c vs hb n A r va m an' wr
set_option maxRecDepth 100000 in
set_option maxHeartbeats 8000000 in
theorem ref_Back (c : Cod) (v : Value) (w : World) (hv : InsSl w v c.l) : Calls Try.prog 17 #[codVal c v] w (BkPost (backE c) w) := by
  obtain ⟨qa, qc, rfl⟩ := hv.form
  obtain ⟨t0, t1, t2, tsz, tbl⟩ := three w (rcCells c (.slice qa c.l.length qc)) (.cells zero4 30 (0, 0)) (.cells zero4 30 (0, 0))
  have hcx : RbCtx w c (.slice qa c.l.length qc) (((w.alloc (rcCells c (.slice qa c.l.length qc))).alloc (.cells zero4 30 (0, 0))).alloc (.cells zero4 30 (0, 0))) := ⟨t0, t1, t2, tbl, by omega⟩
  obtain ⟨x0, x1, x2, x3, x4⟩ := row5 t0
  have HV := Lib.hid hv
  have HCX := Lib.hid hcx
  clear hv hcx t0 t1 t2 tsz tbl
  go_enter Try.func17, Try.ntmps17
  go_wp2_with fail
  refine (Cod.ref_check c _ _ (HV.out.below HCX.out.bk.bel)).mono ?_
  rintro e2 w2 ⟨rfl, hb2⟩
  replace HCX := Lib.hid (HCX.out.on hb2)
  clear hb2 x0 x1 x2 x3 x4
  by_cases k1 : check c = 0
  case neg =>
    have b1 : (check c != 0) = true := by simpa using k1
    have hr : backE c = (.mk 0 0 ⟨#[]⟩ [], .mk 0 0 ⟨#[]⟩ [], check c) := if_pos k1
    have HR := Lib.hid hr
    clear hr k1
    go_wp2_with (first
      | (with_reducible show wpList _ _ _ (⟨none, .store _ (.tmp 2) _, _, _, _, _⟩ :: _) _ _
         refine wpList_store_row rfl 30 (.tmp 2) (.tmp 20) rfl (w.heap.size + 1) zero4 rfl rfl _ _ HCX.out.bk.hr size_term rfl (one4 _ _ _ _ _ _) ?_)
      | (with_reducible show wpList _ _ _ (⟨none, .store _ (.tmp 3) _, _, _, _, _⟩ :: _) _ _
         refine wpList_store_row rfl 30 (.tmp 3) (.tmp 21) rfl (w.heap.size + 1 + 1) zero4 rfl rfl _ _ ((setRow_other _ _ _ _ (by omega)).trans HCX.out.bk.br) size_term rfl (one4 _ _ _ _ _ _) ?_))
    have hz2 := setRow_heap (w2.setRow (w.heap.size + 1) zero4) (w.heap.size + 1 + 1) _ zero4 _ _ ((setRow_other _ _ _ _ (by omega)).trans HCX.out.bk.br)
    have hz1 : ((w2.setRow (w.heap.size + 1) zero4).setRow (w.heap.size + 1 + 1) zero4).heap[w.heap.size + 1]? = _ := (setRow_other _ _ _ _ (by omega)).trans (setRow_heap w2 (w.heap.size + 1) _ zero4 _ _ HCX.out.bk.hr)
    have hpost := bk_end (H := .mk 0 0 ⟨#[]⟩ []) (B := .mk 0 0 ⟨#[]⟩ []) (x := check c) (a1 := none) (a2 := none) (c1 := 0) (c2 := 0) HCX.out.bk (IsTm.mk' (t := .mk 0 0 ⟨#[]⟩ []) (IsSl.nil _ _ none 0)) (IsTm.mk' (t := .mk 0 0 ⟨#[]⟩ []) (IsSl.nil _ _ none 0)) zero4 zero4
    exact bodyPost_ret (v := .tuple #[.agg zero4, .agg zero4, .int .i64 (check c)]) (results_three Try.results17 _ _ (w.heap.size + 1) (w.heap.size + 1 + 1) _ _ _ _ _ _ rfl rfl rfl hz1 hz2 Try.underlying30 rfl (by kernel_rfl) (by kernel_rfl)) rfl (by rw [HR.out]; exact hpost)
  rw [k1]
  obtain ⟨A, j, s, hok⟩ := check_facts k1
  have hsl := hok.slotLe
  have hL : c.l.length ≤ 20000 := hok.len
  have hbe : backE c = if 2000 < max (deepT (bkH c)) (deepT (bkB c)) then (.mk 0 0 ⟨#[]⟩ [], .mk 0 0 ⟨#[]⟩ [], 4) else (bkH c, bkB c, 0) := by unfold backE; rw [if_neg (by simpa using k1)]
  have HBE := Lib.hid hbe
  have HOK := Lib.hid hok
  obtain ⟨n, hn⟩ : ∃ n : Nat, c.args = n := ⟨c.args.toNat, by have := hok.args.1; omega⟩
  have hn1 : n ≤ 255 := by have := hok.args.2; omega
  have hnt : c.args.toNat = n := by rw [hn]; simp
  have HN := Lib.hid hn
  have HNT := Lib.hid hnt
  have hskA := hok.sk
  rw [hnt] at hskA
  have HSKA := Lib.hid hskA
  clear hok hbe k1 hn hnt hskA
  have hb3 := below_new w2 (.cells #[.int .i64 3, .int .i64 0, .string c.name, .slice none 0 0] 30 (0, 0))
  have hg3 := heap_alloc_new w2 (.cells #[.int .i64 3, .int .i64 0, .string c.name, .slice none 0 0] 30 (0, 0))
  obtain ⟨x0, x1, x2, x3, x4⟩ := row5 HCX.out.crow
  go_upto_region 5 with fail
  clear x0 x1 x2 x3 x4
  have hst : RbRel w c (.slice qa c.l.length qc) w2.heap.size n A (.int .i64 0) (.int .i64 0) (.int .i64 0) (w2.alloc (.cells #[.int .i64 3, .int .i64 0, .string c.name, .slice none 0 0] 30 (0, 0))) :=
    ⟨0, .slice none 0 0, 0, 0, rfl, rfl, rfl, Nat.zero_le _, ⟨A, sk_zero _, HSKA.out, by omega, by simp [takeN]⟩, Own.nil _ _ _, HCX.out.on hb3, hg3, by simp⟩
  have HSR := Lib.hid hst
  have HW2 : Hid (w.heap.size + 3 ≤ w2.heap.size) := Lib.hid HCX.out.bk.big
  clear hb3 hg3 hst HCX
  generalize w2.alloc (.cells #[.int .i64 3, .int .i64 0, .string c.name, .slice none 0 0] 30 (0, 0)) = W2 at *
  generalize w2.heap.size = hb at *
  go_wp2
  go_loopw [7, 8, 9] (fun v7 v8 v9 wr => RbRel w c (.slice qa c.l.length qc) hb n A v7 v8 v9 wr) (fun _ _ v9 _ => n - (intOf v9).toNat)
  case atStart => exact HSR.out
  case round =>
    obtain ⟨r, va, m, an', rfl, rfl, rfl, hr⟩ := hrel
    clear HSR
    obtain ⟨d, hc, hd, hcd, hcan⟩ := hr.at_
    obtain ⟨qv, cv, rfl⟩ := own_slice hr.own
    have hrn0 := hr.le
    have HCX := Lib.hid hr.ctx
    have HTR := Lib.hid hr.hrow
    have HBG := Lib.hid hr.big
    have hown := hr.own
    clear hr
    have hA : A + j = c.l.length := HOK.out.all
    have htf := (take_facts c.l.length).2 r c.l c.slots m hc (by omega)
    have htr := (take_rest c.l.length).2 r c.l c.slots m hc (by omega)
    have hsn := takeN_snoc (takeT c.l.length) r c.l c.slots
    have hln := takeN_len (takeT c.l.length) r c.l c.slots
    rw [htr] at hsn
    by_cases hrn : r < n
    · obtain ⟨j1, d1, e1, e2, e3⟩ := sk_split _ 1 (n - r - 1) d (by rw [show 1 + (n - r - 1) = n - r by omega]; exact hd)
      rw [List.drop_drop] at e2
      have hjn := sk_join _ r 1 m j1 hc e1
      have hlc := sk_le _ _ _ e1
      have hj1 := sk_pos _ 0 j1 e1
      rw [List.length_drop] at hlc
      rw [← hcan] at hsn htf
      generalize takeN (takeT c.l.length) r c.l c.slots = S at *
      obtain ⟨ts, LS, x'⟩ := S
      simp only at htf htr hsn hln hcan hown
      have hih := fun (u : World) h => ref_term c (.slice qa c.l.length qc) (by omega) (by omega) (by omega) c.l.length m j1 an' u e1 (by omega) (by omega) (by omega) (by omega) h
      have HIH := Lib.hid hih
      have HSN := Lib.hid hsn
      have HLN := Lib.hid hln
      have HE := Lib.hid (And.intro hjn (And.intro e2 e3))
      have HOW := Lib.hid hown
      have HHC := Lib.hid hcd
      have hlts : ts.length ≤ 255 := by omega
      clear hih hsn hln hjn e2 e3 e1 hc hd hcan hown hcd hA
      generalize takeT c.l.length (c.l.drop m) (c.slots + an') = R at *
      obtain ⟨t, LR, x2⟩ := R
      have hin : (r : Int) < (n : Int) := by omega
      have hin0 : (0 : Int) ≤ (r : Int) := by omega
      obtain ⟨x0, x1, x2_, x3, x4⟩ := row5 HCX.out.crow
      rw [HN.out] at x1
      have hcodV : codV c (.slice qa c.l.length qc) = .agg #[.string c.name, .int .i64 n, .int .i64 c.slots, .int .i64 c.body, .slice qa c.l.length qc] := by rw [← HN.out]
      rw [hcodV] at HIH
      clear hcodV
      go_wp2_with fail
      refine (HIH.out _ (HV.out.below HCX.out.bk.bel)).mono ?_
      rintro e w9 ⟨ax, kx, an2, rfl, hx2, hix, hb9⟩
      have hz9 := hb9.size
      have HIX := Lib.hid hix
      have HX2 := Lib.hid hx2
      replace HCX := Lib.hid (HCX.out.on hb9)
      have hlo := fun k e => HOW.out.low k e
      have HLO := Lib.hid hlo
      have hbig := HBG.out
      replace HTR := Lib.hid ((hb9.block _ (by omega)).trans HTR.out)
      replace HOW := Lib.hid (HOW.out.below hb9)
      have HZ9 := Lib.hid hz9
      clear x0 x1 x2_ x3 x4 hix hx2 hb9 hz9 hlo
      go_upto_region 10 with fail
      have hb10 := below_new w9 (rowT t ax kx)
      have hg10 := heap_alloc_new w9 (rowT t ax kx)
      have hz10 : (w9.alloc (rowT t ax kx)).heap.size = w9.heap.size + 1 := by simp
      simp only [rowT] at hb10 hg10 hz10
      replace HIX := Lib.hid (HIX.out.below hb10)
      replace HCX := Lib.hid (HCX.out.on hb10)
      replace HTR := Lib.hid ((hb10.block _ (Array.getElem?_eq_some_iff.1 HTR.out).1).trans HTR.out)
      replace HOW := Lib.hid (HOW.out.below hb10)
      have HG10 := Lib.hid hg10
      have HZ10 := Lib.hid hz10
      clear hb10 hg10 hz10
      generalize w9.alloc (.cells #[.int .i64 t.k, .int .i64 t.n, .string t.s, .slice ax t.args.length kx] 30 (0, 0)) = w10 at *
      generalize hk0 : (if r = 0 then (3 : Int) else 4) = k0 at *
      clear hk0
      obtain ⟨x0, x1, x2_, x3⟩ := row4 HTR.out
      obtain ⟨y0, y1, y2, y3⟩ := row4 HG10.out
      have hb11 := below_new w10 (.cells #[.int .i64 t.k, .int .i64 t.n, .string t.s, .slice ax t.args.length kx] 30 (0, 0))
      have hg11 := heap_alloc_new w10 (.cells #[.int .i64 t.k, .int .i64 t.n, .string t.s, .slice ax t.args.length kx] 30 (0, 0))
      have HOW11 := Lib.hid (HOW.out.below hb11)
      have HIX11 := Lib.hid (HIX.out.below hb11)
      have HCX11 := Lib.hid (HCX.out.on hb11)
      have HTR11 := Lib.hid ((hb11.block _ (Array.getElem?_eq_some_iff.1 HTR.out).1).trans HTR.out)
      have HG11 := Lib.hid hg11
      have hs11 : (w10.alloc (.cells #[.int .i64 t.k, .int .i64 t.n, .string t.s, .slice ax t.args.length kx] 30 (0, 0))).heap.size = w10.heap.size + 1 := by simp
      have HS11 := Lib.hid hs11
      clear hb11 hg11 HOW HIX HCX HTR HG10 hs11
      go_wp2_with (with_reducible show wpList _ _ _ (⟨some 44, _, _, _, _, _⟩ :: _) _ _
                   refine wpList_putN (K := tmKind) rfl (.tmp 41) (.tmp 43) _ rfl Try.underlying28 info_tm rfl (hb + 1) (fun b => hb + 1 ≤ b) (.slice qv ts.length cv) ts [[.int .i64 t.k, .int .i64 t.n, .string t.s, .slice ax t.args.length kx]] [t] ⟨w10.heap.size, 0, none⟩ 1 rfl HOW11.out rfl (fun j v hv => by rw [Addr.add_lit, cell_of_row _ _ _ _ _ _ HG11.out, Nat.zero_add]; simpa using hv) (by simp) ⟨(HIX11.out.imp (fun b hb' => ⟨by have := HBG.out; omega, fun e => by have := (HLO.out b e).2; omega⟩) fun _ _ _ => rfl).cells, trivial⟩ (by unfold maxLen; simp; omega) (by simp; omega) (by have := HBG.out; have := HS11.out; have := HZ10.out; have := HZ9.out; omega) ?_
                   intro v12 w12 hown hb12 hgr hv12
                   obtain ⟨q12, n12, c12, rfl⟩ : ∃ q n c, v12 = .slice q n c := by obtain ⟨q', c', e'⟩ := own_slice hown; exact ⟨q', _, c', e'⟩
                   have hbig := HBG.out
                   have hs11 := HS11.out
                   have hs10 := HZ10.out
                   have hs9 := HZ9.out
                   have hw2 := HW2.out
                   have htr12 : w12.heap[hb]? = some (.cells #[.int .i64 k0, .int .i64 0, .string c.name, .slice qv ts.length cv] 30 (0, 0)) := (hgr.block _ (by omega) (fun e => by have := (HLO.out _ e.symm).1; omega)).trans HTR11.out
                   have htr13 : (w12.setCell ⟨hb, 0, none⟩ (.int .i64 4)).heap[hb]? = some (.cells #[.int .i64 4, .int .i64 0, .string c.name, .slice qv ts.length cv] 30 (0, 0)) := by simpa using heap_setCell_same w12 hb 0 _ _ (.int .i64 4) htr12
                   have hfin : RbRow w c (.slice qa c.l.length qc) hb n A (r + 1) (.slice q12 n12 c12) (m + j1) an2 ((w12.setCell ⟨hb, 0, none⟩ (.int .i64 4)).setCell ⟨hb, 3, none⟩ (.slice q12 n12 c12)) := by
                     have hcx12 := ((HCX11.out.keeps (Keeps.grown hgr (M := fun b => (Value.slice qv ts.length cv).ownBlock = some b) fun b e => .inl e) fun b e => by have := (HLO.out b e).1; omega).keeps (keeps_setc w12 hb 0 (.int .i64 4)) fun b e => by omega).keeps (keeps_setc _ hb 3 (.slice q12 n12 c12)) fun b e => by omega
                     have hrow := heap_setCell_same _ hb 3 _ _ (.slice q12 n12 c12) htr13
                     refine ⟨by omega, ⟨d1, HE.out.1, ?_, by have := HE.out.2.2; have := HHC.out; omega, ?_⟩, ?_, hcx12, by rw [if_neg (by omega)]; simpa using hrow, by have := hgr.size; simp [World.setCell]; omega⟩
                     · rw [show n - (r + 1) = n - r - 1 by omega]; exact HE.out.2.1
                     · rw [HSN.out]; exact HX2.out
                     · rw [HSN.out]
                       have ne : ∀ b, hb + 1 ≤ b → ¬ b = hb := fun b h => by omega
                       have h1 := hown.keep (w' := w12.setCell ⟨hb, 0, none⟩ (.int .i64 4)) (by simp [World.setCell]) fun b hlt hq => Below.heap_setCell _ _ _ _ (ne b (by
                         rcases hq with hq | hq
                         · exact hq
                         · exact (hown.low b hq).1))
                       exact h1.keep (by simp [World.setCell]) fun b hlt hq => Below.heap_setCell _ _ _ _ (ne b (by
                         rcases hq with hq | hq
                         · exact hq
                         · exact (hown.low b hq).1))
                   have HFI := Lib.hid hfin
                   obtain ⟨k0_, k1, k2, k3⟩ := row4 htr12
                   have f0 := frozen_of_row _ _ 0 _ _ htr12
                   obtain ⟨g0_, g1, g2, g3⟩ := row4 htr13
                   have f3 := frozen_of_row _ _ 3 _ _ htr13
                   clear hown hb12 hgr hv12 htr12 htr13 hfin hbig hs11 hs10 hs9 hw2)
      go_roundw
      case rel => exact ⟨r + 1, _, _, _, rfl, rfl, by go_num, HFI.out⟩
      case measure => simp [intOf]; omega
    · obtain rfl : r = n := by omega
      rw [Nat.sub_self, sk_zero] at hd
      cases hd
      obtain rfl : m = A := by omega
      have hbk : bkA c = takeN (takeT c.l.length) r c.l c.slots := by unfold bkA; rw [HNT.out]
      have HTS := Lib.hid hsn
      clear hsn htf
      rw [← hbk] at hln hcan hown htr HTR
      have hH : bkH c = .mk (if r = 0 then 3 else 4) 0 c.name (bkA c).1 := by
        unfold bkH
        rw [HN.out]
        by_cases hr0 : r = 0
        · subst hr0
          rw [if_neg (by omega), if_pos rfl, List.eq_nil_of_length_eq_zero hln]
          rfl
        · rw [if_pos (by omega), if_neg hr0]
          rfl
      have hB : bkB c = (takeT c.l.length (c.l.drop m) (c.slots + an')).1 := by unfold bkB; rw [htr, hcan]
      have hsz := (take_size c.l.length).2 r c.l c.slots m hc (by omega)
      rw [← hbk] at hsz
      have hsz2 := (take_size c.l.length).1 (c.l.drop m) (c.slots + an') j HOK.out.rest (by omega)
      have htf := (take_facts c.l.length).2 r c.l c.slots m hc (by omega)
      rw [← hbk, ← hcan] at htf
      rw [hH, hB] at HBE
      have hHs : (Tm.mk (if r = 0 then 3 else 4) 0 c.name (bkA c).1).size ≤ 30000 := by simp only [Tm.size]; omega
      have hin : decide ((r : Int) < (r : Int)) = false := by simp
      have hih := fun (u : World) h => ref_term c (.slice qa c.l.length qc) (by omega) (by omega) (by omega) c.l.length m j an' u HOK.out.rest (by omega) (by omega) (by omega) (by omega) h
      have HIH := Lib.hid hih
      have HHI := Lib.hid (IsTm.mk' (t := .mk (if r = 0 then 3 else 4) 0 c.name (bkA c).1) (a := qv) (cap := cv) (own_reads hown))
      clear hih hH hB hbk hcan htr hc htf hsz hown HTS
      generalize takeT c.l.length (c.l.drop m) (c.slots + an') = R at *
      obtain ⟨B, LR, x2⟩ := R
      simp only at hsz2 HBE
      generalize (bkA c).1 = ts at *
      obtain rfl : ts.length = r := hln
      generalize hk0 : (if ts.length = 0 then (3 : Int) else 4) = kk at *
      clear hk0
      obtain ⟨x0, x1, x2_, x3, x4⟩ := row5 HCX.out.crow
      rw [HN.out] at x1
      have hcodV : codV c (.slice qa c.l.length qc) = .agg #[.string c.name, .int .i64 (ts.length : Nat), .int .i64 c.slots, .int .i64 c.body, .slice qa c.l.length qc] := by rw [← HN.out]
      rw [hcodV] at HIH
      clear hcodV
      go_wp2_with fail
      refine (HIH.out _ (HV.out.below HCX.out.bk.bel)).mono ?_
      rintro e w9 ⟨ax, kx, an2, rfl, hx2, hix, hb9⟩
      have hz9 := hb9.size
      have hbig := HBG.out
      have hw2 := HW2.out
      have HIX := Lib.hid (hix.imp (P' := fun b => w.heap.size + 3 ≤ b) (fun b hb' => by omega) fun _ _ _ => rfl)
      replace HCX := Lib.hid (HCX.out.on hb9)
      replace HTR := Lib.hid ((hb9.block _ (by omega)).trans HTR.out)
      replace HHI := Lib.hid (HHI.out.below hb9)
      have hlh : hb < w9.heap.size := by omega
      clear x0 x1 x2_ x3 x4 hix hx2 hb9 hz9
      go_upto_region 12 with fail
      have hb10 := below_new w9 (rowT B ax kx)
      have hg10 := heap_alloc_new w9 (rowT B ax kx)
      simp only [rowT] at hb10 hg10
      replace HIX := Lib.hid (HIX.out.below hb10)
      replace HCX := Lib.hid (HCX.out.on hb10)
      replace HTR := Lib.hid ((hb10.block _ hlh).trans HTR.out)
      replace HHI := Lib.hid (HHI.out.below hb10)
      have HG10 := Lib.hid hg10
      clear hb10 hg10
      generalize w9.alloc (.cells #[.int .i64 B.k, .int .i64 B.n, .string B.s, .slice ax B.args.length kx] 30 (0, 0)) = w10 at *
      generalize w9.heap.size = gb at *
      obtain ⟨x0, x1, x2_, x3⟩ := row4 HTR.out
      go_wp2_with fail
      refine (ref_deep _ (.mk kk 0 c.name ts) _ _ _ (Nat.le_refl _) (by omega) HHI.out).mono ?_
      rintro e11 w11 ⟨rfl, hb11⟩
      replace HIX := Lib.hid (HIX.out.below hb11)
      replace HCX := Lib.hid (HCX.out.on hb11)
      replace HTR := Lib.hid (row_on HTR.out hb11)
      replace HHI := Lib.hid (HHI.out.below hb11)
      replace HG10 := Lib.hid (row_on HG10.out hb11)
      clear hb11 x0 x1 x2_ x3
      have hbad : ∀ (W : World), RbCtx w c (.slice qa c.l.length qc) W → BkPost (.mk 0 0 ⟨#[]⟩ [], .mk 0 0 ⟨#[]⟩ [], 4) w (.returned (.tuple #[.agg zero4, .agg zero4, .int .i64 4])) ((W.setRow (w.heap.size + 1) zero4).setRow (w.heap.size + 1 + 1) zero4) := fun W hW =>
        bk_end (H := .mk 0 0 ⟨#[]⟩ []) (B := .mk 0 0 ⟨#[]⟩ []) (x := 4) (a1 := none) (a2 := none) (c1 := 0) (c2 := 0) hW.bk (IsTm.mk' (t := .mk 0 0 ⟨#[]⟩ []) (IsSl.nil _ _ none 0)) (IsTm.mk' (t := .mk 0 0 ⟨#[]⟩ []) (IsSl.nil _ _ none 0)) zero4 zero4
      have HBAD := Lib.hid hbad
      clear hbad
      generalize hdH : deepT (.mk kk 0 c.name ts) = dH at *
      clear hdH
      generalize hdB : deepT B = dB at *
      have HDB := Lib.hid hdB
      clear hdB
      by_cases q1 : 2000 < dH
      · have q1' : (2000 : Int) < (dH : Int) := by omega
        have HR := Lib.hid (HBE.out.trans (if_pos (by omega)))
        clear q1
        go_wp2_with (first
          | (with_reducible show wpList _ _ _ (⟨none, .store _ (.tmp 2) _, _, _, _, _⟩ :: _) _ _
             refine wpList_store_row rfl 30 (.tmp 2) (.tmp 65) rfl (w.heap.size + 1) zero4 rfl rfl _ _ HCX.out.bk.hr size_term rfl (one4 _ _ _ _ _ _) ?_)
          | (with_reducible show wpList _ _ _ (⟨none, .store _ (.tmp 3) _, _, _, _, _⟩ :: _) _ _
             refine wpList_store_row rfl 30 (.tmp 3) (.tmp 66) rfl (w.heap.size + 1 + 1) zero4 rfl rfl _ _ ((setRow_other _ _ _ _ (by omega)).trans HCX.out.bk.br) size_term rfl (one4 _ _ _ _ _ _) ?_))
        have hz2 := setRow_heap (w11.setRow (w.heap.size + 1) zero4) (w.heap.size + 1 + 1) _ zero4 _ _ ((setRow_other _ _ _ _ (by omega)).trans HCX.out.bk.br)
        have hz1 : ((w11.setRow (w.heap.size + 1) zero4).setRow (w.heap.size + 1 + 1) zero4).heap[w.heap.size + 1]? = _ := (setRow_other _ _ _ _ (by omega)).trans (setRow_heap w11 (w.heap.size + 1) _ zero4 _ _ HCX.out.bk.hr)
        have hpost := HBAD.out w11 HCX.out
        exact bodyPost_ret (v := .tuple #[.agg zero4, .agg zero4, .int .i64 4]) (results_three Try.results17 _ _ (w.heap.size + 1) (w.heap.size + 1 + 1) _ _ _ _ _ _ rfl rfl rfl hz1 hz2 Try.underlying30 rfl (by kernel_rfl) (by kernel_rfl)) rfl (by rw [HR.out]; exact hpost)
      · have q1' : (dH : Int) ≤ 2000 := by omega
        obtain ⟨y0, y1, y2, y3⟩ := row4 HG10.out
        go_wp2_with fail
        refine (ref_deep _ B _ _ _ (Nat.le_refl _) (by omega) HIX.out).mono ?_
        rintro e12 w12 ⟨rfl, hb12⟩
        rw [HDB.out]
        replace HIX := Lib.hid (HIX.out.below hb12)
        replace HCX := Lib.hid (HCX.out.on hb12)
        replace HTR := Lib.hid (row_on HTR.out hb12)
        replace HHI := Lib.hid (HHI.out.below hb12)
        replace HG10 := Lib.hid (row_on HG10.out hb12)
        clear hb12 y0 y1 y2 y3
        by_cases q2 : 2000 < dB
        · have q2' : (2000 : Int) < (dB : Int) := by omega
          have HR := Lib.hid (HBE.out.trans (if_pos (by omega)))
          clear q2 q1
          go_wp2_with (first
            | (with_reducible show wpList _ _ _ (⟨none, .store _ (.tmp 2) _, _, _, _, _⟩ :: _) _ _
               refine wpList_store_row rfl 30 (.tmp 2) (.tmp 65) rfl (w.heap.size + 1) zero4 rfl rfl _ _ HCX.out.bk.hr size_term rfl (one4 _ _ _ _ _ _) ?_)
            | (with_reducible show wpList _ _ _ (⟨none, .store _ (.tmp 3) _, _, _, _, _⟩ :: _) _ _
               refine wpList_store_row rfl 30 (.tmp 3) (.tmp 66) rfl (w.heap.size + 1 + 1) zero4 rfl rfl _ _ ((setRow_other _ _ _ _ (by omega)).trans HCX.out.bk.br) size_term rfl (one4 _ _ _ _ _ _) ?_))
          have hz2 := setRow_heap (w12.setRow (w.heap.size + 1) zero4) (w.heap.size + 1 + 1) _ zero4 _ _ ((setRow_other _ _ _ _ (by omega)).trans HCX.out.bk.br)
          have hz1 : ((w12.setRow (w.heap.size + 1) zero4).setRow (w.heap.size + 1 + 1) zero4).heap[w.heap.size + 1]? = _ := (setRow_other _ _ _ _ (by omega)).trans (setRow_heap w12 (w.heap.size + 1) _ zero4 _ _ HCX.out.bk.hr)
          have hpost := HBAD.out w12 HCX.out
          exact bodyPost_ret (v := .tuple #[.agg zero4, .agg zero4, .int .i64 4]) (results_three Try.results17 _ _ (w.heap.size + 1) (w.heap.size + 1 + 1) _ _ _ _ _ _ rfl rfl rfl hz1 hz2 Try.underlying30 rfl (by kernel_rfl) (by kernel_rfl)) rfl (by rw [HR.out]; exact hpost)
        · have q2' : (dB : Int) ≤ 2000 := by omega
          have HR := Lib.hid (HBE.out.trans (if_neg (by omega)))
          clear q2 q1
          go_wp2
          refine wp_region_rest (by kernel_rfl) ?_
          have hdr : Below w12.heap.size w12 w12.drew := (Below.refl _ _).drew
          replace HIX := Lib.hid (HIX.out.below hdr)
          replace HCX := Lib.hid (HCX.out.on hdr)
          replace HTR := Lib.hid (row_on HTR.out hdr)
          replace HHI := Lib.hid (HHI.out.below hdr)
          replace HG10 := Lib.hid (row_on HG10.out hdr)
          clear hdr
          generalize w12.drew = W9 at *
          have l1 := (Array.getElem?_eq_some_iff.1 HTR.out).1
          have l2 := (Array.getElem?_eq_some_iff.1 HG10.out).1
          have n1 : hb ≠ w.heap.size + 1 := by omega
          have n2 : gb ≠ w.heap.size + 1 := by omega
          refine rest_chainP (fun u => Keeps W9 u (fun b => b = w.heap.size + 1)) 0 3 (.soft 0 (.soft 1 (.one 2 .nil))) (.soft _ (.soft _ (.one _ .nil))) ⟨rfl, ⟨rfl, ⟨rfl, trivial⟩⟩⟩ (by kernel_rfl) (by kernel_rfl) (by kernel_rfl) (by kernel_rfl) (.inr (by kernel_rfl)) (Keeps.refl _ _) ?_
          refine chainP_softv (.agg #[.int .i64 kk, .int .i64 0, .string c.name, .slice qv ts.length cv]) (by kernel_rfl) (by kernel_rfl) ?_ ?_
          · simp only [Act.put, List.getElem?_toArray, List.getElem?_cons_succ, List.getElem?_cons_zero, Option.bind_some, List.setIfInBounds_toArray, List.set_cons_succ, List.set_cons_zero, Nat.reduceAdd]
            intro u hu E hE
            obtain ⟨x0, x1, x2_, x3⟩ := row4 ((hu.block _ l1 n1).trans HTR.out)
            go_wp2
            exact hE
          simp only [Act.put, List.getElem?_toArray, List.getElem?_cons_succ, List.getElem?_cons_zero, Option.bind_some, List.setIfInBounds_toArray, List.set_cons_succ, List.set_cons_zero, Nat.reduceAdd]
          refine chainP_softv (.agg #[.int .i64 B.k, .int .i64 B.n, .string B.s, .slice ax B.args.length kx]) (by kernel_rfl) (by kernel_rfl) ?_ ?_
          · simp only [Act.put, List.getElem?_toArray, List.getElem?_cons_succ, List.getElem?_cons_zero, Option.bind_some, List.setIfInBounds_toArray, List.set_cons_succ, List.set_cons_zero, Nat.reduceAdd]
            intro u hu E hE
            obtain ⟨x0, x1, x2_, x3⟩ := row4 ((hu.block _ l2 n2).trans HG10.out)
            go_wp2
            exact hE
          simp only [Act.put, List.getElem?_toArray, List.getElem?_cons_succ, List.getElem?_cons_zero, Option.bind_some, List.setIfInBounds_toArray, List.set_cons_succ, List.set_cons_zero, Nat.reduceAdd]
          refine chainP_one ?_
          intro E hE
          refine wpList_store_row rfl 30 (.tmp 2) (.tmp 67) rfl (w.heap.size + 1) #[.int .i64 kk, .int .i64 0, .string c.name, .slice qv ts.length cv] rfl rfl _ _ HCX.out.bk.hr size_term rfl (one4 _ _ _ _ _ _) ?_
          refine hE _ _ ⟨keeps_row _ _ _, ?_⟩
          refine chainP_nil ?_
          refine rest_lineL 3 5 [_, _] rfl (by kernel_rfl) (by decide) (by decide) (by kernel_rfl) ?_
          go_wp2_with (with_reducible show wpList _ _ _ (⟨none, .store _ (.tmp 3) _, _, _, _, _⟩ :: _) _ _
                       refine wpList_store_row rfl 30 (.tmp 3) (.tmp 68) rfl (w.heap.size + 1 + 1) #[.int .i64 B.k, .int .i64 B.n, .string B.s, .slice ax B.args.length kx] rfl rfl _ _ ((setRow_other _ _ _ _ (by omega)).trans HCX.out.bk.br) size_term rfl (one4 _ _ _ _ _ _) ?_)
          refine then_rest (rest_end (by decide) ?_)
          go_wp2
          have hz2 := setRow_heap (W9.setRow (w.heap.size + 1) (#[.int .i64 kk, .int .i64 0, .string c.name, .slice qv ts.length cv] : Array Value)) (w.heap.size + 1 + 1) _ (#[.int .i64 B.k, .int .i64 B.n, .string B.s, .slice ax B.args.length kx] : Array Value) _ _ ((setRow_other _ _ _ _ (by omega)).trans HCX.out.bk.br)
          have hz1 : ((W9.setRow (w.heap.size + 1) (#[.int .i64 kk, .int .i64 0, .string c.name, .slice qv ts.length cv] : Array Value)).setRow (w.heap.size + 1 + 1) (#[.int .i64 B.k, .int .i64 B.n, .string B.s, .slice ax B.args.length kx] : Array Value)).heap[w.heap.size + 1]? = _ := (setRow_other _ _ _ _ (by omega)).trans (setRow_heap W9 (w.heap.size + 1) _ (#[.int .i64 kk, .int .i64 0, .string c.name, .slice qv ts.length cv] : Array Value) _ _ HCX.out.bk.hr)
          have hpost := bk_end (H := .mk kk 0 c.name ts) (B := B) (x := 0) (a1 := qv) (a2 := ax) (c1 := cv) (c2 := kx) HCX.out.bk (HHI.out.imp (fun b hb' => by rcases hb' with h1 | h1 <;> omega) fun _ _ _ => rfl) HIX.out (#[.int .i64 kk, .int .i64 0, .string c.name, .slice qv ts.length cv] : Array Value) (#[.int .i64 B.k, .int .i64 B.n, .string B.s, .slice ax B.args.length kx] : Array Value)
          exact bodyPost_ret (v := .tuple #[.agg #[.int .i64 kk, .int .i64 0, .string c.name, .slice qv ts.length cv], .agg #[.int .i64 B.k, .int .i64 B.n, .string B.s, .slice ax B.args.length kx], .int .i64 0]) (results_three Try.results17 _ _ (w.heap.size + 1) (w.heap.size + 1 + 1) _ _ _ _ _ _ rfl rfl rfl hz1 hz2 Try.underlying30 rfl (by kernel_rfl) (by kernel_rfl)) rfl (by rw [HR.out]; exact hpost)
end Go.Proofs.Ytibjcfbilkkmkaa.Tms
