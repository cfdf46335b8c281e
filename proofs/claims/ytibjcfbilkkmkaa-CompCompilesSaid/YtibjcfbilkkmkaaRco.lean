
/-
  Layer 19's reference: Compile, walked over the program.
-/
import Derived.Test.YtibjcfbilkkmkaaRpt
import Derived.Test.YtibjcfbilkkmkaaRmay
import Derived.Test.YtibjcfbilkkmkaaApp
import Derived.Test.YtibjcfbilkkmkaaChd
import Derived.Test.YtibjcfbilkkmkaaLow
import Derived.Deep.Cut
import Derived.Deep.CutRange
import Derived.Deep.DeepCutAuto
namespace Go.Proofs.Ytibjcfbilkkmkaa.Tms
open Go Go.RowKit Go.Proofs.Ytibjcfbilkkmkaa.Reg Go.Proofs.Ytibjcfbilkkmkaa.Rws Go.Proofs.Ytibjcfbilkkmkaa.Cod Go.Proofs.Ytibjcfbilkkmkaa.Maps
set_option linter.unusedVariables false
set_option linter.unusedSimpArgs false

theorem size_rcode : (Try.prog.info? 25).map (·.size) = some 5 := by kernel_rfl
def RcoPost (r : Cod × Int) (w : World) (e : Ending) (w' : World) : Prop := ∃ vs, e = .returned (.tuple #[codV r.1 vs, .int .i64 r.2]) ∧ InsSl w' vs r.1.l ∧ Below w.heap.size w w'
/-- the call's first variables -/
structure RcCtx (w : World) (h b : Tm) (a1 : Option Addr) (c1 : Nat) (a2 : Option Addr) (c2 : Nat) (wr : World) : Prop where
  hb : wr.heap[w.heap.size]? = some (rowT h a1 c1)
  bb : wr.heap[w.heap.size + 1]? = some (rowT b a2 c2)
  rs : wr.heap[w.heap.size + 2]? = some (.cells zero5 25 (0, 0))
  no : wr.heap[w.heap.size + 3]? = some (.cells zero5 25 (0, 0))
  bel : Below w.heap.size w wr
  big : w.heap.size + 4 ≤ wr.heap.size
theorem RcCtx.on {w : World} {h b : Tm} {a1 : Option Addr} {c1 : Nat} {a2 : Option Addr} {c2 : Nat} {wr w' : World} (hc : RcCtx w h b a1 c1 a2 c2 wr) (hb : Below wr.heap.size wr w') : RcCtx w h b a1 c1 a2 c2 w' := by
  have := hc.big
  exact ⟨(hb.block _ (by omega)).trans hc.hb, (hb.block _ (by omega)).trans hc.bb, (hb.block _ (by omega)).trans hc.rs, (hb.block _ (by omega)).trans hc.no, hc.bel.trans (hb.mono hc.bel.size), Nat.le_trans hc.big hb.size⟩
theorem RcCtx.start (w : World) (h b : Tm) (a1 : Option Addr) (c1 : Nat) (a2 : Option Addr) (c2 : Nat) : RcCtx w h b a1 c1 a2 c2 ((((w.alloc (rowT h a1 c1)).alloc (rowT b a2 c2)).alloc (.cells zero5 25 (0, 0))).alloc (.cells zero5 25 (0, 0))) := by
  obtain ⟨t0, t1, tsz, tbl⟩ := two w (rowT h a1 c1) (rowT b a2 c2)
  generalize (w.alloc (rowT h a1 c1)).alloc (rowT b a2 c2) = w2 at *
  obtain ⟨u0, u1, usz, ubl⟩ := two w2 (.cells zero5 25 (0, 0)) (.cells zero5 25 (0, 0))
  generalize (w2.alloc (.cells zero5 25 (0, 0))).alloc (.cells zero5 25 (0, 0)) = w4 at *
  rw [tsz] at u0 u1
  exact ⟨(ubl.block _ (by omega)).trans t0, (ubl.block _ (by omega)).trans t1, u0, u1, tbl.trans (ubl.mono tbl.size), by omega⟩
theorem rco_zero {w : World} {h b : Tm} {a1 : Option Addr} {c1 : Nat} {a2 : Option Addr} {c2 : Nat} {wr : World} (x : Int) (hc : RcCtx w h b a1 c1 a2 c2 wr) :
    RcoPost (zeroCod, x) w (.returned (.tuple #[.agg zero5, .int .i64 x])) (wr.setRow (w.heap.size + 2) zero5) :=
  ⟨_, rfl, InsSl.nil _ _ _, below_setRow hc.bel (by omega) _⟩
abbrev allRow (h b : Tm) (a1 : Option Addr) (d1 : Nat) (a2 : Option Addr) (d2 : Nat) : Obj := .cells #[.int .i64 h.k, .int .i64 h.n, .string h.s, .slice a1 h.args.length d1, .int .i64 b.k, .int .i64 b.n, .string b.s, .slice a2 b.args.length d2] 30 (0, 0)
abbrev allBox (g : Nat) : Obj := .cells #[.int .i64 4, .int .i64 0, .string (⟨#[58, 45]⟩ : ByteArray), .slice (some ⟨g, 0, none⟩) 2 2] 30 (0, 0)
abbrev rcRow (s : ByteArray) (n sl bo : Int) (v : Value) : Obj := .cells #[.string s, .int .i64 n, .int .i64 sl, .int .i64 bo, v] 25 (0, 0)
def allT (h b : Tm) : Tm := compT (⟨#[58, 45]⟩ : ByteArray) [h, b]
/-- the term of both, and the code's row -/
structure Tri (w w8 : World) (h b : Tm) : Prop where
  bel : Below w.heap.size w w8
  size : w8.heap.size = w.heap.size + 3
  row : w8.heap[w.heap.size + 1]? = some (rowT (allT h b) (some ⟨w.heap.size, 0, none⟩) 2)
  all : IsTm w8 (fun x => x < w.heap.size + 1) (aggT (allT h b) (some ⟨w.heap.size, 0, none⟩) 2) (allT h b)
  crow : w8.heap[w.heap.size + 1 + 1]? = some (rcRow h.s h.args.length 0 0 (.slice none 0 0))
theorem rc_three {w : World} {h b : Tm} {a1 : Option Addr} {d1 : Nat} {a2 : Option Addr} {d2 : Nat} {P1 P2 : Nat → Prop} (h1 : IsTm w P1 (aggT h a1 d1) h) (h2 : IsTm w P2 (aggT b a2 d2) b) :
    Tri w (((w.alloc (allRow h b a1 d1 a2 d2)).alloc (allBox w.heap.size)).alloc (rcRow h.s h.args.length 0 0 (.slice none 0 0))) h b := by
  have hs := row2 h1.any h2.any
  have hbr := below_new w (allRow h b a1 d1 a2 d2)
  have hzr : (w.alloc (allRow h b a1 d1 a2 d2)).heap.size = w.heap.size + 1 := by simp
  simp only [allRow] at hbr hzr ⊢
  generalize w.alloc (.cells #[.int .i64 h.k, .int .i64 h.n, .string h.s, .slice a1 h.args.length d1, .int .i64 b.k, .int .i64 b.n, .string b.s, .slice a2 b.args.length d2] 30 (0, 0)) = w1 at *
  obtain ⟨u0, u1, usz, ubl⟩ := two w1 (allBox w.heap.size) (rcRow h.s h.args.length 0 0 (.slice none 0 0))
  generalize (w1.alloc (allBox w.heap.size)).alloc (rcRow h.s h.args.length 0 0 (.slice none 0 0)) = w8 at *
  rw [hzr] at u0 u1
  have hall := IsTm.mk' (t := allT h b) (hs.low.below ubl)
  exact ⟨hbr.trans (ubl.mono hbr.size), by omega, u0, hall.imp (fun x hx => by have := hx.2; omega) fun _ _ _ => rfl, u1⟩
theorem Tri.drew {w w8 : World} {h b : Tm} (t : Tri w w8 h b) : Tri w w8.drew h b := by
  have hb : Below w8.heap.size w8 w8.drew := (Below.refl _ _).drew
  have hs := t.size
  have hz : w8.drew.heap.size = w8.heap.size := rfl
  exact ⟨t.bel.trans (hb.mono t.bel.size), hs, (hb.block _ (by omega)).trans t.row, t.all.below hb, (hb.block _ (by omega)).trans t.crow⟩
theorem tm_argsF {w : World} {P : Nat → Prop} {t : Tm} {a : Option Addr} {c : Nat} (h : IsTm w P (aggT t a c) t) : ArgsFrom w P a 0 t.args := by
  obtain ⟨q, c', e, h⟩ := h.cells
  simp only [List.cons.injEq, Value.slice.injEq, true_and, and_true] at e
  obtain ⟨rfl, rfl⟩ := e
  exact h
theorem own_empty (w : World) (base : Nat) (P : Nat → Prop) (h : base ≤ w.heap.size) : Own tmKind (w.alloc (.cells #[] 30 (0, 0))) base P (.slice (some ⟨w.heap.size, 0, none⟩) 0 0) [] :=
  ⟨[], World.ownsRow_lit w #[] 0 h (by decide) rfl, trivial⟩
theorem each_rin {w : World} {P : Nat → Prop} : ∀ {xss : List (List Value)} {L : List Ins}, Each rinKind w P xss L → ∀ j (h : j < L.length), ∀ k, k < 4 → xss.flatten[j * 4 + k]? = ([.int .i64 L[j].op, .int .i64 L[j].a, .int .i64 L[j].n, .string L[j].s] : List Value)[k]?
  | [], [], _, j, h, _, _ => by simp at h
  | cs :: xss, i :: L, h, j, hj, k, hk => by
    obtain rfl : cs = [.int .i64 i.op, .int .i64 i.a, .int .i64 i.n, .string i.s] := h.1
    cases j with
    | zero => simp only [List.flatten_cons, Nat.zero_mul, Nat.zero_add, List.getElem_cons_zero]; rw [List.getElem?_append_left (by simpa using hk)]
    | succ j =>
      have := each_rin h.2 j (by simpa using hj) k hk
      simp only [List.flatten_cons, List.getElem_cons_succ]
      rw [List.getElem?_append_right (by simp; omega), ← this]
      congr 1
      simp
      omega
  | [], _ :: _, h, _, _, _, _ => h.elim
  | _ :: _, [], h, _, _, _, _ => h.elim
theorem own_rin {w : World} {base : Nat} {P : Nat → Prop} {lv : Value} {L : List Ins} (h : Own rinKind w base P lv L) : InsSl w lv L := by
  rcases h.form with ⟨rfl, e⟩ | ⟨g, c, rfl⟩
  · subst e
    exact InsSl.nil _ _ _
  · obtain ⟨xss, h1, h2⟩ := h
    refine ⟨_, _, rfl, fun j hj => ⟨g, 0, rfl, ?_⟩⟩
    have he := each_rin h2 j hj
    have hc := fun k (hk : k < 4) => (h1.cellAt (j * 4 + k) (show j * 4 + k < L.length * 4 by omega)).trans (he k hk)
    exact ⟨by rw [Nat.zero_add]; exact hc 0 (by omega), by rw [Nat.zero_add]; exact hc 1 (by omega), by rw [Nat.zero_add]; exact hc 2 (by omega), by rw [Nat.zero_add]; exact hc 3 (by omega)⟩
theorem own_setc {α : Type} {K : Rws.Kind α} {w : World} {base : Nat} {v x : Value} {l : List α} {cb k : Nat} (h : Own K w base (fun _ => False) v l) (hc : cb < base) : Own K (w.setCell ⟨cb, k, none⟩ x) base (fun _ => False) v l :=
  h.keep (by simp [World.setCell]) fun b hlt hq => by
    rcases hq with hq | hq
    · exact hq.elim
    · exact Below.heap_setCell _ _ _ _ (by have := (h.low b hq).1; show ¬ b = cb; omega)
theorem keeps_setc (W : World) (b k : Nat) (v : Value) : Keeps W (W.setCell ⟨b, k, none⟩ v) (fun x => x = b) := ⟨rfl, rfl, rfl, by simp [World.setCell], fun _ _ hb => Below.heap_setCell _ _ _ _ hb⟩
/-- behind q of the terms -/
structure RcRow (W9 : World) (cb : Nat) (nm : ByteArray) (na : Nat) (one : Int → Bool) (LL : List Tm) (q : Nat) (vs : Value) (bo : Int) (vl : Value) (wr : World) : Prop where
  le : q ≤ LL.length
  row : wr.heap[cb]? = some (rcRow nm na 0 bo vl)
  bo : bo = if q = 0 then 0 else ((patL one [] (LL.take (q - 1))).1.length : Int)
  own : Own rinKind wr W9.heap.size (fun _ => False) vl (patL one [] (LL.take q)).1
  slots : Own intKind wr W9.heap.size (fun _ => False) vs (patL one [] (LL.take q)).2
  ne : ∀ k, vl.ownBlock = some k → vs.ownBlock ≠ some k
  keeps : Keeps W9 wr (fun b => b = cb)
def RcRel (W9 : World) (cb : Nat) (nm : ByteArray) (na : Nat) (one : Int → Bool) (LL : List Tm) (vs vi : Value) (wr : World) : Prop :=
  ∃ (q : Nat) (bo : Int) (vl : Value), vi = .int .i64 q ∧ RcRow W9 cb nm na one LL q vs bo vl wr
theorem all_one {h b : Tm} (h1 : mayT h = true) (h2 : mayT b = true) : oneA (allT h b) = oneB (occT h ++ occT b) := by
  funext n
  have hm : mayT (allT h b) = true := comp_may (by decide) (by simp) (by simp) (by simp [mayTL, h1, h2])
  unfold oneA oneB
  rw [times_occ n _ hm]
  have he : occT (allT h b) = occT h ++ occT b := by
    have hu : ∀ (k n : Int) (s : ByteArray) (a : List Tm), occT (.mk k n s a) = if k = 1 then n :: occL a else occL a := fun _ _ _ _ => by rw [occT]
    have hl : occL [h, b] = occT h ++ occT b := by simp [occL]
    show occT (.mk 4 0 _ [h, b]) = _
    rw [hu, if_neg (by decide), hl]
  rw [he]
  by_cases e : (occT h ++ occT b).count n = 1
  · rw [e]; rfl
  · rw [beq_false_of_ne e]
    exact beq_false_of_ne fun e' => e (by omega)
theorem all_size (h b : Tm) : (allT h b).size = h.size + b.size + 1 := by simp [allT, compT, Tm.size, sizeL]
/-- the terms that are looked at: the arguments, and the body -/
def RcL (w W8 : World) (LL : List Tm) (v61 v62 v63 : Value) (wx : World) : Prop :=
  ∃ q9 c9, v61 = .slice q9 LL.length c9 ∧ v62 = .int .i64 LL.length ∧ v63 = .int .i64 0 ∧ Own tmKind wx W8.heap.size (fun x => x < w.heap.size) (.slice q9 LL.length c9) LL ∧ Below W8.heap.size W8 wx
set_option maxRecDepth 100000 in
set_option maxHeartbeats 4000000 in
theorem ref_Compile (h b : Tm) (v1 v2 : Value) (P1 P2 : Nat → Prop) (w : World) (hM1 : h.size ≤ 1000000000) (hM2 : b.size ≤ 1000000000) (h1 : IsTm w P1 v1 h) (h2 : IsTm w P2 v2 b) :
    Calls Try.prog 12 #[v1, v2] w (RcoPost (compE h b) w) := by
  replace h1 := h1.lt
  replace h2 := h2.lt
  obtain ⟨a1, d1, rfl⟩ := h1.form
  obtain ⟨a2, d2, rfl⟩ := h2.form
  have hst := RcCtx.start w h b a1 d1 a2 d2
  obtain ⟨x0, x1, x2, x3⟩ := row4 hst.hb
  have H1 := Lib.hid h1
  have H2 := Lib.hid h2
  have HC := Lib.hid hst
  clear h1 h2 hst
  go_enter Try.func12, Try.ntmps12
  go_wp2_with fail
  refine (ref_check h _ _ _ hM1 (H1.out.below HC.out.bel)).mono ?_
  rintro e2 w2 ⟨rfl, hb2⟩
  replace HC := Lib.hid (HC.out.on hb2)
  clear hb2 x0 x1 x2 x3
  by_cases k1 : checkT h = 0
  case neg =>
    have b1 : (checkT h != 0) = true := by simpa using k1
    have hr : compE h b = (zeroCod, checkT h) := if_pos k1
    have HR := Lib.hid hr
    obtain ⟨z0, z1, z2, z3, z4⟩ := row5 HC.out.no
    clear hr k1
    go_wp2_with (with_reducible show wpList _ _ _ (⟨none, .store _ (.tmp 4) _, _, _, _, _⟩ :: _) _ _
                 refine wpList_store_row rfl 25 (.tmp 4) (.tmp 21) rfl (w.heap.size + 2) zero5 rfl rfl _ _ HC.out.rs size_rcode rfl (one5 _ _ _ _ _ _ _) ?_)
    have hz := setRow_heap w2 (w.heap.size + 2) _ zero5 _ _ HC.out.rs
    exact bodyPost_ret (v := .tuple #[.agg zero5, .int .i64 (checkT h)]) (Push.results_cell_tmp Try.results12 _ _ (w.heap.size + 2) _ _ _ _ _ rfl (by simp) hz Try.underlying25 rfl (by kernel_rfl)) rfl (by rw [HR.out]; exact rco_zero _ HC.out)
  rw [k1]
  obtain ⟨x0, x1, x2, x3⟩ := row4 HC.out.bb
  go_wp2_with fail
  refine (ref_check b _ _ _ hM2 (H2.out.below HC.out.bel)).mono ?_
  rintro e3 w3 ⟨rfl, hb3⟩
  replace HC := Lib.hid (HC.out.on hb3)
  clear hb3 x0 x1 x2 x3
  by_cases k2 : checkT b = 0
  case neg =>
    have b2 : (checkT b != 0) = true := by simpa using k2
    have hr : compE h b = (zeroCod, checkT b) := by unfold compE; rw [if_neg (by simpa using k1), if_pos k2]
    have HR := Lib.hid hr
    obtain ⟨z0, z1, z2, z3, z4⟩ := row5 HC.out.no
    clear hr k2 k1
    go_wp2_with (with_reducible show wpList _ _ _ (⟨none, .store _ (.tmp 4) _, _, _, _, _⟩ :: _) _ _
                 refine wpList_store_row rfl 25 (.tmp 4) (.tmp 27) rfl (w.heap.size + 2) zero5 rfl rfl _ _ HC.out.rs size_rcode rfl (one5 _ _ _ _ _ _ _) ?_)
    have hz := setRow_heap w3 (w.heap.size + 2) _ zero5 _ _ HC.out.rs
    exact bodyPost_ret (v := .tuple #[.agg zero5, .int .i64 (checkT b)]) (Push.results_cell_tmp Try.results12 _ _ (w.heap.size + 2) _ _ _ _ _ rfl (by simp) hz Try.underlying25 rfl (by kernel_rfl)) rfl (by rw [HR.out]; exact rco_zero _ HC.out)
  rw [k2]
  obtain ⟨x0, x1, x2, x3⟩ := row4 HC.out.hb
  have hre : compE h b = if h.k ≠ 3 ∧ h.k ≠ 4 then (zeroCod, 2) else if 20000 < h.size + b.size then (zeroCod, 3) else (compC h b, 0) := by unfold compE; rw [if_neg (by simpa using k1), if_neg (by simpa using k2)]
  have HRE := Lib.hid hre
  have MH := Lib.hid (check_may k1)
  have MB := Lib.hid (check_may k2)
  clear hre k1 k2
  by_cases k34 : h.k = 3 ∨ h.k = 4
  case neg =>
    have k3 : h.k ≠ 3 := fun e => k34 (.inl e)
    have k4 : h.k ≠ 4 := fun e => k34 (.inr e)
    have b3 : (h.k != 3) = true := by simpa using k3
    have b4 : (h.k != 4) = true := by simpa using k4
    have HR := Lib.hid (HRE.out.trans (if_pos ⟨k3, k4⟩))
    obtain ⟨z0, z1, z2, z3, z4⟩ := row5 HC.out.no
    clear k3 k4 k34
    go_wp2_with (with_reducible show wpList _ _ _ (⟨none, .store _ (.tmp 4) _, _, _, _, _⟩ :: _) _ _
                 refine wpList_store_row rfl 25 (.tmp 4) (.tmp 37) rfl (w.heap.size + 2) zero5 rfl rfl _ _ HC.out.rs size_rcode rfl (one5 _ _ _ _ _ _ _) ?_)
    have hz := setRow_heap w3 (w.heap.size + 2) _ zero5 _ _ HC.out.rs
    exact bodyPost_ret (v := .tuple #[.agg zero5, .int .i64 2]) (Push.results_cell_tmp Try.results12 _ _ (w.heap.size + 2) _ _ _ _ _ rfl (by simp) hz Try.underlying25 rfl (by kernel_rfl)) rfl (by rw [HR.out]; exact rco_zero _ HC.out)
  have HRE2 := Lib.hid (HRE.out.trans (if_neg fun e => k34.elim e.1 e.2))
  have b34 : (h.k != 3) = false ∨ (h.k != 3) = true ∧ (h.k != 4) = false := by
    by_cases e : h.k = 3
    · exact .inl (by simp [e])
    · exact .inr ⟨by simpa using e, by simp [k34.resolve_left e]⟩
  clear HRE
  clear k34
  go_upto_region 8 with fail
  go_cut [36] (fun v wx => v = .bool false ∧ w3 = wx)
  case first =>
    rcases b34 with b3 | ⟨b3, b4⟩
    · go_wp2
      go_meet
      exact ⟨rfl, rfl⟩
    · go_wp2
      go_meet
      exact ⟨rfl, rfl⟩
  case rest =>
    clear b34
    obtain ⟨rfl, rfl⟩ := hcut
    go_wp2
    refine wp_region_rest (by kernel_rfl) ?_
    replace HC := Lib.hid (HC.out.on (Below.refl _ _).drew)
    clear x0 x1 x2 x3
    generalize w3.drew = W0 at *
    obtain ⟨x0, x1, x2, x3⟩ := row4 HC.out.hb
    obtain ⟨y0, y1, y2, y3⟩ := row4 HC.out.bb
    refine rest_chain 0 6 [(false, [0, 2]), (true, [1]), (true, [3]), (false, [4, 5])] [(false, [_, _]), (true, [_]), (true, [_]), (false, [_, _])] rfl (by kernel_rfl) (by kernel_rfl) rfl (by kernel_rfl) (by kernel_rfl) (.inl rfl) ?_
    refine chain_soft ?_
    intro E hE
    go_wp2
    clear x0 x1 x2 x3 y0 y1 y2 y3
    refine chain_one ?_
    intro E hE
    go_wp2_with (refine (ref_size h.size h _ _ _ (Nat.le_refl _) hM1 (H1.out.below HC.out.bel)).mono ?_; rintro e4 w4 ⟨rfl, hb4⟩; replace HC := Lib.hid (HC.out.on hb4); have HB4 := Lib.hid hb4; clear hb4)
    refine ⟨HB4.out, ?_⟩
    refine chain_one ?_
    intro E hE
    go_wp2_with (refine (ref_size b.size b _ _ _ (Nat.le_refl _) hM2 (H2.out.below HC.out.bel)).mono ?_; rintro e5 w5 ⟨rfl, hb5⟩; replace HC := Lib.hid (HC.out.on hb5); have HB5 := Lib.hid hb5; clear hb5)
    refine ⟨HB5.out, ?_⟩
    refine chain_soft ?_
    intro E hE
    go_wp2
    refine chain_nil (rest_end (by decide) ?_)
    by_cases k5 : 20000 < h.size + b.size
    case pos =>
      have b5 : (20000 : Int) < (h.size : Int) + (b.size : Int) := by omega
      have HR := Lib.hid (HRE2.out.trans (if_pos k5))
      obtain ⟨z0, z1, z2, z3, z4⟩ := row5 HC.out.no
      clear k5
      go_wp2_with (with_reducible show wpList _ _ _ (⟨none, .store _ (.tmp 4) _, _, _, _, _⟩ :: _) _ _
                   refine wpList_store_row rfl 25 (.tmp 4) (.tmp 44) rfl (w.heap.size + 2) zero5 rfl rfl _ _ HC.out.rs size_rcode rfl (one5 _ _ _ _ _ _ _) ?_)
      have hz := setRow_heap w5 (w.heap.size + 2) _ zero5 _ _ HC.out.rs
      exact bodyPost_ret (v := .tuple #[.agg zero5, .int .i64 3]) (Push.results_cell_tmp Try.results12 _ _ (w.heap.size + 2) _ _ _ _ _ rfl (by simp) hz Try.underlying25 rfl (by kernel_rfl)) rfl (by rw [HR.out]; exact rco_zero _ HC.out)
    have b5 : (h.size : Int) + (b.size : Int) ≤ 20000 := by omega
    have HR := Lib.hid (HRE2.out.trans (if_neg k5))
    have HK5 : Hid (h.size + b.size ≤ 20000) := Lib.hid (by omega)
    clear k5 HRE2 HB4 HB5
    obtain ⟨x0, x1, x2, x3⟩ := row4 HC.out.hb
    obtain ⟨y0, y1, y2, y3⟩ := row4 HC.out.bb
    have h3 := rc_three (H1.out.below HC.out.bel) (H2.out.below HC.out.bel)
    obtain ⟨t0, t1, tsz, tbl⟩ := two w5 (allRow h b a1 d1 a2 d2) (allBox w5.heap.size)
    obtain ⟨z0, z1, z2, z3⟩ := row4 ((tbl.block _ (by have := HC.out.big; omega)).trans HC.out.hb)
    have HC8 := Lib.hid (HC.out.on h3.bel)
    have H3 := Lib.hid h3
    clear h3 t0 t1 tsz tbl
    go_upto_region 15 with fail
    clear x0 x1 x2 x3 y0 y1 y2 y3 z0 z1 z2 z3
    simp only [allRow, allBox, rcRow] at H3 HC8
    generalize (((w5.alloc (.cells #[.int .i64 h.k, .int .i64 h.n, .string h.s, .slice a1 h.args.length d1, .int .i64 b.k, .int .i64 b.n, .string b.s, .slice a2 b.args.length d2] 30 (0, 0))).alloc (.cells #[.int .i64 4, .int .i64 0, .string (⟨#[58, 45]⟩ : ByteArray), .slice (some ⟨w5.heap.size, 0, none⟩) 2 2] 30 (0, 0))).alloc (.cells #[.string h.s, .int .i64 h.args.length, .int .i64 0, .int .i64 0, .slice none 0 0] 25 (0, 0))) = W8 at *
    have hsz : h.size = sizeL h.args + 1 := by obtain ⟨k, n, s, a⟩ := h; simp [Tm.size, Tm.args]
    have HSZ := Lib.hid hsz
    have hlen : h.args.length ≤ 20000 := by have := len_le h.args; have := HK5.out; omega
    clear hsz
    generalize hll : h.args ++ [b] = LL
    have HLL := Lib.hid hll
    clear hll
    have hk5 := HK5.out
    go_cut [61, 62, 63] (fun v61 v62 v63 wx => RcL w W8 LL v61 v62 v63 wx)
    case first =>
      have hb8 := HC8.out.big
      refine wp_region_rest (by kernel_rfl) ?_
      have hdr : Below W8.heap.size W8 W8.drew := (Below.refl _ _).drew
      have hz0 : W8.heap.size ≤ W8.drew.heap.size := Nat.le_refl _
      have HC0 := Lib.hid (HC8.out.on hdr)
      have HDR := Lib.hid hdr
      clear hdr
      generalize W8.drew = W0 at *
      have lt0 : w.heap.size < W0.heap.size := by have := HC0.out.big; omega
      have lt1 : w.heap.size + 1 < W0.heap.size := by have := HC0.out.big; omega
      have HA1 := Lib.hid (tm_argsF (H1.out.below HC0.out.bel))
      have HA2 := Lib.hid (H2.out.below HC0.out.bel)
      have HU0 : Hid (Below W0.heap.size W0 W0) := Lib.hid (Below.refl _ _)
      refine rest_chainP (fun u => Below W0.heap.size W0 u) 0 9 (.soft 1 (.soft 2 (.soft 4 (.soft 8 (.two 0 5 (.two 3 5 (.one 5 (.one 6 (.soft 7 .nil))) (.one 3 (.one 6 (.soft 7 .nil)))) (.one 0 (.one 3 (.one 6 (.soft 7 .nil))))))))) (.soft _ (.soft _ (.soft _ (.soft _ (.two _ _ (.two _ _ (.one _ (.one _ (.soft _ .nil))) (.one _ (.one _ (.soft _ .nil)))) (.one _ (.one _ (.one _ (.soft _ .nil))))))))) ⟨rfl, ⟨rfl, ⟨rfl, ⟨rfl, ⟨rfl, rfl, ⟨rfl, rfl, ⟨rfl, ⟨rfl, ⟨rfl, trivial⟩⟩⟩, ⟨rfl, ⟨rfl, ⟨rfl, trivial⟩⟩⟩⟩, ⟨rfl, ⟨rfl, ⟨rfl, ⟨rfl, trivial⟩⟩⟩⟩⟩⟩⟩⟩⟩ (by kernel_rfl) (by kernel_rfl) (by kernel_rfl) (by kernel_rfl) (.inl rfl) (Below.refl _ _) ?_
      refine chainP_softv (.pointer (some ⟨w.heap.size, 3, none⟩)) (by kernel_rfl) (by kernel_rfl) ?_ ?_
      · simp only [Act.put, List.getElem?_toArray, List.getElem?_cons_succ, List.getElem?_cons_zero, Option.bind_some, List.setIfInBounds_toArray, List.set_cons_succ, List.set_cons_zero, Nat.reduceAdd]
        intro u hu E hE
        go_wp2
        exact hE
      simp only [Act.put, List.getElem?_toArray, List.getElem?_cons_succ, List.getElem?_cons_zero, Option.bind_some, List.setIfInBounds_toArray, List.set_cons_succ, List.set_cons_zero, Nat.reduceAdd]
      refine chainP_softv (.slice a1 h.args.length d1) (by kernel_rfl) (by kernel_rfl) ?_ ?_
      · simp only [Act.put, List.getElem?_toArray, List.getElem?_cons_succ, List.getElem?_cons_zero, Option.bind_some, List.setIfInBounds_toArray, List.set_cons_succ, List.set_cons_zero, Nat.reduceAdd]
        intro u hu E hE
        obtain ⟨x0, x1, x2, x3⟩ := row4 ((hu.block w.heap.size lt0).trans HC0.out.hb)
        go_wp2
        exact hE
      simp only [Act.put, List.getElem?_toArray, List.getElem?_cons_succ, List.getElem?_cons_zero, Option.bind_some, List.setIfInBounds_toArray, List.set_cons_succ, List.set_cons_zero, Nat.reduceAdd]
      refine chainP_softv (.agg #[.int .i64 b.k, .int .i64 b.n, .string b.s, .slice a2 b.args.length d2]) (by kernel_rfl) (by kernel_rfl) ?_ ?_
      · simp only [Act.put, List.getElem?_toArray, List.getElem?_cons_succ, List.getElem?_cons_zero, Option.bind_some, List.setIfInBounds_toArray, List.set_cons_succ, List.set_cons_zero, Nat.reduceAdd]
        intro u hu E hE
        obtain ⟨x0, x1, x2, x3⟩ := row4 ((hu.block (w.heap.size + 1) lt1).trans HC0.out.bb)
        go_wp2
        exact hE
      simp only [Act.put, List.getElem?_toArray, List.getElem?_cons_succ, List.getElem?_cons_zero, Option.bind_some, List.setIfInBounds_toArray, List.set_cons_succ, List.set_cons_zero, Nat.reduceAdd]
      refine chainP_softv (.int .i64 0) (by kernel_rfl) (by kernel_rfl) ?_ ?_
      · simp only [Act.put, List.getElem?_toArray, List.getElem?_cons_succ, List.getElem?_cons_zero, Option.bind_some, List.setIfInBounds_toArray, List.set_cons_succ, List.set_cons_zero, Nat.reduceAdd]
        intro u hu E hE
        go_wp2
        exact hE
      simp only [Act.put, List.getElem?_toArray, List.getElem?_cons_succ, List.getElem?_cons_zero, Option.bind_some, List.setIfInBounds_toArray, List.set_cons_succ, List.set_cons_zero, Nat.reduceAdd]
      -- PLAN
      refine chainP_two ?_ ?_
      · intro E hE
        go_wp2
        have hb1 := below_new W0 (.cells #[] 30 (0, 0))
        have hg1 := heap_alloc_new W0 (.cells #[] 30 (0, 0))
        have hz1 : (W0.alloc (.cells #[] 30 (0, 0))).heap.size = W0.heap.size + 1 := by simp
        have hw1 := own_empty W0 W0.heap.size (fun x => x < w.heap.size) HU0.out.size
        generalize W0.alloc (.cells #[] 30 (0, 0)) = v1_ at *
        have HU1 := Lib.hid (HU0.out.trans (hb1.mono HU0.out.size))
        have HZ1 := Lib.hid hz1
        have HO1 := Lib.hid hw1
        clear hb1 hg1 hz1 hw1
        refine ⟨HU1.out, ?_⟩
        refine chainP_two ?_ ?_
        · intro E hE
          go_wp2_with (with_reducible show wpList _ _ _ (⟨some 58, _, _, _, _, _⟩ :: _) _ _
                       refine wpList_putA rfl (.tmp 55) (.tmp 57) _ rfl Try.underlying28 info_tm rfl W0.heap.size (fun x => x < w.heap.size) (fun x => P1 x ∧ x < w.heap.size) _ [] h.args a1 d1 rfl HO1.out rfl (HA1.out.imp (fun _ h => h) fun x hx hlt => (HU1.out.block x (by have := hx.2; omega))) (fun x hx => ⟨hx.2, fun e => by have := (HO1.out.low x e).1; have := hx.2; omega⟩) (by unfold maxLen; simp; omega) (by simp; omega) HU1.out.size ?_
                       intro vv2 v2_ hown hb hgr hvv
                       have HU2 := Lib.hid (HU1.out.trans (⟨hb.os, hb.tape, hb.output, hgr.size, fun x hx => (hb.block x hx)⟩ : Below W0.heap.size v1_ v2_))
                       have HO2 := Lib.hid hown
                       clear hown hb hgr hvv)
          refine ⟨HU2.out, ?_⟩
          refine chainP_one ?_
          intro E hE
          go_wp2
          have hb3 := below_new v2_ (.cells #[.int .i64 b.k, .int .i64 b.n, .string b.s, .slice a2 b.args.length d2] 30 (0, 0))
          have hg3 := heap_alloc_new v2_ (.cells #[.int .i64 b.k, .int .i64 b.n, .string b.s, .slice a2 b.args.length d2] 30 (0, 0))
          have hz3 : (v2_.alloc (.cells #[.int .i64 b.k, .int .i64 b.n, .string b.s, .slice a2 b.args.length d2] 30 (0, 0))).heap.size = v2_.heap.size + 1 := by simp
          generalize v2_.alloc (.cells #[.int .i64 b.k, .int .i64 b.n, .string b.s, .slice a2 b.args.length d2] 30 (0, 0)) = v3_ at *
          have HU3 := Lib.hid (HU2.out.trans (hb3.mono HU2.out.size))
          have HZ3 := Lib.hid hz3
          have HR3 := Lib.hid hg3
          have HO3 := Lib.hid (HO2.out.below hb3)
          clear hb3 hg3 hz3
          refine ⟨HU3.out, ?_⟩
          refine chainP_one ?_
          intro E hE
          refine wpList_putN (K := tmKind) rfl (.tmp 58) (.tmp 60) _ rfl Try.underlying28 info_tm rfl W0.heap.size (fun x => x < w.heap.size) _ ([] ++ h.args) [[.int .i64 b.k, .int .i64 b.n, .string b.s, .slice a2 b.args.length d2]] [b] ⟨v2_.heap.size, 0, none⟩ 1 rfl HO3.out rfl (fun j v hv => by rw [Addr.add_lit, cell_of_row _ _ _ _ _ _ HR3.out, Nat.zero_add]; simpa using hv) (by simp) ⟨(HA2.out.imp (fun x h => ⟨h.2, fun e => by have := (HO3.out.low x e).1; have := h.2; omega⟩) fun x hx hlt => (HU3.out.block x (by have := hx.2; omega))).cells, trivial⟩ (by unfold maxLen; simp; omega) (by simp; omega) HU3.out.size ?_
          intro vv4 v4_ hown hb hgr hvv
          have HU4 := Lib.hid (HU3.out.trans (⟨hb.os, hb.tape, hb.output, hgr.size, fun x hx => (hb.block x hx)⟩ : Below W0.heap.size v3_ v4_))
          rw [List.nil_append, HLL.out] at hown
          obtain ⟨q9, c9, rfl⟩ := own_slice hown
          have HO := Lib.hid hown
          clear hown hb hgr hvv
          simp only [Act.put, List.getElem?_toArray, List.getElem?_cons_succ, List.getElem?_cons_zero, Option.bind_some, List.setIfInBounds_toArray, List.set_cons_succ, List.set_cons_zero, Nat.reduceAdd]
          go_wp2
          refine ⟨HU4.out, ?_⟩
          refine chainP_softv (.int .i64 LL.length) (by kernel_rfl) (by kernel_rfl) ?_ ?_
          · simp only [Act.put, List.getElem?_toArray, List.getElem?_cons_succ, List.getElem?_cons_zero, Option.bind_some, List.setIfInBounds_toArray, List.set_cons_succ, List.set_cons_zero, Nat.reduceAdd]
            intro u hu E hE
            go_wp2
            exact hE
          simp only [Act.put, List.getElem?_toArray, List.getElem?_cons_succ, List.getElem?_cons_zero, Option.bind_some, List.setIfInBounds_toArray, List.set_cons_succ, List.set_cons_zero, Nat.reduceAdd]
          refine chainP_nil (rest_end (by decide) ?_)
          generalize v4_ = W9 at *
          have HW9 := HU4
          go_wp2
          go_meet
          exact ⟨_, _, rfl, rfl, rfl, own_base HO.out hz0, HDR.out.trans (HW9.out.mono hz0)⟩
        · intro E hE
          go_wp2
          have hb5 := below_new v1_ (.cells #[.int .i64 b.k, .int .i64 b.n, .string b.s, .slice a2 b.args.length d2] 30 (0, 0))
          have hg5 := heap_alloc_new v1_ (.cells #[.int .i64 b.k, .int .i64 b.n, .string b.s, .slice a2 b.args.length d2] 30 (0, 0))
          have hz5 : (v1_.alloc (.cells #[.int .i64 b.k, .int .i64 b.n, .string b.s, .slice a2 b.args.length d2] 30 (0, 0))).heap.size = v1_.heap.size + 1 := by simp
          generalize v1_.alloc (.cells #[.int .i64 b.k, .int .i64 b.n, .string b.s, .slice a2 b.args.length d2] 30 (0, 0)) = v5_ at *
          have HU5 := Lib.hid (HU1.out.trans (hb5.mono HU1.out.size))
          have HZ5 := Lib.hid hz5
          have HR5 := Lib.hid hg5
          have HO5 := Lib.hid (HO1.out.below hb5)
          have HN5 : Hid (W0.heap.size ≠ v1_.heap.size) := Lib.hid (by have hlt : W0.heap.size < v1_.heap.size := (HO1.out.low _ rfl).2; omega)
          clear hb5 hg5 hz5
          refine ⟨HU5.out, ?_⟩
          refine chainP_one ?_
          intro E hE
          go_wp2_with (with_reducible show wpList _ _ _ (⟨some 58, _, _, _, _, _⟩ :: _) _ _
                       refine wpList_putA rfl (.tmp 55) (.tmp 57) _ rfl Try.underlying28 info_tm rfl W0.heap.size (fun x => x < w.heap.size) (fun x => P1 x ∧ x < w.heap.size) _ [] h.args a1 d1 rfl HO5.out rfl (HA1.out.imp (fun _ h => h) fun x hx hlt => (HU5.out.block x (by have := hx.2; omega))) (fun x hx => ⟨hx.2, fun e => by have := (HO5.out.low x e).1; have := hx.2; omega⟩) (by unfold maxLen; simp; omega) (by simp; omega) HU5.out.size ?_
                       intro vv6 v6_ hown hb hgr hvv
                       have HR6 := Lib.hid ((hgr.block v1_.heap.size (Array.getElem?_eq_some_iff.1 HR5.out).1 fun e => HN5.out (Option.some.inj e).symm).trans HR5.out)
                       have HU6 := Lib.hid (HU5.out.trans (⟨hb.os, hb.tape, hb.output, hgr.size, fun x hx => (hb.block x hx)⟩ : Below W0.heap.size v5_ v6_))
                       have HO6 := Lib.hid hown
                       clear hown hb hgr hvv)
          refine ⟨HU6.out, ?_⟩
          refine chainP_one ?_
          intro E hE
          refine wpList_putN (K := tmKind) rfl (.tmp 58) (.tmp 60) _ rfl Try.underlying28 info_tm rfl W0.heap.size (fun x => x < w.heap.size) _ ([] ++ h.args) [[.int .i64 b.k, .int .i64 b.n, .string b.s, .slice a2 b.args.length d2]] [b] ⟨v1_.heap.size, 0, none⟩ 1 rfl HO6.out rfl (fun j v hv => by rw [Addr.add_lit, cell_of_row _ _ _ _ _ _ HR6.out, Nat.zero_add]; simpa using hv) (by simp) ⟨(HA2.out.imp (fun x h => ⟨h.2, fun e => by have := (HO6.out.low x e).1; have := h.2; omega⟩) fun x hx hlt => (HU6.out.block x (by have := hx.2; omega))).cells, trivial⟩ (by unfold maxLen; simp; omega) (by simp; omega) HU6.out.size ?_
          intro vv7 v7_ hown hb hgr hvv
          have HU7 := Lib.hid (HU6.out.trans (⟨hb.os, hb.tape, hb.output, hgr.size, fun x hx => (hb.block x hx)⟩ : Below W0.heap.size v6_ v7_))
          rw [List.nil_append, HLL.out] at hown
          obtain ⟨q9, c9, rfl⟩ := own_slice hown
          have HO := Lib.hid hown
          clear hown hb hgr hvv
          simp only [Act.put, List.getElem?_toArray, List.getElem?_cons_succ, List.getElem?_cons_zero, Option.bind_some, List.setIfInBounds_toArray, List.set_cons_succ, List.set_cons_zero, Nat.reduceAdd]
          go_wp2
          refine ⟨HU7.out, ?_⟩
          refine chainP_softv (.int .i64 LL.length) (by kernel_rfl) (by kernel_rfl) ?_ ?_
          · simp only [Act.put, List.getElem?_toArray, List.getElem?_cons_succ, List.getElem?_cons_zero, Option.bind_some, List.setIfInBounds_toArray, List.set_cons_succ, List.set_cons_zero, Nat.reduceAdd]
            intro u hu E hE
            go_wp2
            exact hE
          simp only [Act.put, List.getElem?_toArray, List.getElem?_cons_succ, List.getElem?_cons_zero, Option.bind_some, List.setIfInBounds_toArray, List.set_cons_succ, List.set_cons_zero, Nat.reduceAdd]
          refine chainP_nil (rest_end (by decide) ?_)
          generalize v7_ = W9 at *
          have HW9 := HU7
          go_wp2
          go_meet
          exact ⟨_, _, rfl, rfl, rfl, own_base HO.out hz0, HDR.out.trans (HW9.out.mono hz0)⟩
      · intro E hE
        go_wp2
        have hb8 := below_new W0 (.cells #[.int .i64 b.k, .int .i64 b.n, .string b.s, .slice a2 b.args.length d2] 30 (0, 0))
        have hg8 := heap_alloc_new W0 (.cells #[.int .i64 b.k, .int .i64 b.n, .string b.s, .slice a2 b.args.length d2] 30 (0, 0))
        have hz8 : (W0.alloc (.cells #[.int .i64 b.k, .int .i64 b.n, .string b.s, .slice a2 b.args.length d2] 30 (0, 0))).heap.size = W0.heap.size + 1 := by simp
        generalize W0.alloc (.cells #[.int .i64 b.k, .int .i64 b.n, .string b.s, .slice a2 b.args.length d2] 30 (0, 0)) = v8_ at *
        have HU8 := Lib.hid (HU0.out.trans (hb8.mono HU0.out.size))
        have HZ8 := Lib.hid hz8
        have HR8 := Lib.hid hg8
        clear hb8 hg8 hz8
        refine ⟨HU8.out, ?_⟩
        refine chainP_one ?_
        intro E hE
        go_wp2
        have hb9 := below_new v8_ (.cells #[] 30 (0, 0))
        have hg9 := heap_alloc_new v8_ (.cells #[] 30 (0, 0))
        have hz9 : (v8_.alloc (.cells #[] 30 (0, 0))).heap.size = v8_.heap.size + 1 := by simp
        have hw9 := own_empty v8_ W0.heap.size (fun x => x < w.heap.size) HU8.out.size
        generalize v8_.alloc (.cells #[] 30 (0, 0)) = v9_ at *
        have HU9 := Lib.hid (HU8.out.trans (hb9.mono HU8.out.size))
        have HZ9 := Lib.hid hz9
        have HO9 := Lib.hid hw9
        have HR9 := Lib.hid ((hb9.block W0.heap.size (Array.getElem?_eq_some_iff.1 HR8.out).1).trans HR8.out)
        have HN9 : Hid (v8_.heap.size ≠ W0.heap.size) := Lib.hid (by have := (Array.getElem?_eq_some_iff.1 HR8.out).1; omega)
        clear hb9 hg9 hz9 hw9
        refine ⟨HU9.out, ?_⟩
        refine chainP_one ?_
        intro E hE
        go_wp2_with (with_reducible show wpList _ _ _ (⟨some 58, _, _, _, _, _⟩ :: _) _ _
                     refine wpList_putA rfl (.tmp 55) (.tmp 57) _ rfl Try.underlying28 info_tm rfl W0.heap.size (fun x => x < w.heap.size) (fun x => P1 x ∧ x < w.heap.size) _ [] h.args a1 d1 rfl HO9.out rfl (HA1.out.imp (fun _ h => h) fun x hx hlt => (HU9.out.block x (by have := hx.2; omega))) (fun x hx => ⟨hx.2, fun e => by have := (HO9.out.low x e).1; have := hx.2; omega⟩) (by unfold maxLen; simp; omega) (by simp; omega) HU9.out.size ?_
                     intro vv10 v10_ hown hb hgr hvv
                     have HR10 := Lib.hid ((hgr.block W0.heap.size (Array.getElem?_eq_some_iff.1 HR9.out).1 fun e => HN9.out (Option.some.inj e).symm).trans HR9.out)
                     have HU10 := Lib.hid (HU9.out.trans (⟨hb.os, hb.tape, hb.output, hgr.size, fun x hx => (hb.block x hx)⟩ : Below W0.heap.size v9_ v10_))
                     have HO10 := Lib.hid hown
                     clear hown hb hgr hvv)
        refine ⟨HU10.out, ?_⟩
        refine chainP_one ?_
        intro E hE
        refine wpList_putN (K := tmKind) rfl (.tmp 58) (.tmp 60) _ rfl Try.underlying28 info_tm rfl W0.heap.size (fun x => x < w.heap.size) _ ([] ++ h.args) [[.int .i64 b.k, .int .i64 b.n, .string b.s, .slice a2 b.args.length d2]] [b] ⟨W0.heap.size, 0, none⟩ 1 rfl HO10.out rfl (fun j v hv => by rw [Addr.add_lit, cell_of_row _ _ _ _ _ _ HR10.out, Nat.zero_add]; simpa using hv) (by simp) ⟨(HA2.out.imp (fun x h => ⟨h.2, fun e => by have := (HO10.out.low x e).1; have := h.2; omega⟩) fun x hx hlt => (HU10.out.block x (by have := hx.2; omega))).cells, trivial⟩ (by unfold maxLen; simp; omega) (by simp; omega) HU10.out.size ?_
        intro vv11 v11_ hown hb hgr hvv
        have HU11 := Lib.hid (HU10.out.trans (⟨hb.os, hb.tape, hb.output, hgr.size, fun x hx => (hb.block x hx)⟩ : Below W0.heap.size v10_ v11_))
        rw [List.nil_append, HLL.out] at hown
        obtain ⟨q9, c9, rfl⟩ := own_slice hown
        have HO := Lib.hid hown
        clear hown hb hgr hvv
        simp only [Act.put, List.getElem?_toArray, List.getElem?_cons_succ, List.getElem?_cons_zero, Option.bind_some, List.setIfInBounds_toArray, List.set_cons_succ, List.set_cons_zero, Nat.reduceAdd]
        go_wp2
        refine ⟨HU11.out, ?_⟩
        refine chainP_softv (.int .i64 LL.length) (by kernel_rfl) (by kernel_rfl) ?_ ?_
        · simp only [Act.put, List.getElem?_toArray, List.getElem?_cons_succ, List.getElem?_cons_zero, Option.bind_some, List.setIfInBounds_toArray, List.set_cons_succ, List.set_cons_zero, Nat.reduceAdd]
          intro u hu E hE
          go_wp2
          exact hE
        simp only [Act.put, List.getElem?_toArray, List.getElem?_cons_succ, List.getElem?_cons_zero, Option.bind_some, List.setIfInBounds_toArray, List.set_cons_succ, List.set_cons_zero, Nat.reduceAdd]
        refine chainP_nil (rest_end (by decide) ?_)
        generalize v11_ = W9 at *
        have HW9 := HU11
        go_wp2
        go_meet
        exact ⟨_, _, rfl, rfl, rfl, own_base HO.out hz0, HDR.out.trans (HW9.out.mono hz0)⟩
      -- END
    case rest =>
      obtain ⟨q9, c9, rfl, rfl, rfl, hown, hbw⟩ := hcut
      have hc9 := HC8.out.on hbw
      have hcb : w.heap.size + 4 ≤ w5.heap.size := HC.out.big
      have hs8 := H3.out.size
      have hrow9 := (hbw.block _ (by omega)).trans H3.out.crow
      have hbox9 := (hbw.block _ (by omega)).trans H3.out.row
      have hall9 := H3.out.all.below hbw
      have hLL := (own_reads hown).low
      have hz9 := hbw.size
      have hlen9 : LL.length = h.args.length + 1 := by rw [← HLL.out]; simp
      have hsL : sizeL LL + 1 = h.size + b.size := by
        rw [← HLL.out, sizeL_app]; have := HSZ.out; simp only [sizeL]; omega
      have hst : RcRel wc (w5.heap.size + 1 + 1) h.s h.args.length (oneA (allT h b)) LL (.slice none 0 0) (.int .i64 0) wc :=
        ⟨0, 0, .slice none 0 0, rfl, Nat.zero_le _, hrow9, rfl, Own.nil _ _ _, Own.nil _ _ _, fun k e => (by cases e), Keeps.refl _ _⟩
      have hA : (allT h b).size ≤ 1000000 := by rw [all_size]; omega
      have HC9 := Lib.hid hc9
      have HBOX := Lib.hid hbox9
      have HALL := Lib.hid hall9
      have HRD := Lib.hid hLL
      have HST := Lib.hid hst
      have HSL := Lib.hid hsL
      have HA := Lib.hid hA
      have HL9 := Lib.hid hlen9
      have hln : LL.length ≤ 20001 := by omega
      have HCB : Hid (w.heap.size + 4 ≤ w5.heap.size ∧ w5.heap.size + 3 ≤ wc.heap.size ∧ W8.heap.size ≤ wc.heap.size ∧ w5.heap.size + 3 ≤ W8.heap.size) := Lib.hid ⟨by omega, by omega, by omega, by omega⟩
      clear hc9 hrow9 hbox9 hall9 hLL hst hsL hA hlen9 hown hbw hk5 hcb hs8 hz9 hlen
      go_wp2
      go_loopw [11, 63] (fun vs vi wr => RcRel wc (w5.heap.size + 1 + 1) h.s h.args.length (oneA (allT h b)) LL vs vi wr) (fun _ vi _ => LL.length - (intOf vi).toNat)
      case atStart => exact HST.out
      case round =>
        obtain ⟨q, bo, vl, rfl, hr⟩ := hrel
        have HRW := Lib.hid hr
        have hq := hr.le
        obtain ⟨ql, cl, rfl⟩ := own_slice hr.own
        obtain ⟨q2, c2, rfl⟩ := own_slice hr.slots
        clear hr HST
        by_cases hql : q < LL.length
        · have hin : (q : Int) < (LL.length : Int) := by omega
          have hin0 : (0 : Int) ≤ (q : Int) := by omega
          obtain ⟨hc1, hc2, hc3, hc4⟩ := HCB.out
          have hrd := HRD.out.imp (w' := wr) (fun _ h => h) fun x hx hlt => HRW.out.keeps.block x hlt (fun e => by obtain ⟨h1 | h1, h2⟩ := hx <;> omega)
          obtain ⟨g1, o1, rfl, p1, m1⟩ := hrd.at q hql
          obtain ⟨cx, dx, x10, x11, x12, x13, i1, l1⟩ := m1.read
          have ia := HALL.out.imp (w' := wr) (fun _ h => h) fun x hx hlt => HRW.out.keeps.block x hlt (fun e => by omega)
          have hbx0 := (HRW.out.keeps.block (w5.heap.size + 1) (by omega) (fun e => by omega)).trans HBOX.out
          have hnx := patL_take (oneA (allT h b)) [] LL q hql
          have hsm := size_mem hql
          have hl0 := HSL.out
          have hl1 := patL_len (oneA (allT h b)) (LL.take q) []
          have hl2 := patSL_len (oneA (allT h b)) (LL.take q) []
          have hl3 := sizeL_take LL q
          have hl4 : sizeL (LL.take q) + LL[q].size ≤ sizeL LL := by
            have e : LL.take (q + 1) = LL.take q ++ [LL[q]] := List.take_succ_eq_append_getElem hql
            have e2 := sizeL_app (LL.take q) [LL[q]]
            rw [← e] at e2
            have := sizeL_take LL (q + 1)
            simp only [sizeL] at e2
            omega
          have hpp := pat_pos (oneA (allT h b)) LL[q] (patL (oneA (allT h b)) [] (LL.take q)).2
          have hpl := patT_len (oneA (allT h b)) LL[q] (patL (oneA (allT h b)) [] (LL.take q)).2
          have hx2 : LL[q].size + (patL (oneA (allT h b)) [] (LL.take q)).2.length ≤ 1000000 := by simp only [List.length_nil] at hl2; omega
          have hx3 : (patL (oneA (allT h b)) [] (LL.take q)).1.length + (patT (oneA (allT h b)) (patL (oneA (allT h b)) [] (LL.take q)).2 LL[q]).1.length ≤ 2000000 := by omega
          have hx4 : (patL (oneA (allT h b)) [] (LL.take q)).1.length ≤ 1000000 := by omega
          have hbx := below_new wr (rowT LL[q] cx dx)
          have hgx := heap_alloc_new wr (rowT LL[q] cx dx)
          have hzx : (wr.alloc (rowT LL[q] cx dx)).heap.size = wr.heap.size + 1 := by simp
          have hrx := (hbx.block _ (by have := HRW.out.keeps.size; omega)).trans HRW.out.row
          have hbx1 := (hbx.block _ (by have := HRW.out.keeps.size; omega)).trans hbx0
          have I1 := Lib.hid (i1.below hbx)
          have IA := Lib.hid (ia.below hbx)
          have HBX := Lib.hid hbx
          have HGX := Lib.hid hgx
          have HRX := Lib.hid hrx
          have HBX1 := Lib.hid hbx1
          have HNX := Lib.hid hnx
          have HZX := Lib.hid hzx
          have HX2 := Lib.hid hx2
          have HX3 := Lib.hid hx3
          have HPP := Lib.hid hpp
          have HOW := Lib.hid HRW.out.own
          have HSL2 := Lib.hid HRW.out.slots
          have hx5 : (patL (oneA (allT h b)) [] (LL.take q)).2.length ≤ 1000000 := by omega
          clear m1 i1 ia hnx hl0 hl1 hl2 hl3 hl4 hpl hbx hgx hzx hrx hbx1 hbx0 hx2 hx3 hpp hrd hsm
          generalize hR : patL (oneA (allT h b)) [] (LL.take q) = R at *
          obtain ⟨L1, S1⟩ := R
          have HR1 := Lib.hid hR
          clear hR
          simp only at x10 x11 x12 x13 hx4 hx5
          generalize LL[q] = x at *
          simp only [rowT] at HBX HZX I1 IA HGX HRX HBX1
          go_upto_region 18 with fail
          generalize wr.alloc (.cells #[.int .i64 x.k, .int .i64 x.n, .string x.s, .slice cx x.args.length dx] 30 (0, 0)) = wx at *
          clear x10 x11 x12 x13
          obtain ⟨z0, z1, z2, z3, z4⟩ := row5 HRX.out
          have f3 := frozen_of_row _ _ 3 _ _ HRX.out
          have hsz2 : (wx.setCell ⟨w5.heap.size + 1 + 1, 3, none⟩ (.int .i64 L1.length)).heap.size = wx.heap.size := by simp [World.setCell]
          have hne2 : ∀ b', b' ≠ w5.heap.size + 1 + 1 → (wx.setCell ⟨w5.heap.size + 1 + 1, 3, none⟩ (.int .i64 L1.length)).heap[b']? = wx.heap[b']? := fun b' hb => Below.heap_setCell _ _ _ _ hb
          have hrow2 : (wx.setCell ⟨w5.heap.size + 1 + 1, 3, none⟩ (.int .i64 L1.length)).heap[w5.heap.size + 1 + 1]? = some (rcRow h.s h.args.length 0 L1.length (.slice ql L1.length cl)) := by simpa using heap_setCell_same wx (w5.heap.size + 1 + 1) 3 _ _ (.int .i64 L1.length) HRX.out
          have hk2 : Keeps wx (wx.setCell ⟨w5.heap.size + 1 + 1, 3, none⟩ (.int .i64 L1.length)) (fun b => b = w5.heap.size + 1 + 1) := ⟨rfl, rfl, rfl, by simp [World.setCell], fun b' _ hb => hne2 b' hb⟩
          have hzr := HRW.out.keeps.size
          have hbx2 := (hne2 (w5.heap.size + 1) (by omega)).trans HBX1.out
          have hgx2 := (hne2 wr.heap.size (by omega)).trans HGX.out
          have i2 := I1.out.imp (w' := wx.setCell ⟨w5.heap.size + 1 + 1, 3, none⟩ (.int .i64 L1.length)) (fun _ h => h) fun b' hb _ => hne2 b' (by obtain ⟨h1 | h1, h2⟩ := hb <;> omega)
          have ia2 := IA.out.imp (w' := wx.setCell ⟨w5.heap.size + 1 + 1, 3, none⟩ (.int .i64 L1.length)) (fun _ h => h) fun b' hb _ => hne2 b' (by omega)
          have ho2 := own_setc (k := 3) (x := .int .i64 L1.length) (HOW.out.below HBX.out) (show w5.heap.size + 1 + 1 < wc.heap.size by omega)
          have hs2 := own_setc (k := 3) (x := .int .i64 L1.length) (HSL2.out.below HBX.out) (show w5.heap.size + 1 + 1 < wc.heap.size by omega)
          have I2 := Lib.hid i2
          have IA2 := Lib.hid ia2
          have HRow2 := Lib.hid hrow2
          have HO2 := Lib.hid ho2
          have HS2 := Lib.hid hs2
          have HK2 := Lib.hid ((HRW.out.keeps.trans (Keeps.of HBX.out) (M' := fun b => b = w5.heap.size + 1 + 1) fun b' e => .inl e).trans hk2 fun b' e => .inl e)
          have HBX2 := Lib.hid hbx2
          have HGX2 := Lib.hid hgx2
          have hzy : (wx.setCell ⟨w5.heap.size + 1 + 1, 3, none⟩ (.int .i64 L1.length)).heap.size = wr.heap.size + 1 := hsz2.trans HZX.out
          have HZY := Lib.hid hzy
          clear hsz2 hne2 hrow2 hk2 hbx2 hgx2 i2 ia2 ho2 hs2 hzy hzr
          go_upto_region 19 with fail
          generalize wx.setCell ⟨w5.heap.size + 1 + 1, 3, none⟩ (.int .i64 L1.length) = wy at *
          clear z0 z1 z2 z3 z4 f3 I1 IA HRX HBX1 HGX HBX HZX
          obtain ⟨x0, x1, x2, x3⟩ := row4 HGX2.out
          obtain ⟨y0, y1, y2, y3⟩ := row4 HBX2.out
          go_wp2_with fail
          refine (ref_pattern (allT h b) HA.out x.size x _ _ _ _ _ wc.heap.size S1 _ (Nat.le_refl _) HX2.out I2.out IA2.out (fun b' hb => hb.2) (fun b' hb => by omega) HK2.out.size HS2.out).mono ?_
          rintro e9 w9 ⟨vl, vs', rfl, ho9, hs9, hk9, hn9, hd9⟩
          clear x0 x1 x2 x3 y0 y1 y2 y3 hc1 hc2 hc3 hc4
          obtain ⟨qv, cv, rfl⟩ := own_slice ho9
          obtain ⟨qn, cn, rfl⟩ := own_slice hs9
          have hz9 := hk9.size
          have hzy := HZY.out
          have hzr := HRW.out.keeps.size
          have hlo9 := fun k e => HO2.out.low k e
          have how9 := HO2.out.keep hk9.size fun b' hb hq => hk9.block b' hb fun e => by
            rcases hq with hq | hq
            · exact hq
            · exact HRW.out.ne b' hq e
          have hrow9 := (hk9.block (w5.heap.size + 1 + 1) (by have := HCB.out; omega) (fun e => by have := (HS2.out.low _ e).1; have := HCB.out; omega)).trans HRow2.out
          obtain ⟨yss, ⟨r1, r2⟩, r3⟩ := ho9
          have hpos : 0 < (patT (oneA (allT h b)) S1 x).1.length := HPP.out
          obtain ⟨gb, cap, cur, e8, hgb, hgc⟩ : ∃ g cap cur, Value.slice qv (patT (oneA (allT h b)) S1 x).1.length cv = .slice (some ⟨g, 0, none⟩) (patT (oneA (allT h b)) S1 x).1.length cap ∧ wy.heap.size ≤ g ∧ w9.heap[g]? = some (.cells cur rinKind.T (0, 0)) ∧ (patT (oneA (allT h b)) S1 x).1.length ≤ cap ∧ cap ≤ maxLen ∧ cur.size = cap * rinKind.sz ∧ cur.toList.take ((patT (oneA (allT h b)) S1 x).1.length * rinKind.sz) = yss.flatten := by
            rcases r2 with ⟨-, hn⟩ | hh
            · omega
            · exact hh
          simp only [Value.slice.injEq, true_and] at e8
          obtain ⟨rfl, rfl⟩ := e8
          have hcell := World.ownsRow.cells (g := gb) (⟨r1, .inr ⟨gb, cv, cur, rfl, hgb, hgc⟩⟩ : w9.ownsRow wy.heap.size rinKind.T rinKind.sz (.slice (some ⟨gb, 0, none⟩) (patT (oneA (allT h b)) S1 x).1.length cv) (patT (oneA (allT h b)) S1 x).1.length yss.flatten) rfl
          have hy : Each rinKind w9 (fun b' => False ∧ (Value.slice ql L1.length cl).ownBlock ≠ some b') yss (patT (oneA (allT h b)) S1 x).1 := r3.mono (fun b' h => h.1.elim) fun _ _ _ => rfl
          have HOW9 := Lib.hid how9
          have HCELL := Lib.hid hcell
          have HY := Lib.hid hy
          have HS9 := Lib.hid hs9
          have HK9 := Lib.hid hk9
          have HN9 := Lib.hid hn9
          have HLO9 := Lib.hid hlo9
          have HRow9 := Lib.hid hrow9
          obtain ⟨z0, z1, z2, z3, z4⟩ := row5 hrow9
          clear hcell hy r1 r2 r3 hgc how9 hk9 hn9 hd9 hs9 hlo9 hrow9
          go_wp2_with (with_reducible show wpList _ _ _ (⟨some 81, _, _, _, _, _⟩ :: _) _ _
                       refine wpList_putN (K := rinKind) rfl (.tmp 79) (.tmp 80) _ rfl Try.underlying23 info_rin rfl wc.heap.size (fun _ => False) (.slice ql L1.length cl) L1 yss (patT (oneA (allT h b)) S1 x).1 ⟨gb, 0, none⟩ cv rfl HOW9.out rfl (fun j v hj => HCELL.out j v hj) hpos HY.out (by have := HX3.out; unfold maxLen; omega) (by have := HX3.out; omega) (by have := HCB.out; omega) ?_
                       intro v11 w11 hown hb11 hgr hv11
                       obtain ⟨q11, n11, c11, rfl⟩ : ∃ q n c, v11 = .slice q n c := by obtain ⟨q', c', e'⟩ := own_slice hown; exact ⟨q', _, c', e'⟩
                       have hcbl := HCB.out
                       have hr11 : w11.heap[w5.heap.size + 1 + 1]? = some (rcRow h.s h.args.length 0 L1.length (.slice ql L1.length cl)) := (hgr.block _ (by omega) (fun e => by have := (HLO9.out _ e.symm).1; omega)).trans HRow9.out
                       have hs11 := HS9.out.keep (w' := w11) hgr.size fun b' hb hq => hgr.block b' hb fun e => by
                         rcases hq with hq | hq
                         · exact hq
                         · rcases HN9.out b' hq with h1 | h1
                           · exact HRW.out.ne b' e.symm h1
                           · have := (HLO9.out b' e.symm).2; omega
                       have hrow11 : RcRow wc (w5.heap.size + 1 + 1) h.s h.args.length (oneA (allT h b)) LL (q + 1) (.slice qn (patT (oneA (allT h b)) S1 x).2.length cn) L1.length (.slice q11 n11 c11) (w11.setCell ⟨w5.heap.size + 1 + 1, 4, none⟩ (.slice q11 n11 c11)) := by
                         refine ⟨by omega, by simpa using heap_setCell_same w11 (w5.heap.size + 1 + 1) 4 _ _ (.slice q11 n11 c11) hr11, by rw [if_neg (by omega), Nat.add_sub_cancel, HR1.out], by rw [HNX.out]; exact own_setc hown (by omega), by rw [HNX.out]; exact own_setc hs11 (by omega), fun k e e' => ?_, ?_⟩
                         · rcases hv11 k e with h1 | h1
                           · rcases HN9.out k e' with h2 | h2
                             · exact HRW.out.ne k h1 h2
                             · have := (HLO9.out k h1).2; omega
                           · have := (HS9.out.low k e').2; omega
                         · refine ((HK2.out.trans HK9.out fun b' e => ?_).trans (Keeps.grown hgr (M := fun b' => (Value.slice ql L1.length cl).ownBlock = some b') fun b' e => .inl e) fun b' e => .inr (by have := (HLO9.out b' e).1; omega)).trans (keeps_setc w11 (w5.heap.size + 1 + 1) 4 (.slice q11 n11 c11)) fun b' e => .inl e
                           exact .inr (by have := (HS2.out.low b' e).1; omega)
                       have HRO := Lib.hid hrow11
                       obtain ⟨k0, k1, k2, k3, k4⟩ := row5 hr11
                       have f4 := frozen_of_row _ _ 4 _ _ hr11
                       clear hown hb11 hgr hv11 hr11 hs11 hrow11 hcbl)
          go_roundw
          case rel => exact ⟨q + 1, _, _, by go_num, HRO.out⟩
          case measure => simp [intOf]; omega
        · obtain rfl : q = LL.length := by omega
          have hin : decide ((LL.length : Int) < (LL.length : Int)) = false := by simp
          have hone := all_one MH.out MB.out
          have hcomp : compC h b = ⟨h.s, h.args.length, (patL (oneA (allT h b)) [] (LL.take LL.length)).2.length, bo, (patL (oneA (allT h b)) [] (LL.take LL.length)).1⟩ := by
            have hb := HRW.out.bo
            have e1 := HL9.out
            have e2 : LL.take (LL.length - 1) = h.args := by rw [e1, Nat.add_sub_cancel, ← HLL.out]; simp
            rw [if_neg (by omega), e2] at hb
            rw [hb, List.take_length, ← HLL.out, patL_snoc, hone]
            rfl
          obtain ⟨hc1, hc2, hc3, hc4⟩ := HCB.out
          have hkz := HRW.out.keeps.size
          have hrow := HRW.out.row
          have HOW := Lib.hid HRW.out.own
          have hres := (HRW.out.keeps.block (w.heap.size + 2) (by omega) (fun e => by omega)).trans HC9.out.rs
          have hbl : Below w.heap.size w wr := ⟨HRW.out.keeps.os.trans HC9.out.bel.os, HRW.out.keeps.tape.trans HC9.out.bel.tape, HRW.out.keeps.output.trans HC9.out.bel.output, Nat.le_trans HC9.out.bel.size hkz, fun k hk => (HRW.out.keeps.block k (by have := HC9.out.bel.size; omega) (fun e => by omega)).trans (HC9.out.bel.block k hk)⟩
          have HCO := Lib.hid hcomp
          have HBL := Lib.hid hbl
          have HRE := Lib.hid hres
          have HRO := Lib.hid hrow
          clear hcomp hone hres hbl hrow HRW
          generalize (patL (oneA (allT h b)) [] (LL.take LL.length)).2.length = m2 at *
          generalize (patL (oneA (allT h b)) [] (LL.take LL.length)).1 = I2 at *
          obtain ⟨z0, z1, z2, z3, z4⟩ := row5 HRO.out
          have f2 := frozen_of_row _ _ 2 _ _ HRO.out
          have hne2 : ∀ b', b' ≠ w5.heap.size + 1 + 1 → (wr.setCell ⟨w5.heap.size + 1 + 1, 2, none⟩ (.int .i64 m2)).heap[b']? = wr.heap[b']? := fun b' hb => Below.heap_setCell _ _ _ _ hb
          have hrow2 : (wr.setCell ⟨w5.heap.size + 1 + 1, 2, none⟩ (.int .i64 m2)).heap[w5.heap.size + 1 + 1]? = some (rcRow h.s h.args.length m2 bo (.slice ql I2.length cl)) := by simpa using heap_setCell_same wr (w5.heap.size + 1 + 1) 2 _ _ (.int .i64 m2) HRO.out
          have hres2 := (hne2 (w.heap.size + 2) (by omega)).trans HRE.out
          have hbl2 : Below w.heap.size w (wr.setCell ⟨w5.heap.size + 1 + 1, 2, none⟩ (.int .i64 m2)) := HBL.out.setCell (by show w.heap.size ≤ w5.heap.size + 1 + 1; omega) _
          have how2 := own_setc (k := 2) (x := .int .i64 m2) HOW.out (show w5.heap.size + 1 + 1 < wc.heap.size by omega)
          have HRow2 := Lib.hid hrow2
          have HRes2 := Lib.hid hres2
          have HBl2 := Lib.hid hbl2
          have HOW2 := Lib.hid how2
          clear hne2 hrow2 hres2 hbl2 how2
          go_upto_region 23 with fail
          generalize wr.setCell ⟨w5.heap.size + 1 + 1, 2, none⟩ (.int .i64 m2) = wy at *
          clear z0 z1 z2 z3 z4 f2
          obtain ⟨z0, z1, z2, z3, z4⟩ := row5 HRow2.out
          go_wp2_with (with_reducible show wpList _ _ _ (⟨none, .store _ (.tmp 4) _, _, _, _, _⟩ :: _) _ _
                       refine wpList_store_row rfl 25 (.tmp 4) (.tmp 88) rfl (w.heap.size + 2) #[.string h.s, .int .i64 h.args.length, .int .i64 m2, .int .i64 bo, .slice ql I2.length cl] rfl rfl _ _ HRes2.out size_rcode rfl (one5 _ _ _ _ _ _ _) ?_)
          have hz := setRow_heap wy (w.heap.size + 2) _ (#[.string h.s, .int .i64 h.args.length, .int .i64 m2, .int .i64 bo, .slice ql I2.length cl] : Array Value) _ _ HRes2.out
          have hfin : InsSl (wy.setRow (w.heap.size + 2) (#[.string h.s, .int .i64 h.args.length, .int .i64 m2, .int .i64 bo, .slice ql I2.length cl] : Array Value)) (.slice ql I2.length cl) I2 := own_rin (HOW2.out.keep (by simp) fun b' hlt hq => by
            rcases hq with hq | hq
            · exact hq.elim
            · exact setRow_other _ _ _ _ (by have := (HOW2.out.low b' hq).1; omega))
          have hpost : RcoPost (compC h b, 0) w (.returned (.tuple #[.agg #[.string h.s, .int .i64 h.args.length, .int .i64 m2, .int .i64 bo, .slice ql I2.length cl], .int .i64 0])) (wy.setRow (w.heap.size + 2) (#[.string h.s, .int .i64 h.args.length, .int .i64 m2, .int .i64 bo, .slice ql I2.length cl] : Array Value)) := by
            rw [HCO.out]
            exact ⟨_, rfl, hfin, below_setRow HBl2.out (by omega) _⟩
          exact bodyPost_ret (v := .tuple #[.agg #[.string h.s, .int .i64 h.args.length, .int .i64 m2, .int .i64 bo, .slice ql I2.length cl], .int .i64 0]) (Push.results_cell_tmp Try.results12 _ _ (w.heap.size + 2) _ _ _ _ _ rfl (by simp) hz Try.underlying25 rfl (by kernel_rfl)) rfl (by rw [HR.out]; exact hpost)
end Go.Proofs.Ytibjcfbilkkmkaa.Tms
