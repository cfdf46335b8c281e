
/-
  CompNames's inner function: a term whose variables have other numbers, walked over the program.
-/
import Derived.Test.YtmlceamcpelklaaPut
import Derived.Test.YtmlceamcpelklaaRrn
import Derived.Test.YtmlceamcpelklaaCodW
namespace Go.Proofs.Ytmlceamcpelklaa.Tms
open Go Go.RowKit Go.Proofs.Ytmlceamcpelklaa.Reg Go.Proofs.Ytmlceamcpelklaa.Rws Go.Proofs.Ytmlceamcpelklaa.Cod Go.Proofs.Ytmlceamcpelklaa.Maps
set_option linter.unusedVariables false

/-- a number turned into another one -/
def turnN (by_ : Int) (n : Int) : Int := n.tdiv 2 * 2 + 1 - n % 2 + 2 * by_
theorem turnN_one {y a b : Int} (ha : 0 ≤ a) (hb : 0 ≤ b) (h : turnN y a = turnN y b) : a = b := by
  unfold turnN at h
  rw [Int.tdiv_eq_ediv_of_nonneg ha, Int.tdiv_eq_ediv_of_nonneg hb] at h
  omega
theorem renL_len (φ : Int → Int) : ∀ l : List Tm, (renL φ l).length = l.length
  | [] => by simp [renL]
  | t :: l => by simp [renL, renL_len φ l]
theorem renL_take (φ : Int → Int) (ts : List Tm) (q : Nat) (h : q < ts.length) : renL φ (ts.take (q + 1)) = renL φ (ts.take q) ++ [renT φ ts[q]] := by
  rw [renL_map, renL_map, List.take_succ_eq_append_getElem h, List.map_append]
  rfl
def TnRel (w : World) (φ : Int → Int) (k n : Int) (s : ByteArray) (ts : List Tm) (vi : Value) (wr : World) : Prop :=
  ∃ (q : Nat) (v : Value), q ≤ ts.length ∧ vi = .int .i64 q ∧ RrCtx w k n s v wr ∧ OwnSl wr (w.heap.size + 3) (fun b => w.heap.size + 3 ≤ b) v (renL φ (ts.take q))
theorem tn_start (w : World) (φ : Int → Int) (k n : Int) (s : ByteArray) (ts : List Tm) (o : Obj) :
    TnRel w φ k n s ts (.int .i64 ((0 : Nat) : Int)) (((w.alloc o).alloc (.cells #[.int .i64 0, .int .i64 0, .string ⟨#[]⟩, .slice none 0 0] 27 (0, 0))).alloc (.cells #[.int .i64 k, .int .i64 n, .string s, .slice none 0 0] 27 (0, 0))) := by
  obtain ⟨t0, t1, tsz, tbl⟩ := two w o (.cells #[.int .i64 0, .int .i64 0, .string ⟨#[]⟩, .slice none 0 0] 27 (0, 0))
  generalize (w.alloc o).alloc (.cells #[.int .i64 0, .int .i64 0, .string ⟨#[]⟩, .slice none 0 0] 27 (0, 0)) = w2 at *
  have hb : Below w2.heap.size w2 (w2.alloc (.cells #[.int .i64 k, .int .i64 n, .string s, .slice none 0 0] 27 (0, 0))) := (Below.refl _ _).alloc (Nat.le_refl _) _
  have hbel := tbl.trans (hb.mono (by omega))
  refine ⟨0, .slice none 0 0, by omega, rfl, ⟨(hb.block _ (by omega)).trans t1, ?_, hbel, by simp; omega⟩, OwnSl.nil _ _ _⟩
  rw [show w.heap.size + 2 = w2.heap.size by omega]
  exact heap_alloc_new _ _
theorem tn_end {w wr : World} {φ : Int → Int} {t : Tm} {k n : Int} {s : ByteArray} {ts : List Tm} {a : Option Addr} {c m : Nat} (ht : renT φ t = .mk k n s (renL φ ts)) (hc : RrCtx w k n s (.slice a m c) wr) (ho : OwnSl wr (w.heap.size + 3) (fun b => w.heap.size + 3 ≤ b) (.slice a m c) (renL φ ts)) (hm : m = (renL φ ts).length) {cs : Array Value} :
    IsTm (wr.setRow (w.heap.size + 1) cs) (fun b => w.heap.size ≤ b) (.agg #[.int .i64 k, .int .i64 n, .string s, .slice a m c]) (renT φ t) ∧ Below w.heap.size w (wr.setRow (w.heap.size + 1) cs) := by
  subst hm
  rw [ht]
  refine ⟨IsTm.mk' (t := .mk k n s (renL φ ts)) ?_, hc.bel.trans ⟨rfl, rfl, rfl, by simp, fun k hk => setRow_other _ _ _ _ (by omega)⟩⟩
  exact ho.reads.imp (fun b h => by rcases h with h | h <;> omega) fun b h _ => setRow_other _ _ _ _ (by rcases h with h | h <;> omega)

set_option maxRecDepth 100000 in
set_option maxHeartbeats 4000000 in
theorem go_rename (fb bb : Nat) (y : Int) (hy : 0 ≤ y ∧ y ≤ 65535) (N : Nat) : ∀ (t : Tm) (v : Value) (P : Nat → Prop) (w : World), t.size ≤ N → t.size ≤ 1000000000 → mayT t = true → (∀ n ∈ occT t, n < 1099511627776) → IsTm w P v t →
    w.heap[fb]? = some (.cells #[.func (.func 30) #[] #[.pointer (some ⟨bb, 0, none⟩), .pointer (some ⟨fb, 0, none⟩)]] 46 (0, 0)) → w.heap[bb]? = some (.cells #[.int .u16 y] 45 (0, 0)) →
    Calls Try.prog 30 #[v, .pointer (some ⟨bb, 0, none⟩), .pointer (some ⟨fb, 0, none⟩)] w (RrPost (renT (turnN y) t) w) := by
  induction N with
  | zero => intro t v P w hN; have := size_pos t; omega
  | succ N ih =>
    intro t v P w hN hM hmy hocc h1 hf hb
    have IH := Lib.hid ih
    clear ih
    have hbl := (Array.getElem?_eq_some_iff.1 hb).1
    have hfl := (Array.getElem?_eq_some_iff.1 hf).1
    have HF := Lib.hid hf
    have HBY := Lib.hid hb
    obtain ⟨a, cap, rfl⟩ := h1.form
    have HMY := Lib.hid hmy
    have HOC := Lib.hid hocc
    have s1 := h1.args
    obtain ⟨t0, t1, tsz, tbl⟩ := two w (.cells #[.int .i64 t.k, .int .i64 t.n, .string t.s, .slice a t.args.length cap] 27 (0, 0)) (.cells #[.int .i64 0, .int .i64 0, .string ⟨#[]⟩, .slice none 0 0] 27 (0, 0))
    obtain ⟨x0, x1, x2, x3⟩ := row4 t0
    have hb3 : Below w.heap.size w (((w.alloc (.cells #[.int .i64 t.k, .int .i64 t.n, .string t.s, .slice a t.args.length cap] 27 (0, 0))).alloc (.cells #[.int .i64 0, .int .i64 0, .string ⟨#[]⟩, .slice none 0 0] 27 (0, 0))).alloc (.cells #[.int .i64 t.k, .int .i64 t.n, .string t.s, .slice none 0 0] 27 (0, 0))) := tbl.alloc tbl.size _
    by_cases k1 : t.k = 1
    · have b1 : (t.k == 1) = true := by simp [k1]
      have ha := may_var hmy k1
      have hn0 : 0 ≤ t.n := by
        obtain ⟨k, n, s, a⟩ := t
        simp only [Tm.k] at k1
        subst k1
        simp only [mayT, Bool.and_eq_true, mayB] at hmy
        simp at hmy
        exact hmy.1.1
      have hn1 : t.n < 1099511627776 := hocc t.n (by rw [occT_var hmy k1]; simp)
      have hl0 : t.args.length = 0 := by rw [ha]; rfl
      have hr : renT (turnN y) t = .mk 1 (turnN y t.n) t.s [] := by obtain ⟨k, n, s, a⟩ := t; simp only [Tm.k, Tm.args] at k1 ha; simp [renT, k1, ha, Tm.n, Tm.s, renL]
      have HR := Lib.hid hr
      have HL0 := Lib.hid hl0
      have HK1 := Lib.hid k1
      have hq0 : 0 ≤ t.n.tdiv 2 := Int.tdiv_nonneg hn0 (by decide)
      have hq1 : t.n.tdiv 2 < 1099511627776 := by rw [Int.tdiv_eq_ediv_of_nonneg hn0]; omega
      have hq2 : 0 ≤ t.n % 2 := by omega
      have hq3 : t.n % 2 < 2 := by omega
      rw [hl0] at x3
      have f0 := fun o => cell_of_row _ bb 0 _ _ _ (((tbl.alloc tbl.size o).block bb hbl).trans hb)
      simp only [List.getElem?_toArray, List.getElem?_cons_zero] at f0
      clear hr hN hM hmy hocc h1 hf hb s1 t0 t1 tsz tbl HOC IH k1 ha hl0
      go_enter Try.func30, Try.ntmps30
      go_wp2
      obtain ⟨-, r1, r2, rsz, rbl⟩ := Cod.three w (.cells #[.int .i64 t.k, .int .i64 t.n, .string t.s, .slice a t.args.length cap] 27 (0, 0)) (.cells #[.int .i64 0, .int .i64 0, .string ⟨#[]⟩, .slice none 0 0] 27 (0, 0)) (.cells #[.int .i64 t.k, .int .i64 (t.n.tdiv 2 * 2 + 1 - t.n % 2 + 2 * y), .string t.s, .slice none 0 0] 27 (0, 0))
      generalize ((w.alloc (.cells #[.int .i64 t.k, .int .i64 t.n, .string t.s, .slice a t.args.length cap] 27 (0, 0))).alloc (.cells #[.int .i64 0, .int .i64 0, .string ⟨#[]⟩, .slice none 0 0] 27 (0, 0))).alloc (.cells #[.int .i64 t.k, .int .i64 (t.n.tdiv 2 * 2 + 1 - t.n % 2 + 2 * y), .string t.s, .slice none 0 0] 27 (0, 0)) = wr at *
      have hcx : RrCtx w t.k (turnN y t.n) t.s (.slice none 0 0) wr := ⟨r1, r2, rbl, by omega⟩
      have hin : ¬ 0 < t.args.length := by rw [HL0.out]; decide
      obtain ⟨z0, z1, z2, z3⟩ := row4 r2
      have CX := Lib.hid hcx
      clear x0 x1 x2 x3 f0 r1 r2 rsz rbl hb3 hcx
      refine wp_loop_rounds 1 ?_
      rw [rounds_succ]
      go_wp2_with (with_reducible show wpList _ _ _ (⟨none, .store _ (.tmp 4) _, _, _, _, _⟩ :: _) _ _
                   refine wpList_store_row rfl 27 (.tmp 4) (.tmp 54) rfl (w.heap.size + 1) #[.int .i64 t.k, .int .i64 (turnN y t.n), .string t.s, .slice none 0 0] rfl rfl _ _ CX.out.res size_term rfl (one4 _ _ _ _ _ _) ?_)
      have hz := setRow_heap wr (w.heap.size + 1) _ (#[.int .i64 t.k, .int .i64 (turnN y t.n), .string t.s, .slice none 0 0] : Array Value) _ _ CX.out.res
      obtain ⟨q1, q2⟩ := tn_end (t := t) (ts := []) (k := t.k) (by rw [HR.out, HK1.out]; simp [renL]) CX.out (OwnSl.nil _ _ _) rfl (cs := #[.int .i64 t.k, .int .i64 (turnN y t.n), .string t.s, .slice none 0 0])
      exact bodyPost_ret (v := .agg #[.int .i64 t.k, .int .i64 (turnN y t.n), .string t.s, .slice none 0 0]) (results_cell_row Try.results30 _ _ (w.heap.size + 1) _ _ _ _ rfl hz Try.underlying27 rfl (by kernel_rfl)) rfl ⟨_, rfl, q1, q2⟩
    · have b1 : (t.k == 1) = false := by simp [k1]
      have hr : renT (turnN y) t = .mk t.k t.n t.s (renL (turnN y) t.args) := by obtain ⟨k, n, s, a⟩ := t; simp only [Tm.k] at k1; simp [renT, k1, Tm.k, Tm.n, Tm.s, Tm.args]
      have HR := Lib.hid hr
      have HST := Lib.hid (tn_start w (turnN y) t.k t.n t.s t.args (.cells #[.int .i64 t.k, .int .i64 t.n, .string t.s, .slice a t.args.length cap] 27 (0, 0)))
      have S1 := Lib.hid s1
      have HN : Hid (sizeL t.args ≤ N) := Lib.hid (by obtain ⟨k, n, s, a⟩ := t; simp only [Tm.size, Tm.args] at *; omega)
      have HM : Hid (sizeL t.args ≤ 1000000000) := Lib.hid (by obtain ⟨k, n, s, a⟩ := t; simp only [Tm.size, Tm.args] at *; omega)
      have hlen : t.args.length ≤ 1000000000 := by have := len_le t.args; have := HM.out; omega
      have HO2 : Hid (∀ n ∈ occL t.args, n < 1099511627776) := Lib.hid (by rw [occT_not k1] at hocc; exact hocc)
      clear hr k1 hN hM hmy hocc h1 hf hb s1 t0 t1 tsz tbl HOC
      go_enter Try.func30, Try.ntmps30
      go_wp2
      go_loopw [41] (fun vi wr => TnRel w (turnN y) t.k t.n t.s t.args vi wr) (fun vi _ => t.args.length - (intOf vi).toNat)
      case atStart => exact HST.out
      case round =>
        obtain ⟨q, v, hq, rfl, cx, ho⟩ := hrel
        have hv := ho.form
        rw [renL_len, List.length_take, Nat.min_eq_left hq] at hv
        obtain ⟨av, cv, rfl⟩ := hv
        obtain ⟨t0, t1, t2, t3⟩ := row4 cx.box
        have hbig := cx.big
        have CX := Lib.hid cx
        have OWN := Lib.hid ho
        clear HST cx ho x0 x1 x2 x3 hb3
        by_cases hql : q < t.args.length
        · obtain ⟨g1, o1, rfl, p1, m1⟩ := (S1.out.below CX.out.bel).at q hql
          obtain ⟨c1, d1, x10, x11, x12, x13, i1, l1⟩ := m1.read
          have h1s := size_mem hql
          have HX := Lib.hid (show t.args[q].size ≤ N by have := HN.out; omega)
          have HX2 := Lib.hid (show t.args[q].size ≤ 1000000000 by have := HM.out; omega)
          have HXM := Lib.hid (may_arg HMY.out (List.getElem_mem hql))
          have HXO : Hid (∀ n ∈ occT t.args[q], n < 1099511627776) := Lib.hid fun n hn => HO2.out n (by
            have e := occL_take t.args q hql
            have e2 : occL t.args = occL (t.args.take (q + 1)) ++ occL (t.args.drop (q + 1)) := by rw [← occL_app, List.take_append_drop]
            rw [e2, e]
            simp [hn])
          have hnx := renL_take (turnN y) t.args q hql
          have hln : (renL (turnN y) (t.args.take q)).length = q := by rw [renL_len, List.length_take, Nat.min_eq_left hq]
          have HNX := Lib.hid hnx
          have HLN := Lib.hid hln
          have I1 := Lib.hid i1
          clear m1 i1 hnx h1s hln
          generalize t.args[q] = x at *
          generalize renL (turnN y) (t.args.take q) = R at *
          have hin : (q : Int) < (t.args.length : Int) := by omega
          have hin0 : (0 : Int) ≤ (q : Int) := by omega
          go_wp2
          refine wp_region_rest (by kernel_rfl) ?_
          have hbx : Below wr.heap.size wr (wr.alloc (.cells #[.int .i64 x.k, .int .i64 x.n, .string x.s, .slice c1 x.args.length d1] 27)) := (Below.refl _ _).alloc (Nat.le_refl _) _
          have hnew := heap_alloc_new wr (.cells #[.int .i64 x.k, .int .i64 x.n, .string x.s, .slice c1 x.args.length d1] 27 (0, 0))
          have hsz : (wr.alloc (.cells #[.int .i64 x.k, .int .i64 x.n, .string x.s, .slice c1 x.args.length d1] 27)).heap.size = wr.heap.size + 1 := by simp
          have hd := hbx.drew
          obtain ⟨z0, z1, z2, z3⟩ := row4 (show (wr.alloc (.cells #[.int .i64 x.k, .int .i64 x.n, .string x.s, .slice c1 x.args.length d1] 27)).drew.heap[wr.heap.size]? = _ from hnew)
          have hsz' : (wr.alloc (.cells #[.int .i64 x.k, .int .i64 x.n, .string x.s, .slice c1 x.args.length d1] 27)).drew.heap.size = wr.heap.size + 1 := hsz
          have cx1 := CX.out.on (hd.mono hbig)
          have t3 := (row4 cx1.box).2.2.2
          have hf1 := (cx1.bel.block fb hfl).trans HF.out
          have hb1 := (cx1.bel.block bb hbl).trans HBY.out
          have f0 := cell_of_row _ fb 0 _ _ _ hf1
          have HF1 := Lib.hid hf1
          have HBY1 := Lib.hid hb1
          have CX1 := Lib.hid cx1
          have OWN1 := Lib.hid (OWN.out.below hd)
          have I2 := Lib.hid (I1.out.below hd)
          have HSZ := Lib.hid hsz'
          clear hbx hnew hsz hd hsz' cx1 x10 x11 x12 x13 l1 t0 t1 t2 CX OWN I1 hf1 hb1
          generalize (wr.alloc (.cells #[.int .i64 x.k, .int .i64 x.n, .string x.s, .slice c1 x.args.length d1] 27)).drew = W0 at *
          refine rest_chain 0 6 [(false, [0, 1, 2, 3]), (true, [4]), (true, [5])] [(false, [_, _, _, _]), (true, [_]), (true, [_])] rfl (by kernel_rfl) (by kernel_rfl) rfl (by kernel_rfl) (by kernel_rfl) (.inr (by kernel_rfl)) ?_
          refine chain_soft ?_
          intro E hE
          go_wp2
          clear z0 z1 z2 z3 t3 f0
          refine chain_one ?_
          intro E hE
          go_wp2_with (go_at_call 30
                       refine (IH.out x _ _ _ HX.out HX2.out HXM.out HXO.out I2.out HF1.out HBY1.out).mono ?_
                       rintro e2 w2 ⟨v2, rfl, hi2, hb2⟩
                       obtain ⟨a2, c2, rfl⟩ := hi2.form
                       have HI2 := Lib.hid hi2
                       have HB2 := Lib.hid hb2
                       clear hi2 hb2)
          refine ⟨HB2.out, ?_⟩
          refine chain_one ?_
          intro E hE
          go_wp2
          refine ⟨(Below.refl _ _).alloc (Nat.le_refl _) _, ?_⟩
          refine chain_nil ?_
          have hs2 := HB2.out.size
          have hs0 := CX1.out.big
          have cx2 := CX1.out.on (HB2.out.mono hs0)
          have own3 := OWN1.out.below HB2.out
          have hit := HI2.out.imp (P' := fun b => w.heap.size + 3 ≤ b ∧ Value.ownBlock (.slice av q cv) ≠ some b) (fun b h => ⟨Nat.le_trans hs0 h, fun e => by have := (OWN1.out.low b e).2; omega⟩) fun _ _ _ => rfl
          have CX3 := Lib.hid cx2
          have OWN3 := Lib.hid own3
          have HIT := Lib.hid hit
          have hq9 : q ≤ 1000000000 := by omega
          have hb3 : w.heap.size + 3 ≤ w2.heap.size := by omega
          clear cx2 own3 hit
          refine rest_lineL 6 9 [_, _, _] rfl (by kernel_rfl) (by decide) (by decide) (by kernel_rfl) ?_
          go_wp2_with (with_reducible show wpList _ _ _ (⟨some 51, _, _, _, _, _⟩ :: _) _ _
                       refine wpList_push_term rfl (.tmp 46) (.tmp 50) rfl (w.heap.size + 3) _ _ _ _ _ _ _ _ _ rfl OWN3.out rfl rfl HIT.out (by rw [HLN.out]; exact hq9) hb3 ?_
                       intro v3 w3 hown hb3 _ _
                       obtain ⟨a3, c3, rfl⟩ := hown.form
                       have e1 : (R ++ [renT (turnN y) x]).length = q + 1 := by rw [List.length_append, HLN.out]; rfl
                       rw [e1] at hown
                       rw [e1]
                       clear e1
                       have cx3 := CX3.out.on hb3
                       have t33 : w3.cell? ⟨w.heap.size + 1 + 1, 3, none⟩ = some (.slice av q cv) := (row4 cx3.box).2.2.2
                       have hf3 : w3.frozen? ⟨w.heap.size + 1 + 1, 3, none⟩ = false := frozen_of_row _ _ 3 _ _ cx3.box
                       have e2 : w.heap.size + 1 + 1 = w.heap.size + 2 := rfl
                       have CX4 : Hid (RrCtx w t.k t.n t.s (.slice a3 (q + 1) c3) (w3.setCell ⟨w.heap.size + 1 + 1, 3, none⟩ (.slice a3 (q + 1) c3))) := Lib.hid (by rw [e2]; exact cx3.store)
                       have OWN4 : Hid (OwnSl (w3.setCell ⟨w.heap.size + 1 + 1, 3, none⟩ (.slice a3 (q + 1) c3)) (w.heap.size + 3) (fun b => w.heap.size + 3 ≤ b) (.slice a3 (q + 1) c3) (R ++ [renT (turnN y) x])) := Lib.hid (by rw [e2]; exact hown.setLow (by omega) _)
                       clear e2 cx3 hown hb3)
          refine then_rest (rest_end (by decide) ?_)
          go_wp2
          go_roundw
          case rel => exact ⟨q + 1, _, by omega, by go_num, CX4.out, by rw [HNX.out]; exact OWN4.out⟩
          case measure => simp [intOf]; omega
        · obtain rfl : q = t.args.length := by omega
          have hin : decide ((t.args.length : Int) < (t.args.length : Int)) = false := by simp
          have ho := OWN.out
          rw [List.take_length] at ho
          have HO := Lib.hid ho
          clear ho
          go_wp2_with (with_reducible show wpList _ _ _ (⟨none, .store _ (.tmp 4) _, _, _, _, _⟩ :: _) _ _
                       refine wpList_store_row rfl 27 (.tmp 4) (.tmp 54) rfl (w.heap.size + 1) #[.int .i64 t.k, .int .i64 t.n, .string t.s, .slice av t.args.length cv] rfl rfl _ _ CX.out.res size_term rfl (one4 _ _ _ _ _ _) ?_)
          have hz := setRow_heap wr (w.heap.size + 1) _ (#[.int .i64 t.k, .int .i64 t.n, .string t.s, .slice av t.args.length cv] : Array Value) _ _ CX.out.res
          obtain ⟨q1, q2⟩ := tn_end HR.out CX.out HO.out (renL_len (turnN y) t.args).symm (cs := #[.int .i64 t.k, .int .i64 t.n, .string t.s, .slice av t.args.length cv])
          exact bodyPost_ret (v := .agg #[.int .i64 t.k, .int .i64 t.n, .string t.s, .slice av t.args.length cv]) (results_cell_row Try.results30 _ _ (w.heap.size + 1) _ _ _ _ rfl hz Try.underlying27 rfl (by kernel_rfl)) rfl ⟨_, rfl, q1, q2⟩
end Go.Proofs.Ytmlceamcpelklaa.Tms
