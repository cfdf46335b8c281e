
/-
  The reference's Rename and Number, walked over the program.
-/
import Derived.Test.YtoklbeogmcdgaaaRvr
import Derived.Test.YtoklbeogmcdgaaaChn
import Derived.Test.YtoklbeogmcdgaaaLow
namespace Go.Proofs.Ytoklbeogmcdgaaa.Tms
open Go Go.RowKit Go.Proofs.Ytoklbeogmcdgaaa.Reg
set_option linter.unusedVariables false

structure RrCtx (w : World) (k n : Int) (s : ByteArray) (v : Value) (wr : World) : Prop where
  res : wr.heap[w.heap.size + 1]? = some (.cells #[.int .i64 0, .int .i64 0, .string ⟨#[]⟩, .slice none 0 0] 33 (0, 0))
  box : wr.heap[w.heap.size + 2]? = some (.cells #[.int .i64 k, .int .i64 n, .string s, v] 33 (0, 0))
  bel : Below w.heap.size w wr
  big : w.heap.size + 3 ≤ wr.heap.size
theorem RrCtx.on {w : World} {k n : Int} {s : ByteArray} {v : Value} {wr w' : World} (h : RrCtx w k n s v wr) (hb : Below (w.heap.size + 3) wr w') : RrCtx w k n s v w' :=
  ⟨(hb.block _ (by omega)).trans h.res, (hb.block _ (by omega)).trans h.box, h.bel.trans (hb.mono (by omega)), Nat.le_trans h.big hb.size⟩
theorem RrCtx.store {w : World} {k n : Int} {s : ByteArray} {v v' : Value} {wr : World} (h : RrCtx w k n s v wr) : RrCtx w k n s v' (wr.setCell ⟨w.heap.size + 2, 3, none⟩ v') := by
  have hbel : Below w.heap.size w (wr.setCell ⟨w.heap.size + 2, 3, none⟩ v') := h.bel.setCell (show w.heap.size ≤ w.heap.size + 2 by omega) _
  have ne := fun (k : Nat) (hk : k ≠ w.heap.size + 2) => Below.heap_setCell wr ⟨w.heap.size + 2, 3, none⟩ v' k hk
  refine ⟨(ne _ (by omega)).trans h.res, ?_, hbel, by simpa [World.setCell] using h.big⟩
  have := heap_setCell_same wr (w.heap.size + 2) 3 _ _ v' h.box
  simpa using this
def RrRel (w : World) (L : List Int) (k n : Int) (s : ByteArray) (ts : List Tm) (vi : Value) (wr : World) : Prop :=
  ∃ (q : Nat) (v : Value), q ≤ ts.length ∧ vi = .int .i64 q ∧ RrCtx w k n s v wr ∧ OwnSl wr (w.heap.size + 3) (fun b => w.heap.size + 3 ≤ b) v (rrL L (ts.take q))
theorem rr_start (w : World) (L : List Int) (k n : Int) (s : ByteArray) (ts : List Tm) (o : Obj) :
    RrRel w L k n s ts (.int .i64 ((0 : Nat) : Int)) (((w.alloc o).alloc (.cells #[.int .i64 0, .int .i64 0, .string ⟨#[]⟩, .slice none 0 0] 33 (0, 0))).alloc (.cells #[.int .i64 k, .int .i64 n, .string s, .slice none 0 0] 33 (0, 0))) := by
  obtain ⟨t0, t1, tsz, tbl⟩ := two w o (.cells #[.int .i64 0, .int .i64 0, .string ⟨#[]⟩, .slice none 0 0] 33 (0, 0))
  generalize (w.alloc o).alloc (.cells #[.int .i64 0, .int .i64 0, .string ⟨#[]⟩, .slice none 0 0] 33 (0, 0)) = w2 at *
  have hb : Below w2.heap.size w2 (w2.alloc (.cells #[.int .i64 k, .int .i64 n, .string s, .slice none 0 0] 33 (0, 0))) := (Below.refl _ _).alloc (Nat.le_refl _) _
  have hbel := tbl.trans (hb.mono (by omega))
  refine ⟨0, .slice none 0 0, by omega, rfl, ⟨(hb.block _ (by omega)).trans t1, ?_, hbel, by simp; omega⟩, OwnSl.nil _ _ _⟩
  rw [show w.heap.size + 2 = w2.heap.size by omega]
  exact heap_alloc_new _ _
theorem rr_end {w wr : World} {L : List Int} {k n : Int} {s : ByteArray} {ts : List Tm} {a : Option Addr} {c m : Nat} (hk : k ≠ 1) (hc : RrCtx w k n s (.slice a m c) wr) (ho : OwnSl wr (w.heap.size + 3) (fun b => w.heap.size + 3 ≤ b) (.slice a m c) (rrL L ts)) (hm : m = (rrL L ts).length) {cs : Array Value} :
    IsTm (wr.setRow (w.heap.size + 1) cs) (fun b => w.heap.size ≤ b) (.agg #[.int .i64 k, .int .i64 n, .string s, .slice a m c]) (rrT L (.mk k n s ts)) ∧ Below w.heap.size w (wr.setRow (w.heap.size + 1) cs) := by
  subst hm
  have e : rrT L (.mk k n s ts) = .mk k n s (rrL L ts) := by rw [rrT, if_neg hk]
  rw [e]
  refine ⟨IsTm.mk' (t := .mk k n s (rrL L ts)) ?_, hc.bel.trans ⟨rfl, rfl, rfl, by simp, fun k hk => setRow_other _ _ _ _ (by omega)⟩⟩
  exact ho.reads.imp (fun b h => by rcases h with h | h <;> omega) fun b h _ => setRow_other _ _ _ _ (by rcases h with h | h <;> omega)

def RrPost (u : Tm) (w : World) (e : Ending) (w' : World) : Prop := ∃ v, e = .returned v ∧ IsTm w' (fun b => w.heap.size ≤ b) v u ∧ Below w.heap.size w w'
set_option maxRecDepth 100000 in
set_option maxHeartbeats 2000000 in
theorem ref_rename (L : List Int) (N : Nat) : ∀ (t : Tm) (v vl : Value) (P P' : Nat → Prop) (w : World), t.size ≤ N → t.size ≤ 1000000000 → IsTm w P v t → IntSl w P' vl L →
    Calls Try.prog 109 #[v, vl] w (RrPost (rrT L t) w) := by
  induction N with
  | zero => intro t v vl P P' w hN hM; obtain ⟨k, n, s, a⟩ := t; simp [Tm.size] at hN
  | succ N ih =>
    intro t v vl P P' w hN hM h1 h2
    have IH := Lib.hid ih
    clear ih
    obtain ⟨a, cap, rfl⟩ := h1.form
    obtain ⟨al, cl, rfl, -, -, -⟩ := id h2
    have s1 := h1.args
    obtain ⟨k, n, s, ts⟩ := t
    simp only [Tm.k, Tm.n, Tm.s, Tm.args] at *
    have S1 := Lib.hid s1
    have S2 := Lib.hid h2
    have hlen : ts.length ≤ 1000000000 := by have := len_le ts; simp only [Tm.size] at hM; omega
    have HN : Hid (sizeL ts ≤ N) := Lib.hid (by simp only [Tm.size] at hN; omega)
    have HM : Hid (sizeL ts ≤ 1000000000) := Lib.hid (by simp only [Tm.size] at hM; omega)
    obtain ⟨t0, t1, tsz, tbl⟩ := two w (.cells #[.int .i64 k, .int .i64 n, .string s, .slice a ts.length cap] 33) (.cells #[.int .i64 0, .int .i64 0, .string ⟨#[]⟩, .slice none 0 0] 33 (0, 0))
    have T1 := Lib.hid t1
    have TB := Lib.hid tbl
    clear h1 h2 s1 hN hM t0 t1 tsz tbl
    by_cases e1 : k = 1
    · have b1 : (k == 1) = true := by simpa using e1
      have hr : rrT L (.mk k n s ts) = .mk 1 (placeI L n) ⟨#[]⟩ [] := by rw [rrT, if_pos e1]
      have HR := Lib.hid hr
      clear hr e1
      go_enter Try.func109, Try.ntmps109
      go_wp2_with (first
        | (go_at_call 103; refine (ref_place L n _ _ _ (S2.out.below TB.out)).mono ?_; rintro e2 w2 ⟨rfl, rfl⟩)
        | (with_reducible show wpList _ _ _ (⟨none, .store _ (.tmp 4) _, _, _, _, _⟩ :: _) _ _
           refine wpList_store_row rfl 33 (.tmp 4) (.tmp 15) rfl (w.heap.size + 1) #[.int .i64 1, .int .i64 (placeI L n), .string ⟨#[]⟩, .slice none 0 0] rfl rfl _ _ T1.out size_term rfl (one4 _ _ _ _ _ _) ?_))
      have hz := setRow_heap _ (w.heap.size + 1) _ (#[.int .i64 1, .int .i64 (placeI L n), .string ⟨#[]⟩, .slice none 0 0] : Array Value) _ _ T1.out
      have hbw := below_setRow TB.out (show w.heap.size ≤ w.heap.size + 1 by omega) (#[.int .i64 1, .int .i64 (placeI L n), .string ⟨#[]⟩, .slice none 0 0] : Array Value)
      refine bodyPost_ret (v := .agg #[.int .i64 1, .int .i64 (placeI L n), .string ⟨#[]⟩, .slice none 0 0]) (results_cell_row Try.results109 _ _ (w.heap.size + 1) _ _ _ _ rfl hz Try.underlying33 rfl (by kernel_rfl)) rfl ⟨_, rfl, ?_, hbw⟩
      rw [HR.out]
      exact IsTm.mk' (t := .mk 1 (placeI L n) ⟨#[]⟩ []) (a := none) (cap := 0) (IsSl.nil _ _ none 0)
    have b1 : (k == 1) = false := by simpa using e1
    have hst := rr_start w L k n s ts (.cells #[.int .i64 k, .int .i64 n, .string s, .slice a ts.length cap] 33)
    have HST := Lib.hid hst
    have HK := Lib.hid e1
    clear hst e1
    go_enter Try.func109, Try.ntmps109
    go_wp2
    go_loopw [26] (fun vi wr => RrRel w L k n s ts vi wr) (fun vi _ => ts.length - (intOf vi).toNat)
    case atStart => exact HST.out
    case round =>
      obtain ⟨q, v, hq, rfl, cx, ho⟩ := hrel
      have hv := ho.form
      rw [rrL_len, List.length_take, Nat.min_eq_left hq] at hv
      obtain ⟨av, cv, rfl⟩ := hv
      obtain ⟨t0, t1, t2, t3⟩ := row4 cx.box
      have hbig := cx.big
      have CX := Lib.hid cx
      have OWN := Lib.hid ho
      clear HST cx ho
      by_cases hql : q < ts.length
      · obtain ⟨g1, o1, rfl, p1, m1⟩ := (S1.out.below CX.out.bel).at q hql
        obtain ⟨c1, d1, x10, x11, x12, x13, i1, l1⟩ := m1.read
        have h1s := size_mem hql
        have HX := Lib.hid (show ts[q].size ≤ N by have := HN.out; omega)
        have HX2 := Lib.hid (show ts[q].size ≤ 1000000000 by have := HM.out; omega)
        have hnx := rrL_take L ts q hql
        have hln : (rrL L (ts.take q)).length = q := by rw [rrL_len, List.length_take, Nat.min_eq_left hq]
        have HNX := Lib.hid hnx
        have HLN := Lib.hid hln
        have I1 := Lib.hid i1
        clear m1 i1 hnx h1s hln
        generalize ts[q] = x at *
        generalize rrL L (ts.take q) = R at *
        have hin : (q : Int) < (ts.length : Int) := by omega
        have hin0 : (0 : Int) ≤ (q : Int) := by omega
        go_wp2
        refine wp_region_rest (by kernel_rfl) ?_
        have hbx : Below wr.heap.size wr (wr.alloc (.cells #[.int .i64 x.k, .int .i64 x.n, .string x.s, .slice c1 x.args.length d1] 33)) := (Below.refl _ _).alloc (Nat.le_refl _) _
        have hnew := heap_alloc_new wr (.cells #[.int .i64 x.k, .int .i64 x.n, .string x.s, .slice c1 x.args.length d1] 33 (0, 0))
        have hsz : (wr.alloc (.cells #[.int .i64 x.k, .int .i64 x.n, .string x.s, .slice c1 x.args.length d1] 33)).heap.size = wr.heap.size + 1 := by simp
        have hd := hbx.drew
        obtain ⟨z0, z1, z2, z3⟩ := row4 (show (wr.alloc (.cells #[.int .i64 x.k, .int .i64 x.n, .string x.s, .slice c1 x.args.length d1] 33)).drew.heap[wr.heap.size]? = _ from hnew)
        have hsz' : (wr.alloc (.cells #[.int .i64 x.k, .int .i64 x.n, .string x.s, .slice c1 x.args.length d1] 33)).drew.heap.size = wr.heap.size + 1 := hsz
        have cx1 := CX.out.on (hd.mono hbig)
        have t3 := (row4 cx1.box).2.2.2
        have CX1 := Lib.hid cx1
        have OWN1 := Lib.hid (OWN.out.below hd)
        have I2 := Lib.hid (I1.out.below hd)
        have S22 := Lib.hid (S2.out.below cx1.bel)
        have HSZ := Lib.hid hsz'
        clear hbx hnew hsz hd hsz' cx1 x10 x11 x12 x13 l1 t0 t1 t2 CX OWN I1
        generalize (wr.alloc (.cells #[.int .i64 x.k, .int .i64 x.n, .string x.s, .slice c1 x.args.length d1] 33)).drew = W0 at *
        refine rest_chain 0 6 [(false, [0, 1, 2, 3]), (true, [4]), (true, [5])] [(false, [_, _, _, _]), (true, [_]), (true, [_])] rfl (by kernel_rfl) (by kernel_rfl) rfl (by kernel_rfl) (by kernel_rfl) (.inr (by kernel_rfl)) ?_
        refine chain_soft ?_
        intro E hE
        go_wp2
        clear z0 z1 z2 z3 t3
        refine chain_one ?_
        intro E hE
        go_wp2_with (go_at_call 109
                     refine (IH.out x _ _ _ _ _ HX.out HX2.out I2.out S22.out).mono ?_
                     rintro e2 w2 ⟨v2, rfl, hi2, hb2⟩
                     obtain ⟨a2, c2, rfl⟩ := hi2.form
                     have HI2 := Lib.hid hi2
                     have HB2 := Lib.hid hb2
                     clear hi2 hb2)
        refine ⟨HB2.out, ?_⟩
        refine chain_one ?_
        intro E hE
        go_wp2
        refine ⟨(Below.refl _ _).alloc (Nat.le_refl _) _, ?_⟩
        refine chain_nil ?_
        have hs2 := HB2.out.size
        have hs0 := CX1.out.big
        have cx2 := CX1.out.on (HB2.out.mono hs0)
        have own3 := OWN1.out.below HB2.out
        have hit := HI2.out.imp (P' := fun b => w.heap.size + 3 ≤ b ∧ Value.ownBlock (.slice av q cv) ≠ some b) (fun b h => ⟨Nat.le_trans hs0 h, fun e => by have := (OWN1.out.low b e).2; omega⟩) fun _ _ _ => rfl
        have CX3 := Lib.hid cx2
        have OWN3 := Lib.hid own3
        have HIT := Lib.hid hit
        have hq9 : q ≤ 1000000000 := by omega
        have hb3 : w.heap.size + 3 ≤ w2.heap.size := by omega
        clear cx2 own3 hit
        refine rest_lineL 6 9 [_, _, _] rfl (by kernel_rfl) (by decide) (by decide) (by kernel_rfl) ?_
        go_wp2_with (with_reducible show wpList _ _ _ (⟨some 36, _, _, _, _, _⟩ :: _) _ _
                     refine wpList_push_term rfl (.tmp 31) (.tmp 35) rfl (w.heap.size + 3) _ _ _ _ _ _ _ _ _ rfl OWN3.out rfl rfl HIT.out (by rw [HLN.out]; exact hq9) hb3 ?_
                     intro v3 w3 hown hb3 _ _
                     obtain ⟨a3, c3, rfl⟩ := hown.form
                     have e1 : (R ++ [rrT L x]).length = q + 1 := by rw [List.length_append, HLN.out]; rfl
                     rw [e1] at hown
                     rw [e1]
                     clear e1
                     have cx3 := CX3.out.on hb3
                     have t33 : w3.cell? ⟨w.heap.size + 1 + 1, 3, none⟩ = some (.slice av q cv) := (row4 cx3.box).2.2.2
                     have hf3 : w3.frozen? ⟨w.heap.size + 1 + 1, 3, none⟩ = false := frozen_of_row _ _ 3 _ _ cx3.box
                     have e2 : w.heap.size + 1 + 1 = w.heap.size + 2 := rfl
                     have CX4 : Hid (RrCtx w k n s (.slice a3 (q + 1) c3) (w3.setCell ⟨w.heap.size + 1 + 1, 3, none⟩ (.slice a3 (q + 1) c3))) := Lib.hid (by rw [e2]; exact cx3.store)
                     have OWN4 : Hid (OwnSl (w3.setCell ⟨w.heap.size + 1 + 1, 3, none⟩ (.slice a3 (q + 1) c3)) (w.heap.size + 3) (fun b => w.heap.size + 3 ≤ b) (.slice a3 (q + 1) c3) (R ++ [rrT L x])) := Lib.hid (by rw [e2]; exact hown.setLow (by omega) _)
                     clear e2 cx3 hown hb3)

        refine then_rest (rest_end (by decide) ?_)
        go_wp2
        go_roundw
        case rel => exact ⟨q + 1, _, by omega, by go_num, CX4.out, by rw [HNX.out]; exact OWN4.out⟩
        case measure => simp [intOf]; omega
      · obtain rfl : q = ts.length := by omega
        have hin : decide ((ts.length : Int) < (ts.length : Int)) = false := by simp
        have ho := OWN.out
        rw [List.take_length] at ho
        have HO := Lib.hid ho
        clear ho
        go_wp2_with (with_reducible show wpList _ _ _ (⟨none, .store _ (.tmp 4) _, _, _, _, _⟩ :: _) _ _
                     refine wpList_store_row rfl 33 (.tmp 4) (.tmp 39) rfl (w.heap.size + 1) #[.int .i64 k, .int .i64 n, .string s, .slice av ts.length cv] rfl rfl _ _ CX.out.res size_term rfl (one4 _ _ _ _ _ _) ?_)
        have hz := setRow_heap wr (w.heap.size + 1) _ (#[.int .i64 k, .int .i64 n, .string s, .slice av ts.length cv] : Array Value) _ _ CX.out.res
        obtain ⟨q1, q2⟩ := rr_end HK.out CX.out HO.out (rrL_len L ts).symm (cs := #[.int .i64 k, .int .i64 n, .string s, .slice av ts.length cv])
        exact bodyPost_ret (v := .agg #[.int .i64 k, .int .i64 n, .string s, .slice av ts.length cv]) (results_cell_row Try.results109 _ _ (w.heap.size + 1) _ _ _ _ rfl hz Try.underlying33 rfl (by kernel_rfl)) rfl ⟨_, rfl, q1, q2⟩

set_option maxRecDepth 100000 in
set_option maxHeartbeats 1600000 in
theorem ref_number (t : Tm) (v : Value) (P : Nat → Prop) (w : World) (hM : t.size ≤ 1000000000) (h : IsTm w P v t) :
    Calls Try.prog 95 #[v] w (RrPost (rrT (rvT t) t) w) := by
  obtain ⟨a, cap, rfl⟩ := h.form
  obtain ⟨t0, t1, tsz, tbl⟩ := two w (.cells #[.int .i64 t.k, .int .i64 t.n, .string t.s, .slice a t.args.length cap] 33 (0, 0)) (.cells #[.int .i64 0, .int .i64 0, .string ⟨#[]⟩, .slice none 0 0] 33 (0, 0))
  have H := Lib.hid h
  have T0 := Lib.hid t0
  have T1 := Lib.hid t1
  have TB := Lib.hid tbl
  have TS := Lib.hid tsz
  clear h t0 t1 tsz tbl
  go_enter Try.func95, Try.ntmps95
  go_wp2
  refine wp_region_rest (by kernel_rfl) ?_
  have hd : Below w.heap.size w ((w.alloc (.cells #[.int .i64 t.k, .int .i64 t.n, .string t.s, .slice a t.args.length cap] 33)).alloc (.cells #[.int .i64 0, .int .i64 0, .string ⟨#[]⟩, .slice none 0 0] 33 (0, 0))).drew := TB.out.drew
  have t0 : ((w.alloc (.cells #[.int .i64 t.k, .int .i64 t.n, .string t.s, .slice a t.args.length cap] 33)).alloc (.cells #[.int .i64 0, .int .i64 0, .string ⟨#[]⟩, .slice none 0 0] 33 (0, 0))).drew.heap[w.heap.size]? = _ := T0.out
  have t1 : ((w.alloc (.cells #[.int .i64 t.k, .int .i64 t.n, .string t.s, .slice a t.args.length cap] 33)).alloc (.cells #[.int .i64 0, .int .i64 0, .string ⟨#[]⟩, .slice none 0 0] 33 (0, 0))).drew.heap[w.heap.size + 1]? = _ := T1.out
  have ts : ((w.alloc (.cells #[.int .i64 t.k, .int .i64 t.n, .string t.s, .slice a t.args.length cap] 33)).alloc (.cells #[.int .i64 0, .int .i64 0, .string ⟨#[]⟩, .slice none 0 0] 33 (0, 0))).drew.heap.size = w.heap.size + 2 := TS.out
  generalize ((w.alloc (.cells #[.int .i64 t.k, .int .i64 t.n, .string t.s, .slice a t.args.length cap] 33)).alloc (.cells #[.int .i64 0, .int .i64 0, .string ⟨#[]⟩, .slice none 0 0] 33 (0, 0))).drew = W0 at *
  obtain ⟨z0, z1, z2, z3⟩ := row4 t0
  have H0 := Lib.hid (H.out.below hd)
  have R1 := Lib.hid t1
  have HB0 := Lib.hid hd
  have HS0 := Lib.hid ts
  clear t0 t1 hd ts T0 T1 TB TS
  refine rest_chain 0 3 [(false, [0, 1]), (true, [2])] [(false, [_, _]), (true, [_])] rfl (by kernel_rfl) (by kernel_rfl) rfl (by kernel_rfl) (by kernel_rfl) (.inr (by kernel_rfl)) ?_
  refine chain_soft ?_
  intro E hE
  go_wp2
  clear z0 z1 z2 z3
  refine chain_one ?_
  intro E hE
  go_wp2_with (go_at_call 71
               refine (ref_vars t.size t _ _ _ (Nat.le_refl _) hM H0.out).mono ?_
               rintro e2 w2 ⟨v2, rfl, hi2, hb2⟩
               obtain ⟨a2, c2, rfl, -, -, -⟩ := id hi2
               have HI2 := Lib.hid hi2
               have HB2 := Lib.hid hb2
               clear hi2 hb2)
  refine ⟨HB2.out, ?_⟩
  refine chain_nil ?_
  have r2 := (HB2.out.block (w.heap.size + 1) (by have := HS0.out; omega)).trans R1.out
  have R2 := Lib.hid r2
  have H2 := Lib.hid (H0.out.below HB2.out)
  have HB02 := Lib.hid (HB0.out.trans (HB2.out.mono HB0.out.size))
  have hs2 : w.heap.size + 2 ≤ w2.heap.size := by have := HB2.out.size; have := HS0.out; omega
  clear r2 H H0 R1 HB0
  refine rest_lineL 3 5 [_, _] rfl (by kernel_rfl) (by decide) (by decide) (by kernel_rfl) ?_
  go_wp2_with (first
    | (go_at_call 109
       refine (ref_rename (rvT t) t.size t _ _ _ _ _ (Nat.le_refl _) hM H2.out HI2.out).mono ?_
       rintro e3 w3 ⟨v3, rfl, hi3, hb3⟩
       obtain ⟨a3, c3, rfl⟩ := hi3.form
       have r3 := (hb3.block (w.heap.size + 1) (by omega)).trans R2.out
       have R3 := Lib.hid r3
       have HI3 := Lib.hid hi3
       have HB3 := Lib.hid hb3
       clear hi3 hb3 r3)
    | (with_reducible show wpList _ _ _ (⟨none, .store _ (.tmp 2) _, _, _, _, _⟩ :: _) _ _
       refine wpList_store_row rfl 33 (.tmp 2) (.tmp 6) rfl (w.heap.size + 1) #[.int .i64 (rrT (rvT t) t).k, .int .i64 (rrT (rvT t) t).n, .string (rrT (rvT t) t).s, .slice a3 (rrT (rvT t) t).args.length c3] rfl rfl _ _ R3.out size_term rfl (one4 _ _ _ _ _ _) ?_))
  refine then_rest (rest_end (by decide) ?_)
  have hz := setRow_heap w3 (w.heap.size + 1) _ (#[.int .i64 (rrT (rvT t) t).k, .int .i64 (rrT (rvT t) t).n, .string (rrT (rvT t) t).s, .slice a3 (rrT (rvT t) t).args.length c3] : Array Value) _ _ R3.out
  have hbw := below_setRow (HB02.out.trans (HB3.out.mono HB02.out.size)) (show w.heap.size ≤ w.heap.size + 1 by omega) (#[.int .i64 (rrT (rvT t) t).k, .int .i64 (rrT (rvT t) t).n, .string (rrT (rvT t) t).s, .slice a3 (rrT (rvT t) t).args.length c3] : Array Value)
  go_wp2
  refine bodyPost_ret (v := .agg #[.int .i64 (rrT (rvT t) t).k, .int .i64 (rrT (rvT t) t).n, .string (rrT (rvT t) t).s, .slice a3 (rrT (rvT t) t).args.length c3]) (results_cell_row Try.results95 _ _ (w.heap.size + 1) _ _ _ _ rfl hz Try.underlying33 rfl (by kernel_rfl)) rfl ⟨_, rfl, ?_, hbw⟩
  exact HI3.out.imp (fun b h => by omega) fun b h _ => setRow_other _ _ _ _ (by omega)
end Go.Proofs.Ytoklbeogmcdgaaa.Tms
