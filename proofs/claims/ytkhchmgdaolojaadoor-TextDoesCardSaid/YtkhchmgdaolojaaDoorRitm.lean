
/-
  The reference's Cons and Items, walked over the program.
-/
import Derived.Test.YtkhchmgdaolojaaDoorItm
import Derived.Test.YtkhchmgdaolojaaDoorChn
namespace Go.Proofs.YtkhchmgdaolojaaDoor.Tms
open Go Go.RowKit Go.Proofs.YtkhchmgdaolojaaDoor.Reg
set_option linter.unusedVariables false

set_option maxHeartbeats 1600000 in
theorem ref_cons (u : Tm) (v : Value) (P : Nat → Prop) (w : World) (hM : u.size ≤ 1000000000) (h : IsTm w P v u) : Calls Tryd.prog 33 #[v] w (Says (consB u) w) := by
  obtain ⟨a, c, rfl⟩ := h.form
  have hul : u.args.length ≤ 1000000000 := by have := len_le u.args; have : sizeL u.args + 1 = u.size := (by obtain ⟨k1, n1, s1, a1⟩ := u; simp [Tm.size, Tm.args]); omega
  have hal : Below w.heap.size w (w.alloc (.cells #[.int .i64 u.k, .int .i64 u.n, .string u.s, .slice a u.args.length c] 28)) := (Below.refl _ _).alloc (Nat.le_refl _) _
  have HA := Lib.hid hal
  clear h hal
  by_cases k4 : u.k = 4
  case neg =>
    have b1 : (u.k == 4) = false := by simpa using k4
    have hc : consB u = false := by simp [consB, b1]
    have HC := Lib.hid hc
    clear hc k4
    go_enter Tryd.func33, Tryd.ntmps33
    go_wp2
    go_ret
    exact says HC.out.symm HA.out
  have b1 : (u.k == 4) = true := by simpa using k4
  clear k4
  cases b2 : (u.s.toList == [46])
  · have hc : consB u = false := by simp [consB, b2]
    have HC := Lib.hid hc
    clear hc
    go_enter Tryd.func33, Tryd.ntmps33
    go_wp2
    go_ret
    exact says HC.out.symm HA.out
  by_cases l2 : u.args.length = 2
  case neg =>
    have b3 : ((u.args.length : Int) == 2) = false := by rw [beq_eq_false_iff_ne]; omega
    have hc : consB u = false := by simp [consB, l2]
    have HC := Lib.hid hc
    clear hc l2
    go_enter Tryd.func33, Tryd.ntmps33
    go_wp2
    go_ret
    exact says HC.out.symm HA.out
  have b3 : ((u.args.length : Int) == 2) = true := by rw [beq_iff_eq]; omega
  have hc : consB u = true := by simp [consB, b1, b2, l2]
  have HC := Lib.hid hc
  clear hc l2
  go_enter Tryd.func33, Tryd.ntmps33
  go_wp2
  go_ret
  exact says HC.out.symm HA.out
theorem OwnSl.keepB {w w' : World} {base : Nat} {P : Nat → Prop} {v : Value} {ts : List Tm} (h : OwnSl w base P v ts) (hs : w.heap.size ≤ w'.heap.size) (hb : ∀ b, P b ∨ base ≤ b → b < w.heap.size → w'.heap[b]? = w.heap[b]?) : OwnSl w' base P v ts := by
  obtain ⟨xs, h1, h2⟩ := h
  refine ⟨xs, ⟨h1.1, ?_⟩, h2.imp2 (fun b h => ⟨h.1, h.2.1, Nat.lt_of_lt_of_le h.2.2 hs⟩) fun b h _ => hb b (.inl h.1) h.2.2⟩
  rcases h1.2 with h | ⟨g, cap, cur, e, h, hg, rest⟩
  · exact .inl h
  · exact .inr ⟨g, cap, cur, e, h, (hb g (.inr h) (Array.getElem?_eq_some_iff.1 hg).1).trans hg, rest⟩
def RiRel (w : World) (P : Nat → Prop) (t : Tm) (v : Value) (wr : World) : Prop :=
  ∃ (l : List Tm) (u : Tm) (a : Option Addr) (c : Nat), ItSt t l u ∧ wr.heap[w.heap.size]? = some (.cells #[.int .i64 u.k, .int .i64 u.n, .string u.s, .slice a u.args.length c] 28 (0, 0)) ∧
    wr.heap[w.heap.size + 1]? = some (.cells #[.int .i64 0, .int .i64 0, .string ⟨#[]⟩, .slice none 0 0] 28 (0, 0)) ∧
    IsTm wr (fun b => b < w.heap.size) (.agg #[.int .i64 u.k, .int .i64 u.n, .string u.s, .slice a u.args.length c]) u ∧ OwnSl wr (w.heap.size + 2) (fun b => b < w.heap.size) v l ∧ Below w.heap.size w wr ∧ w.heap.size + 2 ≤ wr.heap.size

set_option maxRecDepth 100000 in
set_option maxHeartbeats 1600000 in
theorem ref_items (t : Tm) (v : Value) (P : Nat → Prop) (w : World) (hM : t.size ≤ 1000000000) (h : IsTm w P v t) :
    Calls Tryd.prog 19 #[v] w fun e w' => ∃ v1 v2, e = .returned (.tuple #[v1, v2]) ∧ IsSl w' AnyB v1 (itemsT t).1 ∧ IsTm w' AnyB v2 (itemsT t).2 ∧ Below w.heap.size w w' := by
  have h0 := h.lt.imp (P' := fun b => b < w.heap.size) (fun _ h => h.2) fun _ _ _ => rfl
  obtain ⟨a, cap, rfl⟩ := h.form
  obtain ⟨t0, t1, tsz, tbl⟩ := two w (.cells #[.int .i64 t.k, .int .i64 t.n, .string t.s, .slice a t.args.length cap] 28 (0, 0)) (.cells #[.int .i64 0, .int .i64 0, .string ⟨#[]⟩, .slice none 0 0] 28 (0, 0))
  have hst : RiRel w P t (.slice none 0 0) ((w.alloc (.cells #[.int .i64 t.k, .int .i64 t.n, .string t.s, .slice a t.args.length cap] 28 (0, 0))).alloc (.cells #[.int .i64 0, .int .i64 0, .string ⟨#[]⟩, .slice none 0 0] 28 (0, 0))) :=
    ⟨[], t, a, cap, ItSt.first t, t0, t1, h0.below tbl, OwnSl.nil _ _ _, tbl, by omega⟩
  have HST := Lib.hid hst
  clear h h0 t0 t1 tsz tbl hst
  go_enter Tryd.func19, Tryd.ntmps19
  go_wp2
  go_loopw [4] (fun v wr => RiRel w P t v wr) (fun v _ => t.size - lenOf v)
  case atStart => exact HST.out
  case round =>
    obtain ⟨l, u, a, c, hit, hbox, hres, hi, hown, hbl, hbig⟩ := hrel
    obtain ⟨av, cv, rfl⟩ := hown.form
    obtain ⟨x0, x1, x2, x3⟩ := row4 hbox
    have HIT := Lib.hid hit
    have HUS : Hid (u.size ≤ 1000000000) := Lib.hid (by have := hit.2; omega)
    have hll : l.length < t.size := by have := hit.2; have := size_pos u; omega
    have HLL := Lib.hid hll
    have HI0 := Lib.hid hi
    have HBOX0 := Lib.hid hbox
    have HRES0 := Lib.hid hres
    have HOWN0 := Lib.hid hown
    have HBL0 := Lib.hid hbl
    clear hit hbox hres hi hown hbl HST
    go_wp2_with fail
    refine (ref_cons u _ _ _ HUS.out HI0.out).mono ?_
    rintro e2 w2 ⟨rfl, hb2⟩
    have HI := Lib.hid (HI0.out.below hb2)
    have HBOX := Lib.hid ((hb2.block _ (by omega)).trans HBOX0.out)
    have HRES := Lib.hid ((hb2.block _ (by omega)).trans HRES0.out)
    have HOWN := Lib.hid (HOWN0.out.below hb2)
    have HBL := Lib.hid (HBL0.out.trans (hb2.mono HBL0.out.size))
    replace hbig : w.heap.size + 2 ≤ w2.heap.size := Nat.le_trans hbig hb2.size
    clear HI0 HBOX0 HRES0 HOWN0 HBL0 hb2 x0 x1 x2 x3
    obtain ⟨x0, x1, x2, x3⟩ := row4 HBOX.out
    cases hc : consB u
    · have HC := Lib.hid hc
      clear hc
      go_wp2
      refine wp_region_rest (by kernel_rfl) ?_
      have hd : Below w2.heap.size w2 w2.drew := (Below.refl _ _).drew
      replace HI := Lib.hid (HI.out.below hd)
      replace HBOX := Lib.hid ((hd.block _ (by omega)).trans HBOX.out)
      replace HRES := Lib.hid ((hd.block _ (by omega)).trans HRES.out)
      replace HOWN := Lib.hid (HOWN.out.below hd)
      replace HBL := Lib.hid HBL.out.drew
      replace hbig : w.heap.size + 2 ≤ w2.drew.heap.size := hbig
      clear hd x0 x1 x2 x3
      generalize w2.drew = W0 at *
      obtain ⟨x0, x1, x2, x3⟩ := row4 HBOX.out
      refine rest_chain 0 3 [(false, [0, 1, 2])] [(false, [_, _, _])] rfl (by kernel_rfl) (by kernel_rfl) rfl (by kernel_rfl) (by kernel_rfl) (.inr (by kernel_rfl)) ?_
      refine chain_soft ?_
      intro E hE
      go_wp2
      refine chain_nil ?_
      clear x0 x1 x2 x3
      refine rest_lineL 3 4 [_] rfl (by kernel_rfl) (by decide) (by decide) (by kernel_rfl) ?_
      go_wp2_with (refine wpList_store_row rfl 28 (.tmp 3) (.tmp 19) rfl (w.heap.size + 1) #[.int .i64 u.k, .int .i64 u.n, .string u.s, .slice a u.args.length c] rfl rfl _ _ HRES.out size_term rfl (one4 _ _ _ _ _ _) ?_)
      have hz := setRow_heap W0 (w.heap.size + 1) _ (#[.int .i64 u.k, .int .i64 u.n, .string u.s, .slice a u.args.length c] : Array Value) _ _ HRES.out
      have hbw := below_setRow HBL.out (show w.heap.size ≤ w.heap.size + 1 by omega) (#[.int .i64 u.k, .int .i64 u.n, .string u.s, .slice a u.args.length c] : Array Value)
      have hoth : ∀ b, b ≠ w.heap.size + 1 → (W0.setRow (w.heap.size + 1) (#[.int .i64 u.k, .int .i64 u.n, .string u.s, .slice a u.args.length c] : Array Value)).heap[b]? = W0.heap[b]? := fun b hb => setRow_other _ _ _ _ hb
      have hl : IsSl (W0.setRow (w.heap.size + 1) (#[.int .i64 u.k, .int .i64 u.n, .string u.s, .slice a u.args.length c] : Array Value)) AnyB (.slice av l.length cv) l := HOWN.out.reads.imp (fun _ _ => trivial) fun b h _ => hoth b (by omega)
      have hr : IsTm (W0.setRow (w.heap.size + 1) (#[.int .i64 u.k, .int .i64 u.n, .string u.s, .slice a u.args.length c] : Array Value)) AnyB (.agg #[.int .i64 u.k, .int .i64 u.n, .string u.s, .slice a u.args.length c]) u := HI.out.imp (fun _ _ => trivial) fun b h _ => hoth b (by omega)
      obtain ⟨q1, q2⟩ := items_end HIT.out HC.out
      have hl2 : IsSl (W0.setRow (w.heap.size + 1) (#[.int .i64 u.k, .int .i64 u.n, .string u.s, .slice a u.args.length c] : Array Value)) AnyB (.slice av l.length cv) (itemsT t).1 := by rw [q1]; exact hl
      have hr2 : IsTm (W0.setRow (w.heap.size + 1) (#[.int .i64 u.k, .int .i64 u.n, .string u.s, .slice a u.args.length c] : Array Value)) AnyB (.agg #[.int .i64 u.k, .int .i64 u.n, .string u.s, .slice a u.args.length c]) (itemsT t).2 := by rw [q2]; exact hr
      refine then_rest (rest_end (by decide) ?_)
      go_wp2
      exact bodyPost_ret (v := .tuple #[.slice av l.length cv, .agg #[.int .i64 u.k, .int .i64 u.n, .string u.s, .slice a u.args.length c]]) (results_tmp_cell Tryd.results19 _ _ (w.heap.size + 1) _ _ _ _ _ rfl rfl hz Tryd.underlying28 rfl (by kernel_rfl)) rfl ⟨_, _, rfl, hl2, hr2, hbw⟩
    · have HC := Lib.hid hc
      have hag := cons_args hc
      have hsi := cons_size hc
      have hl2 : u.args.length = 2 := by rw [hag]; rfl
      have hA := HI.out.args
      obtain ⟨g1, o1, ea, p1, m1⟩ := hA.at 0 (by omega)
      obtain ⟨g2, o2, eb, p2, m2⟩ := hA.at 1 (by omega)
      rw [ea] at eb
      simp only [Option.some.injEq, Addr.mk.injEq, and_true] at eb
      obtain ⟨rfl, rfl⟩ := eb
      have hx : u.args[0] = headT u := by simp [hag]
      have hy : u.args[1] = tailT u := by simp [hag]
      rw [hx] at m1
      rw [hy] at m2
      obtain ⟨c1, d1, y0, y1, y2, y3, i1, l1⟩ := m1.read
      obtain ⟨c2, d2, z0, z1, z2, z3, i2, -⟩ := m2.read
      subst ea
      simp only [Nat.zero_mul, Nat.add_zero, Nat.one_mul] at y0 y1 y2 y3 z0 z1 z2 z3
      have HX := Lib.hid i1
      have HY := Lib.hid i2
      have HP1 : Hid (g1 < w.heap.size) := Lib.hid p1
      have HY0 := Lib.hid z0
      have HY1 := Lib.hid z1
      have HY2 := Lib.hid z2
      have HY3 := Lib.hid z3
      have HNX := Lib.hid (HIT.out.next hc)
      have HLN := Lib.hid (show l.length ≤ 1000000000 by omega)
      have in0 : (0 : Int) < (u.args.length : Int) := by omega
      have in1 : (1 : Int) < (u.args.length : Int) := by omega
      clear hag hsi hx hy m1 m2 i1 i2 p1 p2 hc hl2 hA z0 z1 z2 z3
      generalize headT u = X at *
      generalize tailT u = Y at *
      have hit := HX.out.imp (P' := fun b => b < w.heap.size ∧ Value.ownBlock (.slice av l.length cv) ≠ some b) (fun b h => ⟨h, fun e => by have := (HOWN.out.low b e).1; omega⟩) fun _ _ _ => rfl
      have HIX := Lib.hid hit
      clear hit
      go_wp2_with (first
        | (with_reducible show wpList _ _ _ (⟨some 13, _, _, _, _, _⟩ :: _) _ _
           refine wpList_push_term rfl (.tmp 7) (.tmp 12) rfl (w.heap.size + 2) _ _ _ _ _ _ _ _ _ rfl HOWN.out rfl rfl HIX.out HLN.out hbig ?_
           intro v3 w3 hown hb3 _ _
           obtain ⟨a3, c3, rfl⟩ := hown.form
           clear x0 x1 x2 x3 y0 y1 y2 y3
           have hbox3 := (hb3.block w.heap.size (by omega)).trans HBOX.out
           have hres3 := (hb3.block (w.heap.size + 1) (by omega)).trans HRES.out
           have x3 := (row4 hbox3).2.2.2
           have q0 := (hb3.cell (p := ⟨g1, o1 + 4, none⟩) (by have := HP1.out; show g1 < _; omega)).trans HY0.out
           have q1 := (hb3.cell (p := ⟨g1, o1 + 4 + 1, none⟩) (by have := HP1.out; show g1 < _; omega)).trans HY1.out
           have q2 := (hb3.cell (p := ⟨g1, o1 + 4 + 2, none⟩) (by have := HP1.out; show g1 < _; omega)).trans HY2.out
           have q3 := (hb3.cell (p := ⟨g1, o1 + 4 + 3, none⟩) (by have := HP1.out; show g1 < _; omega)).trans HY3.out
           have hy3 := HY.out.imp (P' := fun b => b < w.heap.size) (fun _ h => h) fun b h hlt => hb3.block b (by omega)
           have hbw3 := HBL.out.trans (hb3.mono (by omega))
           have hs3 := hb3.size
           have BOX3 := Lib.hid hbox3
           have RES3 := Lib.hid hres3
           have e1 : (l ++ [X]).length = l.length + 1 := by simp
           rw [e1] at hown
           clear e1
           have OWN3 := Lib.hid hown
           have YY3 := Lib.hid hy3
           have BW3 := Lib.hid hbw3
           clear hbox3 hres3 hown hy3 hbw3 hb3)
        | (with_reducible show wpList _ _ _ (⟨none, .store _ (.tmp 1) _, _, _, _, _⟩ :: _) _ _
           refine wpList_store_row rfl 28 (.tmp 1) (.tmp 17) rfl w.heap.size #[.int .i64 Y.k, .int .i64 Y.n, .string Y.s, .slice c2 Y.args.length d2] rfl rfl _ _ BOX3.out size_term rfl (one4 _ _ _ _ _ _) ?_))
      have hz := setRow_heap w3 w.heap.size _ (#[.int .i64 Y.k, .int .i64 Y.n, .string Y.s, .slice c2 Y.args.length d2] : Array Value) _ _ BOX3.out
      have hoth : ∀ b, b ≠ w.heap.size → (w3.setRow w.heap.size (#[.int .i64 Y.k, .int .i64 Y.n, .string Y.s, .slice c2 Y.args.length d2] : Array Value)).heap[b]? = w3.heap[b]? := fun b hb => setRow_other _ _ _ _ hb
      have hbw := below_setRow BW3.out (Nat.le_refl _) (#[.int .i64 Y.k, .int .i64 Y.n, .string Y.s, .slice c2 Y.args.length d2] : Array Value)
      have hszr : (w3.setRow w.heap.size (#[.int .i64 Y.k, .int .i64 Y.n, .string Y.s, .slice c2 Y.args.length d2] : Array Value)).heap.size = w3.heap.size := by simp
      simp only [Act.put]
      go_roundw
      case rel => exact ⟨l ++ [X], Y, c2, d2, HNX.out, hz, (hoth _ (by omega)).trans RES3.out, YY3.out.imp (fun _ h => h) (fun b h _ => hoth b (by omega)), OWN3.out.keepB (by omega) (fun b h _ => hoth b (by omega)), hbw, by omega⟩
      case measure => have := HLL.out; simp [lenOf]; omega
end Go.Proofs.YtkhchmgdaolojaaDoor.Tms
