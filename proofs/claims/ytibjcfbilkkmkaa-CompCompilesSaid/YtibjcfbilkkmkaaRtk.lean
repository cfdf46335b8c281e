
/-
  Layer 19's reference: term, walked over the program (printed by gen_rtk.py).
-/
import Derived.Test.YtibjcfbilkkmkaaRco
import Derived.Test.YtibjcfbilkkmkaaTak
namespace Go.Proofs.Ytibjcfbilkkmkaa.Tms
open Go Go.RowKit Go.Proofs.Ytibjcfbilkkmkaa.Reg Go.Proofs.Ytibjcfbilkkmkaa.Rws Go.Proofs.Ytibjcfbilkkmkaa.Cod
set_option linter.unusedVariables false
set_option linter.unusedSimpArgs false

theorem results_cell_tmps {P : Program} {fn : Func} {p q r : Tmp} {ty : TypeId} (h : fn.results = #[.cell p ty, .tmp q, .tmp r]) (tmps : Array Value) (w : World) (g : Nat) (t : TypeId) (cs : Array Value) (fr : Nat × Nat) (d : TypeDesc) (x y : Value)
    (hp : tmps.getD p undef = .pointer (some ⟨g, 0, none⟩)) (hx : tmps.getD q undef = x) (hy : tmps.getD r undef = y) (hg : w.heap[g]? = some (.cells cs t fr))
    (hu : P.underlying ty = some d) (hd : (match d with | .struct _ | .array _ _ => true | _ => false) = true) (hi : (P.info? ty).map (·.size) = some cs.size) :
    (results fn tmps).run P w = .ok (.tuple #[.agg cs, x, y]) w := by
  have hp' : tmps[p]?.getD undef = .pointer (some ⟨g, 0, none⟩) := by simpa using hp
  have hx' : tmps[q]?.getD undef = x := by simpa using hx
  have hy' : tmps[r]?.getD undef = y := by simpa using hy
  simp [results, h, hp', hx', hy', asAddr, run_loadVar_row w g t ty cs fr d hg hu hd hi]
/-- what the reference's term tells: the term, the place behind it, how many new variables there were -/
def RtkPost (z : Int) (at_ : Nat) (r : Tm × List Ins × Int) (w : World) (e : Ending) (w' : World) : Prop :=
  ∃ a k an', e = .returned (.tuple #[aggT r.1 a k, .int .i64 at_, .int .i64 an']) ∧ z + an' = r.2.2 ∧ IsTm w' (fun b => w.heap.size ≤ b) (aggT r.1 a k) r.1 ∧ Below w.heap.size w w'
abbrev rcCells (c : Cod) (vs : Value) : Obj := .cells #[.string c.name, .int .i64 c.args, .int .i64 c.slots, .int .i64 c.body, vs] 25 (0, 0)
abbrev rinRow (i : Ins) : Obj := .cells #[.int .i64 i.op, .int .i64 i.a, .int .i64 i.n, .string i.s] 54 (0, 0)
/-- the call's first variables -/
structure RtCtx (w : World) (c : Cod) (vs : Value) (i : Ins) (W : World) : Prop where
  crow : W.heap[w.heap.size]? = some (rcCells c vs)
  res : W.heap[w.heap.size + 1]? = some (.cells #[.int .i64 0, .int .i64 0, .string ⟨#[]⟩, .slice none 0 0] 30 (0, 0))
  irow : W.heap[w.heap.size + 2]? = some (rinRow i)
  bel : Below w.heap.size w W
  big : w.heap.size + 3 ≤ W.heap.size
theorem RtCtx.on {w : World} {c : Cod} {vs : Value} {i : Ins} {W W' : World} (h : RtCtx w c vs i W) (hb : Below W.heap.size W W') : RtCtx w c vs i W' := by
  have := h.big
  exact ⟨(hb.block _ (by omega)).trans h.crow, (hb.block _ (by omega)).trans h.res, (hb.block _ (by omega)).trans h.irow, h.bel.trans (hb.mono h.bel.size), Nat.le_trans h.big hb.size⟩
theorem RtCtx.keeps {w : World} {c : Cod} {vs : Value} {i : Ins} {W W' : World} {M : Nat → Prop} (h : RtCtx w c vs i W) (hb : Keeps W W' M) (hM : ∀ b, M b → w.heap.size + 3 ≤ b) : RtCtx w c vs i W' := by
  have := h.big
  exact ⟨(hb.block _ (by omega) fun e => by have := hM _ e; omega).trans h.crow, (hb.block _ (by omega) fun e => by have := hM _ e; omega).trans h.res, (hb.block _ (by omega) fun e => by have := hM _ e; omega).trans h.irow,
    ⟨hb.os.trans h.bel.os, hb.tape.trans h.bel.tape, hb.output.trans h.bel.output, Nat.le_trans h.bel.size hb.size, fun k hk => (hb.block k (by have := h.bel.size; omega) fun e => by have := hM _ e; omega).trans (h.bel.block k hk)⟩, Nat.le_trans h.big hb.size⟩
theorem RtCtx.start (w : World) (c : Cod) (vs : Value) (i : Ins) : RtCtx w c vs i (((w.alloc (rcCells c vs)).alloc (.cells #[.int .i64 0, .int .i64 0, .string ⟨#[]⟩, .slice none 0 0] 30 (0, 0))).alloc (rinRow i)) := by
  obtain ⟨h0, h1, h2, h3⟩ := two w (rcCells c vs) (.cells #[.int .i64 0, .int .i64 0, .string ⟨#[]⟩, .slice none 0 0] 30 (0, 0))
  generalize (w.alloc (rcCells c vs)).alloc (.cells #[.int .i64 0, .int .i64 0, .string ⟨#[]⟩, .slice none 0 0] 30 (0, 0)) = W2 at *
  have hb := below_new W2 (rinRow i)
  have hg := heap_alloc_new W2 (rinRow i)
  rw [h2] at hg
  exact ⟨(hb.block _ (by omega)).trans h0, (hb.block _ (by omega)).trans h1, hg, h3.trans (hb.mono h3.size), by simp; omega⟩
theorem rtk_end {w W : World} {c : Cod} {vs : Value} {i : Ins} {t : Tm} {a : Option Addr} {k : Nat} {m : Nat} {an' : Int} {r : Tm × List Ins × Int} (h : RtCtx w c vs i W) (ht : IsTm W (fun b => w.heap.size + 2 ≤ b) (aggT t a k) t) (h1 : r.1 = t) (h2 : c.slots + an' = r.2.2) :
    RtkPost c.slots m r w (.returned (.tuple #[aggT t a k, .int .i64 m, .int .i64 an'])) (W.setRow (w.heap.size + 1) #[.int .i64 t.k, .int .i64 t.n, .string t.s, .slice a t.args.length k]) := by
  subst h1
  exact ⟨a, k, an', rfl, h2, ht.imp (fun b hb => by omega) fun b hb _ => setRow_other _ _ _ _ (by omega), below_setRow h.bel (by omega) _⟩
/-- behind r arguments -/
structure RtRow (w : World) (c : Cod) (vs : Value) (i : Ins) (N p n q : Nat) (an : Int) (r : Nat) (va : Value) (at_ : Nat) (an' : Int) (wr : World) : Prop where
  le : r ≤ n
  at_ : ∃ x d, sk (c.l.drop (p + 1)) r = some x ∧ sk (c.l.drop (p + 1 + x)) (n - r) = some d ∧ x + d = q ∧ at_ = p + 1 + x ∧ c.slots + an' = (takeN (takeT N) r (c.l.drop (p + 1)) (c.slots + an)).2.2
  own : Own tmKind wr (w.heap.size + 4) (fun b => w.heap.size + 4 ≤ b) va (takeN (takeT N) r (c.l.drop (p + 1)) (c.slots + an)).1
  ctx : RtCtx w c vs i wr
  trow : wr.heap[w.heap.size + 3]? = some (.cells #[.int .i64 4, .int .i64 0, .string i.s, va] 30 (0, 0))
  big : w.heap.size + 4 ≤ wr.heap.size
def RtRel (w : World) (c : Cod) (vs : Value) (i : Ins) (N p n q : Nat) (an : Int) (v1 v2 v11 : Value) (wr : World) : Prop :=
  ∃ (r : Nat) (va : Value) (m : Nat) (an' : Int), v1 = .int .i64 m ∧ v2 = .int .i64 an' ∧ v11 = .int .i64 r ∧ RtRow w c vs i N p n q an r va m an' wr
set_option maxRecDepth 100000 in
set_option maxHeartbeats 8000000 in
theorem ref_term (c : Cod) (vs : Value) (hL : c.l.length ≤ 1000000) (hz0 : 0 ≤ c.slots) (hz1 : c.slots ≤ 1000000000000) (N : Nat) : ∀ (p j : Nat) (an : Int) (w : World), sk (c.l.drop p) 1 = some j → j ≤ N → p ≤ c.l.length → 0 ≤ an → an + j ≤ 1000000000000 → InsSl w vs c.l →
    Calls Try.prog 38 #[codV c vs, .int .i64 p, .int .i64 an] w (RtkPost c.slots (p + j) (takeT N (c.l.drop p) (c.slots + an)) w) := by
  induction N with
  | zero => intro p j an w h hj; obtain ⟨i, l', q, -, -, -, e⟩ := sk_one h; omega
  | succ N ih =>
    intro p j an w hsk hj hp hn0 hn1 hsl
    have IH := Lib.hid ih
    clear ih
    obtain ⟨i, l', q, hdr, hb, hsq, rfl⟩ := sk_one hsk
    have hpl : p < c.l.length := by
      rcases Nat.lt_or_ge p c.l.length with h | h
      · exact h
      · rw [List.drop_eq_nil_of_le h] at hdr; cases hdr
    have hi : c.l[p] = i ∧ l' = c.l.drop (p + 1) := by
      rw [List.drop_eq_getElem_cons hpl] at hdr
      exact ⟨(List.cons.inj hdr).1, (List.cons.inj hdr).2.symm⟩
    obtain ⟨hi, rfl⟩ := hi
    have hng := not_bad hb
    obtain ⟨qa, qc, e', hins⟩ := id hsl
    subst e'
    obtain ⟨gi, oi, rfl, hia⟩ := hins p hpl
    rw [hi] at hia
    have hq : q + 1 ≤ N + 1 := hj
    have hst := RtCtx.start w c (.slice (some ⟨gi, oi, none⟩) c.l.length qc) i
    have hs2 := two w (rcCells c (.slice (some ⟨gi, oi, none⟩) c.l.length qc)) (.cells #[.int .i64 0, .int .i64 0, .string ⟨#[]⟩, .slice none 0 0] 30 (0, 0))
    obtain ⟨t0, t1, tsz, tbl⟩ := hs2
    obtain ⟨x0, x1, x2, x3, x4⟩ := row5 t0
    obtain ⟨y0, y1, y2, y3⟩ := hia.below tbl hia.lt
    have HST := Lib.hid hst
    have HSL := Lib.hid hsl
    have HSQ := Lib.hid hsq
    have HDR := Lib.hid hdr
    have HT := Lib.hid (takeT_op N i (c.l.drop (p + 1)) (c.slots + an))
    have hpi : (p : Int) < (c.l.length : Int) := by omega
    have hp0 : (0 : Int) ≤ (p : Int) := by omega
    clear hsk hdr hsq hst hsl t0 t1 hi hins hia tbl
    go_enter Try.func38, Try.ntmps38
    go_upto_region 2 with fail
    clear x0 x1 x2 x3 x4 y0 y1 y2 y3 tsz
    simp only [rcCells, rinRow] at HST
    have hzw : (((w.alloc (.cells #[.string c.name, .int .i64 c.args, .int .i64 c.slots, .int .i64 c.body, .slice (some ⟨gi, oi, none⟩) c.l.length qc] 25 (0, 0))).alloc (.cells #[.int .i64 0, .int .i64 0, .string ⟨#[]⟩, .slice none 0 0] 30 (0, 0))).alloc (.cells #[.int .i64 i.op, .int .i64 i.a, .int .i64 i.n, .string i.s] 54 (0, 0))).heap.size = w.heap.size + 3 := by simp
    have HZW := Lib.hid hzw
    clear hzw
    generalize ((w.alloc (.cells #[.string c.name, .int .i64 c.args, .int .i64 c.slots, .int .i64 c.body, .slice (some ⟨gi, oi, none⟩) c.l.length qc] 25 (0, 0))).alloc (.cells #[.int .i64 0, .int .i64 0, .string ⟨#[]⟩, .slice none 0 0] 30 (0, 0))).alloc (.cells #[.int .i64 i.op, .int .i64 i.a, .int .i64 i.n, .string i.s] 54 (0, 0)) = W1 at *
    obtain ⟨x0, x1, x2, x3, x4⟩ := row5 HST.out.crow
    obtain ⟨y0, y1, y2, y3⟩ := row4 HST.out.irow
    by_cases o1 : i.op = 1
    · skip
      have b1 : (i.op == 1) = true := by simp [o1]
      have hqz : q = 0 := by
        have := HSQ.out
        rw [show i.ar = 0 by simp [Ins.ar, o1], sk_zero] at this
        cases this; rfl
      have HQ := Lib.hid (HT.out.trans (if_pos o1))
      subst hqz
      clear o1
      go_wp2_with (with_reducible show wpList _ _ _ (⟨none, .store _ (.tmp 6) _, _, _, _, _⟩ :: _) _ _
                   refine wpList_store_row rfl 30 (.tmp 6) (.tmp 30) rfl (w.heap.size + 1) #[.int .i64 1, .int .i64 (c.slots + an), .string ⟨#[]⟩, .slice none 0 0] rfl rfl _ _ HST.out.res size_term rfl (one4 _ _ _ _ _ _) ?_)
      have hz := setRow_heap W1 (w.heap.size + 1) _ (#[.int .i64 1, .int .i64 (c.slots + an), .string ⟨#[]⟩, .slice none 0 0] : Array Value) _ _ HST.out.res
      have hpost := rtk_end (m := p + (0 + 1)) (an' := an + 1) (r := takeT (N + 1) (c.l.drop p) (c.slots + an)) (t := varT (c.slots + an)) (a := none) (k := 0) HST.out (IsTm.mk' (t := varT (c.slots + an)) (IsSl.nil _ _ none 0)) (by rw [HDR.out, HQ.out]) (by rw [HDR.out, HQ.out]; show c.slots + (an + 1) = c.slots + an + 1; omega)
      exact bodyPost_ret (v := .tuple #[.agg #[.int .i64 1, .int .i64 (c.slots + an), .string ⟨#[]⟩, .slice none 0 0], .int .i64 ((p + (0 + 1) : Nat) : Int), .int .i64 (an + 1)]) (results_cell_tmps Try.results38 _ _ (w.heap.size + 1) _ _ _ _ _ _ rfl (by simp) (by simp) hz Try.underlying30 rfl (by kernel_rfl)) rfl hpost
    have b1 : (i.op == 1) = false := by simpa using o1
    replace HT := Lib.hid (HT.out.trans (if_neg o1))
    by_cases o2 : i.op = 2
    · skip
      have b2 : (i.op == 2) = true := by simp [o2]
      have hqz : q = 0 := by
        have := HSQ.out
        rw [show i.ar = 0 by simp [Ins.ar, o2], sk_zero] at this
        cases this; rfl
      have HQ := Lib.hid (HT.out.trans (if_pos (.inl o2)))
      subst hqz
      clear o2
      go_wp2_with (with_reducible show wpList _ _ _ (⟨none, .store _ (.tmp 6) _, _, _, _, _⟩ :: _) _ _
                   refine wpList_store_row rfl 30 (.tmp 6) (.tmp 39) rfl (w.heap.size + 1) #[.int .i64 1, .int .i64 i.a, .string ⟨#[]⟩, .slice none 0 0] rfl rfl _ _ HST.out.res size_term rfl (one4 _ _ _ _ _ _) ?_)
      have hz := setRow_heap W1 (w.heap.size + 1) _ (#[.int .i64 1, .int .i64 i.a, .string ⟨#[]⟩, .slice none 0 0] : Array Value) _ _ HST.out.res
      have hpost := rtk_end (m := p + (0 + 1)) (an' := an) (r := takeT (N + 1) (c.l.drop p) (c.slots + an)) (t := varT i.a) (a := none) (k := 0) HST.out (IsTm.mk' (t := varT i.a) (IsSl.nil _ _ none 0)) (by rw [HDR.out, HQ.out]) (by rw [HDR.out, HQ.out])
      exact bodyPost_ret (v := .tuple #[.agg #[.int .i64 1, .int .i64 i.a, .string ⟨#[]⟩, .slice none 0 0], .int .i64 ((p + (0 + 1) : Nat) : Int), .int .i64 (an)]) (results_cell_tmps Try.results38 _ _ (w.heap.size + 1) _ _ _ _ _ _ rfl (by simp) (by simp) hz Try.underlying30 rfl (by kernel_rfl)) rfl hpost
    have b2 : (i.op == 2) = false := by simpa using o2
    by_cases o3 : i.op = 3
    · skip
      have b3 : (i.op == 3) = true := by simp [o3]
      have hqz : q = 0 := by
        have := HSQ.out
        rw [show i.ar = 0 by simp [Ins.ar, o3], sk_zero] at this
        cases this; rfl
      have HQ := Lib.hid (HT.out.trans (if_pos (.inr o3)))
      subst hqz
      clear o3
      go_wp2_with (with_reducible show wpList _ _ _ (⟨none, .store _ (.tmp 6) _, _, _, _, _⟩ :: _) _ _
                   refine wpList_store_row rfl 30 (.tmp 6) (.tmp 39) rfl (w.heap.size + 1) #[.int .i64 1, .int .i64 i.a, .string ⟨#[]⟩, .slice none 0 0] rfl rfl _ _ HST.out.res size_term rfl (one4 _ _ _ _ _ _) ?_)
      have hz := setRow_heap W1 (w.heap.size + 1) _ (#[.int .i64 1, .int .i64 i.a, .string ⟨#[]⟩, .slice none 0 0] : Array Value) _ _ HST.out.res
      have hpost := rtk_end (m := p + (0 + 1)) (an' := an) (r := takeT (N + 1) (c.l.drop p) (c.slots + an)) (t := varT i.a) (a := none) (k := 0) HST.out (IsTm.mk' (t := varT i.a) (IsSl.nil _ _ none 0)) (by rw [HDR.out, HQ.out]) (by rw [HDR.out, HQ.out])
      exact bodyPost_ret (v := .tuple #[.agg #[.int .i64 1, .int .i64 i.a, .string ⟨#[]⟩, .slice none 0 0], .int .i64 ((p + (0 + 1) : Nat) : Int), .int .i64 (an)]) (results_cell_tmps Try.results38 _ _ (w.heap.size + 1) _ _ _ _ _ _ rfl (by simp) (by simp) hz Try.underlying30 rfl (by kernel_rfl)) rfl hpost
    have b3 : (i.op == 3) = false := by simpa using o3
    replace HT := Lib.hid (HT.out.trans (if_neg fun e => e.elim o2 o3))
    by_cases o4 : i.op = 4
    · skip
      have b4 : (i.op == 4) = true := by simp [o4]
      have hqz : q = 0 := by
        have := HSQ.out
        rw [show i.ar = 0 by simp [Ins.ar, o4], sk_zero] at this
        cases this; rfl
      have HQ := Lib.hid (HT.out.trans (if_pos o4))
      subst hqz
      clear o4
      go_wp2_with (with_reducible show wpList _ _ _ (⟨none, .store _ (.tmp 6) _, _, _, _, _⟩ :: _) _ _
                   refine wpList_store_row rfl 30 (.tmp 6) (.tmp 46) rfl (w.heap.size + 1) #[.int .i64 2, .int .i64 i.n, .string ⟨#[]⟩, .slice none 0 0] rfl rfl _ _ HST.out.res size_term rfl (one4 _ _ _ _ _ _) ?_)
      have hz := setRow_heap W1 (w.heap.size + 1) _ (#[.int .i64 2, .int .i64 i.n, .string ⟨#[]⟩, .slice none 0 0] : Array Value) _ _ HST.out.res
      have hpost := rtk_end (m := p + (0 + 1)) (an' := an) (r := takeT (N + 1) (c.l.drop p) (c.slots + an)) (t := intT i.n) (a := none) (k := 0) HST.out (IsTm.mk' (t := intT i.n) (IsSl.nil _ _ none 0)) (by rw [HDR.out, HQ.out]) (by rw [HDR.out, HQ.out])
      exact bodyPost_ret (v := .tuple #[.agg #[.int .i64 2, .int .i64 i.n, .string ⟨#[]⟩, .slice none 0 0], .int .i64 ((p + (0 + 1) : Nat) : Int), .int .i64 (an)]) (results_cell_tmps Try.results38 _ _ (w.heap.size + 1) _ _ _ _ _ _ rfl (by simp) (by simp) hz Try.underlying30 rfl (by kernel_rfl)) rfl hpost
    have b4 : (i.op == 4) = false := by simpa using o4
    replace HT := Lib.hid (HT.out.trans (if_neg o4))
    by_cases o5 : i.op = 5
    · skip
      have b5 : (i.op == 5) = true := by simp [o5]
      have hqz : q = 0 := by
        have := HSQ.out
        rw [show i.ar = 0 by simp [Ins.ar, o5], sk_zero] at this
        cases this; rfl
      have HQ := Lib.hid (HT.out.trans (if_pos o5))
      subst hqz
      clear o5
      go_wp2_with (with_reducible show wpList _ _ _ (⟨none, .store _ (.tmp 6) _, _, _, _, _⟩ :: _) _ _
                   refine wpList_store_row rfl 30 (.tmp 6) (.tmp 53) rfl (w.heap.size + 1) #[.int .i64 3, .int .i64 0, .string i.s, .slice none 0 0] rfl rfl _ _ HST.out.res size_term rfl (one4 _ _ _ _ _ _) ?_)
      have hz := setRow_heap W1 (w.heap.size + 1) _ (#[.int .i64 3, .int .i64 0, .string i.s, .slice none 0 0] : Array Value) _ _ HST.out.res
      have hpost := rtk_end (m := p + (0 + 1)) (an' := an) (r := takeT (N + 1) (c.l.drop p) (c.slots + an)) (t := atomT i.s) (a := none) (k := 0) HST.out (IsTm.mk' (t := atomT i.s) (IsSl.nil _ _ none 0)) (by rw [HDR.out, HQ.out]) (by rw [HDR.out, HQ.out])
      exact bodyPost_ret (v := .tuple #[.agg #[.int .i64 3, .int .i64 0, .string i.s, .slice none 0 0], .int .i64 ((p + (0 + 1) : Nat) : Int), .int .i64 (an)]) (results_cell_tmps Try.results38 _ _ (w.heap.size + 1) _ _ _ _ _ _ rfl (by simp) (by simp) hz Try.underlying30 rfl (by kernel_rfl)) rfl hpost
    have b5 : (i.op == 5) = false := by simpa using o5
    replace HT := Lib.hid (HT.out.trans (if_neg o5))
    have o6 : i.op = 6 := by omega
    obtain ⟨n, hn⟩ : ∃ n : Nat, i.a = n := ⟨i.a.toNat, by have := hng.2.2 o6; omega⟩
    have hn1' : 1 ≤ n ∧ n ≤ 255 := by have := hng.2.2 o6; omega
    have har : i.ar = n := by simp [Ins.ar, o6, hn]
    have HSQ2 : Hid (sk (c.l.drop (p + 1 + 0)) (n - 0) = some q) := Lib.hid (by have := HSQ.out; rw [har] at this; simpa using this)
    have htn : i.a.toNat = n := by rw [hn]; simp
    rw [htn] at HT
    have HN := Lib.hid hn
    clear o1 o2 o3 o4 o5 o6 htn har hng hn
    go_upto_region 14 with fail
    clear x0 x1 x2 x3 x4 y0 y1 y2 y3
    have hbt := below_new W1 (.cells #[.int .i64 4, .int .i64 0, .string i.s, .slice none 0 0] 30 (0, 0))
    have hgt := heap_alloc_new W1 (.cells #[.int .i64 4, .int .i64 0, .string i.s, .slice none 0 0] 30 (0, 0))
    have HZW2 := HZW.out
    rw [HZW.out] at hgt ⊢
    have hst : RtRel w c (.slice (some ⟨gi, oi, none⟩) c.l.length qc) i N p n q an (.int .i64 ((p : Int) + 1)) (.int .i64 an) (.int .i64 0) (W1.alloc (.cells #[.int .i64 4, .int .i64 0, .string i.s, .slice none 0 0] 30 (0, 0))) :=
      ⟨0, .slice none 0 0, p + 1, an, by go_num, rfl, rfl, Nat.zero_le _, ⟨0, q, sk_zero _, HSQ2.out, by omega, by omega, rfl⟩, Own.nil _ _ _, HST.out.on hbt, hgt, by simp; omega⟩
    have HSR := Lib.hid hst
    clear hbt hgt HZW HZW2 hst HST
    generalize W1.alloc (.cells #[.int .i64 4, .int .i64 0, .string i.s, .slice none 0 0] 30 (0, 0)) = W2 at *
    go_wp2
    go_loopw [1, 2, 11] (fun v1 v2 v11 wr => RtRel w c (.slice (some ⟨gi, oi, none⟩) c.l.length qc) i N p n q an v1 v2 v11 wr) (fun _ _ v11 _ => n - (intOf v11).toNat)
    case atStart => exact HSR.out
    case round =>
      obtain ⟨r, va, m, an', rfl, rfl, rfl, hr⟩ := hrel
      clear HSR
      obtain ⟨x, d, hc, hd, hcd, hm, hcan⟩ := hr.at_
      obtain ⟨qv, cv, rfl⟩ := own_slice hr.own
      have hrn0 := hr.le
      have HCX := Lib.hid hr.ctx
      have HTR := Lib.hid hr.trow
      have HBG := Lib.hid hr.big
      have hown := hr.own
      clear hr
      have htf := (take_facts N).2 r (c.l.drop (p + 1)) (c.slots + an) x hc (by omega)
      have htr := (take_rest N).2 r (c.l.drop (p + 1)) (c.slots + an) x hc (by omega)
      rw [List.drop_drop] at htr
      have hsn := takeN_snoc (takeT N) r (c.l.drop (p + 1)) (c.slots + an)
      have hln := takeN_len (takeT N) r (c.l.drop (p + 1)) (c.slots + an)
      rw [htr] at hsn
      by_cases hrn : r < n
      · obtain ⟨j1, d1, e1, e2, e3⟩ := sk_split _ 1 (n - r - 1) d (by rw [show 1 + (n - r - 1) = n - r by omega]; exact hd)
        rw [List.drop_drop] at e2
        have hjn := sk_join _ r 1 x j1 hc (by rw [List.drop_drop]; exact e1)
        have hlc := sk_le _ _ _ e1
        have hj1 := sk_pos _ 0 j1 e1
        rw [List.length_drop] at hlc
        rw [← hcan] at hsn htf
        generalize takeN (takeT N) r (c.l.drop (p + 1)) (c.slots + an) = S at *
        obtain ⟨ts, LS, x'⟩ := S
        simp only at htf htr hsn hln hcan hown
        have hih := fun (u : World) h => IH.out (p + 1 + x) j1 an' u e1 (by omega) (by omega) (by omega) (by omega) h
        have HIH := Lib.hid hih
        have HSN := Lib.hid hsn
        have HLN := Lib.hid hln
        have HE := Lib.hid (And.intro hjn (And.intro e2 e3))
        have HOW := Lib.hid hown
        have hlts : ts.length ≤ 255 := by omega
        clear hih hsn hln hjn e2 e3 e1 hc hd hcan hown
        generalize takeT N (c.l.drop (p + 1 + x)) (c.slots + an') = R at *
        obtain ⟨t, LR, x2⟩ := R
        have hin : (r : Int) < (n : Int) := by omega
        have hin0 : (0 : Int) ≤ (r : Int) := by omega
        subst hm
        obtain ⟨x0, x1, x2_, x3, x4⟩ := row5 HCX.out.crow
        obtain ⟨y0, y1, y2, y3⟩ := row4 HCX.out.irow
        rw [HN.out] at y1
        go_wp2_with fail
        refine (HIH.out _ (HSL.out.below HCX.out.bel)).mono ?_
        rintro e w9 ⟨ax, kx, an2, rfl, hx2, hix, hb9⟩
        have hz9 := hb9.size
        have HIX := Lib.hid hix
        have HX2 := Lib.hid hx2
        replace HCX := Lib.hid (HCX.out.on hb9)
        have hlo := fun k e => HOW.out.low k e
        have HLO := Lib.hid hlo
        have hbig := HBG.out
        replace HTR := Lib.hid ((hb9.block _ (by omega)).trans HTR.out)
        replace HOW := Lib.hid (HOW.out.below hb9)
        have HZ9 := Lib.hid hz9
        clear x0 x1 x2_ x3 x4 y0 y1 y2 y3 hix hx2 hb9 hz9 hlo
        go_upto_region 18 with fail
        have hb10 := below_new w9 (rowT t ax kx)
        have hg10 := heap_alloc_new w9 (rowT t ax kx)
        have hz10 : (w9.alloc (rowT t ax kx)).heap.size = w9.heap.size + 1 := by simp
        simp only [rowT] at hb10 hg10 hz10
        replace HIX := Lib.hid (HIX.out.below hb10)
        replace HCX := Lib.hid (HCX.out.on hb10)
        replace HTR := Lib.hid ((hb10.block _ (Array.getElem?_eq_some_iff.1 HTR.out).1).trans HTR.out)
        replace HOW := Lib.hid (HOW.out.below hb10)
        have HG10 := Lib.hid hg10
        have HZ10 := Lib.hid hz10
        clear hb10 hg10 hz10
        generalize w9.alloc (.cells #[.int .i64 t.k, .int .i64 t.n, .string t.s, .slice ax t.args.length kx] 30 (0, 0)) = w10 at *
        obtain ⟨x0, x1, x2_, x3⟩ := row4 HTR.out
        obtain ⟨y0, y1, y2, y3⟩ := row4 HG10.out
        have hb11 := below_new w10 (.cells #[.int .i64 t.k, .int .i64 t.n, .string t.s, .slice ax t.args.length kx] 30 (0, 0))
        have hg11 := heap_alloc_new w10 (.cells #[.int .i64 t.k, .int .i64 t.n, .string t.s, .slice ax t.args.length kx] 30 (0, 0))
        have HOW11 := Lib.hid (HOW.out.below hb11)
        have HIX11 := Lib.hid (HIX.out.below hb11)
        have HCX11 := Lib.hid (HCX.out.on hb11)
        have HTR11 := Lib.hid ((hb11.block _ (Array.getElem?_eq_some_iff.1 HTR.out).1).trans HTR.out)
        have HG11 := Lib.hid hg11
        have hs11 : (w10.alloc (.cells #[.int .i64 t.k, .int .i64 t.n, .string t.s, .slice ax t.args.length kx] 30 (0, 0))).heap.size = w10.heap.size + 1 := by simp
        have HS11 := Lib.hid hs11
        clear hb11 hg11 HOW HIX HCX HTR HG10 hs11
        go_wp2_with (with_reducible show wpList _ _ _ (⟨some 77, _, _, _, _, _⟩ :: _) _ _
                     refine wpList_putN (K := tmKind) rfl (.tmp 74) (.tmp 76) _ rfl Try.underlying28 info_tm rfl (w.heap.size + 4) (fun b => w.heap.size + 4 ≤ b) (.slice qv ts.length cv) ts [[.int .i64 t.k, .int .i64 t.n, .string t.s, .slice ax t.args.length kx]] [t] ⟨w10.heap.size, 0, none⟩ 1 rfl HOW11.out rfl (fun j v hv => by rw [Addr.add_lit, cell_of_row _ _ _ _ _ _ HG11.out, Nat.zero_add]; simpa using hv) (by simp) ⟨(HIX11.out.imp (fun b hb => ⟨by have := HBG.out; omega, fun e => by have := (HLO.out b e).2; omega⟩) fun _ _ _ => rfl).cells, trivial⟩ (by unfold maxLen; simp; omega) (by simp; omega) (by have := HBG.out; have := HS11.out; have := HZ10.out; have := HZ9.out; omega) ?_
                     intro v12 w12 hown hb12 hgr hv12
                     obtain ⟨q12, n12, c12, rfl⟩ : ∃ q n c, v12 = .slice q n c := by obtain ⟨q', c', e'⟩ := own_slice hown; exact ⟨q', _, c', e'⟩
                     have hbig := HBG.out
                     have hs11 := HS11.out
                     have hs10 := HZ10.out
                     have hs9 := HZ9.out
                     have htr12 : w12.heap[w.heap.size + 3]? = some (.cells #[.int .i64 4, .int .i64 0, .string i.s, .slice qv ts.length cv] 30 (0, 0)) := (hgr.block _ (by omega) (fun e => by have := (HLO.out _ e.symm).1; omega)).trans HTR11.out
                     have hfin : RtRow w c (.slice (some ⟨gi, oi, none⟩) c.l.length qc) i N p n q an (r + 1) (.slice q12 n12 c12) (p + 1 + x + j1) an2 (w12.setCell ⟨w.heap.size + 3, 3, none⟩ (.slice q12 n12 c12)) := by
                       have hcx12 := (HCX11.out.keeps (Keeps.grown hgr (M := fun b => (Value.slice qv ts.length cv).ownBlock = some b) fun b e => .inl e) fun b e => by have := (HLO.out b e).1; omega).keeps (keeps_setc w12 (w.heap.size + 3) 3 (.slice q12 n12 c12)) fun b e => by omega
                       refine ⟨by omega, ⟨x + j1, d1, HE.out.1, ?_, by have := HE.out.2.2; omega, by omega, ?_⟩, ?_, hcx12, by simpa using heap_setCell_same w12 (w.heap.size + 3) 3 _ _ (.slice q12 n12 c12) htr12, by have := hgr.size; simp [World.setCell]; omega⟩
                       · rw [show p + 1 + (x + j1) = p + 1 + x + j1 by omega, show n - (r + 1) = n - r - 1 by omega]; exact HE.out.2.1
                       · rw [HSN.out]; exact HX2.out
                       · rw [HSN.out]
                         exact hown.keep (by simp [World.setCell]) fun b hlt hq => Below.heap_setCell _ _ _ _ (by
                           show ¬ b = w.heap.size + 3
                           rcases hq with hq | hq
                           · omega
                           · have := (hown.low b hq).1; omega)
                     have HFI := Lib.hid hfin
                     obtain ⟨k0, k1, k2, k3⟩ := row4 htr12
                     have f3 := frozen_of_row _ _ 3 _ _ htr12
                     clear hown hb12 hgr hv12 htr12 hfin hbig hs11 hs10 hs9)
        go_roundw
        case rel => exact ⟨r + 1, _, _, _, rfl, rfl, by go_num, HFI.out⟩
        case measure => simp [intOf]; omega
      · obtain rfl : r = n := by omega
        rw [Nat.sub_self, sk_zero] at hd
        cases hd
        obtain rfl : x = q := by omega
        subst hm
        have hin : decide ((r : Int) < (r : Int)) = false := by simp
        have HTS := Lib.hid hsn
        have HCA := Lib.hid hcan
        have HOW := Lib.hid hown
        clear hsn htr htf hcan hown
        generalize takeN (takeT N) r (c.l.drop (p + 1)) (c.slots + an) = S at *
        obtain ⟨ts, LS, x'⟩ := S
        simp only at hln
        obtain rfl : ts.length = r := hln
        obtain ⟨x0, x1, x2_, x3⟩ := row4 HTR.out
        obtain ⟨y0, y1, y2, y3⟩ := row4 HCX.out.irow
        rw [HN.out] at y1
        have hlen : (Value.slice qv ts.length cv) = (Value.slice qv ts.length cv) := rfl
        go_wp2_with (with_reducible show wpList _ _ _ (⟨none, .store _ (.tmp 6) _, _, _, _, _⟩ :: _) _ _
                     refine wpList_store_row rfl 30 (.tmp 6) (.tmp 81) rfl (w.heap.size + 1) #[.int .i64 4, .int .i64 0, .string i.s, .slice qv ts.length cv] rfl rfl _ _ HCX.out.res size_term rfl (one4 _ _ _ _ _ _) ?_)
        have hz := setRow_heap wr (w.heap.size + 1) _ (#[.int .i64 4, .int .i64 0, .string i.s, .slice qv ts.length cv] : Array Value) _ _ HCX.out.res
        have hpost := rtk_end (m := p + 1 + x) (an' := an') (r := takeT (N + 1) (c.l.drop p) (c.slots + an)) (t := compT i.s ts) (a := qv) (k := cv) HCX.out (IsTm.mk' (t := compT i.s ts) ((own_reads HOW.out).imp (fun b hb => by rcases hb with hb | hb <;> omega) fun _ _ _ => rfl)) (by rw [HDR.out, HT.out]) (by rw [HDR.out, HT.out]; exact HCA.out)
        have hcast : ((p + 1 + x : Nat) : Int) = (p : Int) + 1 + (x : Int) := by omega
        rw [hcast] at hpost
        exact bodyPost_ret (v := .tuple #[.agg #[.int .i64 4, .int .i64 0, .string i.s, .slice qv ts.length cv], .int .i64 ((p : Int) + 1 + (x : Int)), .int .i64 an']) (results_cell_tmps Try.results38 _ _ (w.heap.size + 1) _ _ _ _ _ _ rfl (by simp) (by simp) hz Try.underlying30 rfl (by kernel_rfl)) rfl (by first | exact hpost | (rw [show p + (x + 1) = p + 1 + x by omega]; exact hpost))
end Go.Proofs.Ytibjcfbilkkmkaa.Tms
