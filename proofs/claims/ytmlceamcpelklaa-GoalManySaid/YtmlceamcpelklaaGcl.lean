
/-
  goal.Body, walked over the program.
  goal.Clause, walked over the program.
-/
import Derived.Test.YtmlceamcpelklaaGbd
namespace Go.Proofs.Ytmlceamcpelklaa.Tms
open Go Go.RowKit Go.Proofs.Ytmlceamcpelklaa.Reg
set_option linter.unusedVariables false

theorem bodyN_size : ∀ (n : Nat) (t : Tm), t.size ≤ n → (bodyN n t).1.size ≤ 2 * t.size
  | 0, t, h => by have := size_pos t; omega
  | n + 1, t, h => by
    have hp0 := size_pos t
    unfold bodyN
    by_cases k1 : t.k = 1
    · rw [if_pos k1]
      simp only [compT, Tm.size, sizeL]
      omega
    · rw [if_neg k1]
      by_cases hp : isPair t = true
      · have hs := pair_size hp
        have h1 := bodyN_size n (lftT t) (by omega)
        have h2 := bodyN_size n (rgtT t) (by omega)
        rw [if_pos hp]
        split
        · simp only [zeroTm, Tm.size, sizeL]; omega
        · split
          · simp only [zeroTm, Tm.size, sizeL]; omega
          · simp only [compT, Tm.size, sizeL]; omega
      · rw [if_neg hp]
        simp only
        omega
theorem bodyT_size (t : Tm) : (bodyT t).1.size ≤ 2 * t.size := bodyN_size _ _ (Nat.le_refl _)
/-- a term as a clause's body; what is wrong with it -/
def bodE (t : Tm) : Tm × Int := if checkT t ≠ 0 then (zeroTm, checkT t) else if (bodyT t).2 = false then (zeroTm, 13) else if checkT (bodyT t).1 ≠ 0 then (zeroTm, checkT (bodyT t).1) else ((bodyT t).1, 0)
def BodEPost (P : Nat → Prop) (r : Tm × Int) (w : World) (e : Ending) (w' : World) : Prop :=
  ∃ a c, e = .returned (.tuple #[.agg #[.int .i64 r.1.k, .int .i64 r.1.n, .string r.1.s, .slice a r.1.args.length c], .int .i64 r.2]) ∧
    IsTm w' (fun b => P b ∨ w.heap.size ≤ b) (.agg #[.int .i64 r.1.k, .int .i64 r.1.n, .string r.1.s, .slice a r.1.args.length c]) r.1 ∧ TopP w.heap.size a r.1 w' ∧ Below w.heap.size w w'
theorem zero_post {P : Nat → Prop} {w wr : World} {x : Int} (hb : Below w.heap.size w wr) : BodEPost P (zeroTm, x) w (.returned (.tuple #[.agg #[.int .i64 0, .int .i64 0, .string ⟨#[]⟩, .slice none 0 0], .int .i64 x])) (wr.setRow (w.heap.size + 1) #[.int .i64 0, .int .i64 0, .string ⟨#[]⟩, .slice none 0 0]) := by
  obtain ⟨f1, f2, f3⟩ := body_fin (P := P) (Q := fun _ => False) (r := zeroTm) (a := none) (c := 0) (cs := #[.int .i64 0, .int .i64 0, .string ⟨#[]⟩, .slice none 0 0]) (IsTm.mk' (t := zeroTm) (IsSl.nil wr _ none 0)) (fun _ h => h.elim) (fun h => absurd rfl h) hb
  exact ⟨_, _, rfl, f1, f2, f3⟩

set_option maxRecDepth 100000 in
set_option maxHeartbeats 4000000 in
theorem goal_Body (t : Tm) (v : Value) (P : Nat → Prop) (w : World) (hM : t.size ≤ 100000000) (h : IsTm w P v t) : Calls Try.prog 22 #[v] w (BodEPost P (bodE t) w) := by
  have hl := h.lt
  obtain ⟨a, cap, rfl⟩ := h.form
  obtain ⟨t0, t1, tsz, tbl⟩ := two w (.cells #[.int .i64 t.k, .int .i64 t.n, .string t.s, .slice a t.args.length cap] 27 (0, 0)) (.cells #[.int .i64 0, .int .i64 0, .string ⟨#[]⟩, .slice none 0 0] 27 (0, 0))
  have T0 := Lib.hid t0
  have T1 := Lib.hid t1
  have TS := Lib.hid tsz
  have TB := Lib.hid tbl
  have HL := Lib.hid hl
  have hbs := bodyT_size t
  clear h hl t0 t1 tsz tbl
  by_cases c1 : checkT t = 0
  case neg =>
    have b1 : (checkT t != 0) = true := by simpa using c1
    have HR := Lib.hid (show bodE t = (zeroTm, checkT t) by unfold bodE; rw [if_pos c1])
    clear c1
    go_enter Try.func22, Try.ntmps22
    go_wp2_with fail
    refine (tm_Check t _ _ _ (by omega) (HL.out.below TB.out)).mono ?_
    rintro e2 w2 ⟨rfl, hb2⟩
    have R2 := Lib.hid ((hb2.block (w.heap.size + 1) (by have := TS.out; omega)).trans T1.out)
    have B2 := Lib.hid (TB.out.trans (hb2.mono TB.out.size))
    clear hb2
    go_wp2_with (with_reducible show wpList _ _ _ (⟨none, .store _ (.tmp 2) _, _, _, _, _⟩ :: _) _ _
                 refine wpList_store_row rfl 27 (.tmp 2) (.tmp 12) rfl (w.heap.size + 1) #[.int .i64 0, .int .i64 0, .string ⟨#[]⟩, .slice none 0 0] rfl rfl _ _ R2.out size_term rfl (one4 _ _ _ _ _ _) ?_)
    have hz := setRow_heap w2 (w.heap.size + 1) _ (#[.int .i64 0, .int .i64 0, .string ⟨#[]⟩, .slice none 0 0] : Array Value) _ _ R2.out
    exact bodyPost_ret (v := .tuple #[.agg #[.int .i64 0, .int .i64 0, .string ⟨#[]⟩, .slice none 0 0], .int .i64 (checkT t)]) (Push.results_cell_tmp Try.results22 _ _ (w.heap.size + 1) _ _ _ _ _ rfl (by simp) hz Try.underlying27 rfl (by kernel_rfl)) rfl (by rw [HR.out]; exact zero_post B2.out)
  have hr : bodE t = if (bodyT t).2 = false then (zeroTm, 13) else if checkT (bodyT t).1 ≠ 0 then (zeroTm, checkT (bodyT t).1) else ((bodyT t).1, 0) := by unfold bodE; rw [if_neg (by simpa using c1)]
  have hcb : ∀ (v : Value) (P : Nat → Prop) (w : World), IsTm w P v t → Calls Try.prog 63 #[v] w (BodyPost P (bodyT t) w) := fun v P w h => goal_body t.size t v P w (Nat.le_refl _) (by omega) h
  generalize bodyT t = R at *
  obtain ⟨B, ok⟩ := R
  simp only at hr hbs
  have HCB := Lib.hid hcb
  have HR := Lib.hid hr
  have b1 : ((0 : Int) != 0) = false := by decide
  have C1 := Lib.hid c1
  clear hcb hr c1
  cases ok
  · go_enter Try.func22, Try.ntmps22
    go_wp2_with fail
    refine (tm_Check t _ _ _ (by omega) (HL.out.below TB.out)).mono ?_
    rintro e2 w2 ⟨rfl, hb2⟩
    rw [C1.out]
    obtain ⟨x0, x1, x2, x3⟩ := row4 ((hb2.block w.heap.size (by have := TS.out; omega)).trans T0.out)
    have R2 := Lib.hid ((hb2.block (w.heap.size + 1) (by have := TS.out; omega)).trans T1.out)
    have B2 := Lib.hid (TB.out.trans (hb2.mono TB.out.size))
    have hz2 : w.heap.size + 2 ≤ w2.heap.size := by have := hb2.size; have := TS.out; omega
    clear hb2
    go_wp2_with fail
    refine (HCB.out _ _ _ (HL.out.below B2.out)).mono ?_
    rintro e3 w3 ⟨a3, c3, rfl, hi3, -, hb3⟩
    have R3 := Lib.hid ((hb3.block (w.heap.size + 1) (by omega)).trans R2.out)
    have B3 := Lib.hid (B2.out.trans (hb3.mono B2.out.size))
    have hz3 : w.heap.size + 2 ≤ w3.heap.size := by have := hb3.size; omega
    clear hb3 x0 x1 x2 x3
    go_wp2_with (with_reducible show wpList _ _ _ (⟨none, .store _ (.tmp 2) _, _, _, _, _⟩ :: _) _ _
                 refine wpList_store_row rfl 27 (.tmp 2) (.tmp 21) rfl (w.heap.size + 1) #[.int .i64 0, .int .i64 0, .string ⟨#[]⟩, .slice none 0 0] rfl rfl _ _ ((heap_alloc_old _ _ (by omega)).trans R3.out) size_term rfl (one4 _ _ _ _ _ _) ?_)
    have hz := setRow_heap (w3.alloc (.cells #[.int .i64 B.k, .int .i64 B.n, .string B.s, .slice a3 B.args.length c3] 27 (0, 0))) (w.heap.size + 1) _ (#[.int .i64 0, .int .i64 0, .string ⟨#[]⟩, .slice none 0 0] : Array Value) _ _ ((heap_alloc_old _ _ (by omega)).trans R3.out)
    exact bodyPost_ret (v := .tuple #[.agg #[.int .i64 0, .int .i64 0, .string ⟨#[]⟩, .slice none 0 0], .int .i64 13]) (Push.results_cell_tmp Try.results22 _ _ (w.heap.size + 1) _ _ _ _ _ rfl (by simp) hz Try.underlying27 rfl (by kernel_rfl)) rfl (by rw [HR.out, if_pos trivial]; exact zero_post (B3.out.alloc B3.out.size _))
  · have hr2 : bodE t = if checkT B ≠ 0 then (zeroTm, checkT B) else (B, 0) := by rw [HR.out, if_neg (by decide)]
    have HR2 := Lib.hid hr2
    clear hr2
    by_cases c2 : checkT B = 0
    all_goals
      go_enter Try.func22, Try.ntmps22
      go_wp2_with fail
      refine (tm_Check t _ _ _ (by omega) (HL.out.below TB.out)).mono ?_
      rintro e2 w2 ⟨rfl, hb2⟩
      rw [C1.out]
      obtain ⟨x0, x1, x2, x3⟩ := row4 ((hb2.block w.heap.size (by have := TS.out; omega)).trans T0.out)
      have R2 := Lib.hid ((hb2.block (w.heap.size + 1) (by have := TS.out; omega)).trans T1.out)
      have B2 := Lib.hid (TB.out.trans (hb2.mono TB.out.size))
      have hz2 : w.heap.size + 2 ≤ w2.heap.size := by have := hb2.size; have := TS.out; omega
      clear hb2
      go_wp2_with fail
      refine (HCB.out _ _ _ (HL.out.below B2.out)).mono ?_
      rintro e3 w3 ⟨a3, c3, rfl, hi3, ht3, hb3⟩
      have R3 := Lib.hid ((hb3.block (w.heap.size + 1) (by omega)).trans R2.out)
      have B3 := Lib.hid (B2.out.trans (hb3.mono B2.out.size))
      have hz3 : w.heap.size + 2 ≤ w3.heap.size := by have := hb3.size; omega
      have hal : Below w3.heap.size w3 (w3.alloc (.cells #[.int .i64 B.k, .int .i64 B.n, .string B.s, .slice a3 B.args.length c3] 27 (0, 0))) := (Below.refl _ _).alloc (Nat.le_refl _) _
      have hnw := heap_alloc_new w3 (.cells #[.int .i64 B.k, .int .i64 B.n, .string B.s, .slice a3 B.args.length c3] 27 (0, 0))
      have hsz : (w3.alloc (.cells #[.int .i64 B.k, .int .i64 B.n, .string B.s, .slice a3 B.args.length c3] 27 (0, 0))).heap.size = w3.heap.size + 1 := by simp
      have HAL := Lib.hid hal
      have HNW := Lib.hid hnw
      have HSZ := Lib.hid hsz
      have HI3 := Lib.hid hi3
      have HT3 := Lib.hid ht3
      clear hb3 x0 x1 x2 x3 hal hnw hsz hi3 ht3
      go_wp2_with fail
      refine (tm_Check B _ _ _ (by omega) (HI3.out.below HAL.out)).mono ?_
      rintro e4 w4 ⟨rfl, hb4⟩
      have hd4 := HAL.out.trans (hb4.mono HAL.out.size)
      have R4 := Lib.hid ((hd4.block (w.heap.size + 1) (by omega)).trans R3.out)
      have B4 := Lib.hid (B3.out.trans (hd4.mono B3.out.size))
      obtain ⟨x0, x1, x2, x3⟩ := row4 ((hb4.block w3.heap.size (by have := HSZ.out; omega)).trans HNW.out)
      have HD4 := Lib.hid hd4
      clear hb4 hd4
    · rw [c2]
      go_wp2_with (with_reducible show wpList _ _ _ (⟨none, .store _ (.tmp 2) _, _, _, _, _⟩ :: _) _ _
                   refine wpList_store_row rfl 27 (.tmp 2) (.tmp 28) rfl (w.heap.size + 1) #[.int .i64 B.k, .int .i64 B.n, .string B.s, .slice a3 B.args.length c3] rfl rfl _ _ R4.out size_term rfl (one4 _ _ _ _ _ _) ?_)
      have hz := setRow_heap w4 (w.heap.size + 1) _ (#[.int .i64 B.k, .int .i64 B.n, .string B.s, .slice a3 B.args.length c3] : Array Value) _ _ R4.out
      obtain ⟨f1, f2, f3⟩ := body_fin (P := P) (r := B) (cs := #[.int .i64 B.k, .int .i64 B.n, .string B.s, .slice a3 B.args.length c3]) (HI3.out.below HD4.out) (fun b h => by
        rcases h with h | h
        · exact .inl h
        · right; omega) (fun h => (let ⟨g, e, hg, cur, hc⟩ := HT3.out h; ⟨g, e, by omega, cur, (HD4.out.block g (Array.getElem?_eq_some_iff.1 hc).1).trans hc⟩)) B4.out
      exact bodyPost_ret (v := .tuple #[.agg #[.int .i64 B.k, .int .i64 B.n, .string B.s, .slice a3 B.args.length c3], .int .i64 0]) (Push.results_cell_tmp Try.results22 _ _ (w.heap.size + 1) _ _ _ _ _ rfl (by simp) hz Try.underlying27 rfl (by kernel_rfl)) rfl (by rw [HR2.out, if_neg (by simpa using c2)]; exact ⟨_, _, rfl, f1, f2, f3⟩)
    · have b2 : (checkT B != 0) = true := by simpa using c2
      go_wp2_with (with_reducible show wpList _ _ _ (⟨none, .store _ (.tmp 2) _, _, _, _, _⟩ :: _) _ _
                   refine wpList_store_row rfl 27 (.tmp 2) (.tmp 26) rfl (w.heap.size + 1) #[.int .i64 0, .int .i64 0, .string ⟨#[]⟩, .slice none 0 0] rfl rfl _ _ R4.out size_term rfl (one4 _ _ _ _ _ _) ?_)
      have hz := setRow_heap w4 (w.heap.size + 1) _ (#[.int .i64 0, .int .i64 0, .string ⟨#[]⟩, .slice none 0 0] : Array Value) _ _ R4.out
      exact bodyPost_ret (v := .tuple #[.agg #[.int .i64 0, .int .i64 0, .string ⟨#[]⟩, .slice none 0 0], .int .i64 (checkT B)]) (Push.results_cell_tmp Try.results22 _ _ (w.heap.size + 1) _ _ _ _ _ rfl (by simp) hz Try.underlying27 rfl (by kernel_rfl)) rfl (by rw [HR2.out, if_pos c2]; exact zero_post B4.out)
end Go.Proofs.Ytmlceamcpelklaa.Tms
namespace Go.Proofs.Ytmlceamcpelklaa.Tms
open Go Go.RowKit Go.Proofs.Ytmlceamcpelklaa.Reg
set_option linter.unusedVariables false

def ruleS : ByteArray := ⟨#[58, 45]⟩
def isRule (t : Tm) : Bool := t.k == 4 && (t.s.toList == [58, 45] && t.args.length == 2)
def headC (t : Tm) : Tm := if isRule t = true then lftT t else t
def restC (t : Tm) : Tm := if isRule t = true then rgtT t else atomT (⟨#[116, 114, 117, 101]⟩ : ByteArray)
/-- a term as a clause: head, body, what is wrong, with what -/
def clsT (t : Tm) : Tm × Tm × Int × Tm := if checkT t ≠ 0 then (zeroTm, zeroTm, checkT t, zeroTm) else if (headC t).k = 1 then (zeroTm, zeroTm, 12, zeroTm) else if (headC t).k = 2 then (zeroTm, zeroTm, 13, headC t)
  else if (bodE (restC t)).2 = 13 then (zeroTm, zeroTm, 13, restC t) else if (bodE (restC t)).2 ≠ 0 then (zeroTm, zeroTm, (bodE (restC t)).2, zeroTm) else (headC t, (bodE (restC t)).1, 0, zeroTm)
abbrev aggT (t : Tm) (a : Option Addr) (c : Nat) : Value := .agg #[.int .i64 t.k, .int .i64 t.n, .string t.s, .slice a t.args.length c]
abbrev rowT (t : Tm) (a : Option Addr) (c : Nat) : Obj := .cells #[.int .i64 t.k, .int .i64 t.n, .string t.s, .slice a t.args.length c] 27 (0, 0)
abbrev zeroC : Array Value := #[.int .i64 0, .int .i64 0, .string ⟨#[]⟩, .slice none 0 0]
def ClsPost (P : Nat → Prop) (r : Tm × Tm × Int × Tm) (w : World) (e : Ending) (w' : World) : Prop :=
  ∃ a1 c1 a2 c2 a3 c3, e = .returned (.tuple #[aggT r.1 a1 c1, aggT r.2.1 a2 c2, .int .i64 r.2.2.1, aggT r.2.2.2 a3 c3]) ∧
    IsTm w' (fun b => P b ∨ w.heap.size ≤ b) (aggT r.1 a1 c1) r.1 ∧ IsTm w' (fun b => P b ∨ w.heap.size ≤ b) (aggT r.2.1 a2 c2) r.2.1 ∧ IsTm w' (fun b => P b ∨ w.heap.size ≤ b) (aggT r.2.2.2 a3 c3) r.2.2.2 ∧ Below w.heap.size w w'
/-- the call's variables: the argument's, and the three results' -/
structure ClsCtx (w : World) (t : Tm) (a : Option Addr) (c : Nat) (c1 c2 c3 : Array Value) (wr : World) : Prop where
  box : wr.heap[w.heap.size]? = some (rowT t a c)
  r1 : wr.heap[w.heap.size + 1]? = some (.cells c1 27 (0, 0))
  r2 : wr.heap[w.heap.size + 2]? = some (.cells c2 27 (0, 0))
  r3 : wr.heap[w.heap.size + 3]? = some (.cells c3 27 (0, 0))
  bel : Below w.heap.size w wr
  big : w.heap.size + 4 ≤ wr.heap.size
section
variable {w : World} {t : Tm} {a : Option Addr} {c : Nat} {c1 c2 c3 : Array Value} {wr w' : World}
theorem ClsCtx.on (h : ClsCtx w t a c c1 c2 c3 wr) (hb : Below (w.heap.size + 4) wr w') : ClsCtx w t a c c1 c2 c3 w' :=
  ⟨(hb.block _ (by omega)).trans h.box, (hb.block _ (by omega)).trans h.r1, (hb.block _ (by omega)).trans h.r2, (hb.block _ (by omega)).trans h.r3, h.bel.trans (hb.mono (by omega)), Nat.le_trans h.big hb.size⟩
theorem ClsCtx.below (h : ClsCtx w t a c c1 c2 c3 wr) (hb : Below wr.heap.size wr w') : ClsCtx w t a c c1 c2 c3 w' := h.on (hb.mono h.big)
theorem ClsCtx.set1 (h : ClsCtx w t a c c1 c2 c3 wr) (cs : Array Value) : ClsCtx w t a c cs c2 c3 (wr.setRow (w.heap.size + 1) cs) :=
  ⟨(setRow_other _ _ _ _ (by omega)).trans h.box, setRow_heap _ _ _ _ _ _ h.r1, (setRow_other _ _ _ _ (by omega)).trans h.r2, (setRow_other _ _ _ _ (by omega)).trans h.r3, below_setRow h.bel (by omega) _, by simpa using h.big⟩
theorem ClsCtx.set2 (h : ClsCtx w t a c c1 c2 c3 wr) (cs : Array Value) : ClsCtx w t a c c1 cs c3 (wr.setRow (w.heap.size + 2) cs) :=
  ⟨(setRow_other _ _ _ _ (by omega)).trans h.box, (setRow_other _ _ _ _ (by omega)).trans h.r1, setRow_heap _ _ _ _ _ _ h.r2, (setRow_other _ _ _ _ (by omega)).trans h.r3, below_setRow h.bel (by omega) _, by simpa using h.big⟩
theorem ClsCtx.set3 (h : ClsCtx w t a c c1 c2 c3 wr) (cs : Array Value) : ClsCtx w t a c c1 c2 cs (wr.setRow (w.heap.size + 3) cs) :=
  ⟨(setRow_other _ _ _ _ (by omega)).trans h.box, (setRow_other _ _ _ _ (by omega)).trans h.r1, (setRow_other _ _ _ _ (by omega)).trans h.r2, setRow_heap _ _ _ _ _ _ h.r3, below_setRow h.bel (by omega) _, by simpa using h.big⟩
end
theorem cls_start (w : World) (t : Tm) (a : Option Addr) (c : Nat) :
    ClsCtx w t a c zeroC zeroC zeroC ((((w.alloc (rowT t a c)).alloc (.cells zeroC 27 (0, 0))).alloc (.cells zeroC 27 (0, 0))).alloc (.cells zeroC 27 (0, 0))) := by
  obtain ⟨t0, t1, tsz, tbl⟩ := two w (rowT t a c) (.cells zeroC 27 (0, 0))
  generalize (w.alloc (rowT t a c)).alloc (.cells zeroC 27 (0, 0)) = w2 at *
  obtain ⟨u0, u1, usz, ubl⟩ := two w2 (.cells zeroC 27 (0, 0)) (.cells zeroC 27 (0, 0))
  generalize (w2.alloc (.cells zeroC 27 (0, 0))).alloc (.cells zeroC 27 (0, 0)) = w4 at *
  rw [tsz] at u0 u1
  exact ⟨(ubl.block _ (by omega)).trans t0, (ubl.block _ (by omega)).trans t1, u0, u1, tbl.trans (ubl.mono (by omega)), by omega⟩
/-- four results: three structs in rows, and a slot -/
theorem results_four {P : Program} {fn : Func} {p q r s : Tmp} {ty : TypeId} (h : fn.results = #[.cell p ty, .cell q ty, .tmp r, .cell s ty]) (tmps : Array Value) (w : World) (g1 g2 g3 : Nat) (t : TypeId) (x1 x2 x3 : Array Value) (fr : Nat × Nat) (d : TypeDesc) (x : Value)
    (h1 : tmps.getD p undef = .pointer (some ⟨g1, 0, none⟩)) (h2 : tmps.getD q undef = .pointer (some ⟨g2, 0, none⟩)) (hx : tmps.getD r undef = x) (h3 : tmps.getD s undef = .pointer (some ⟨g3, 0, none⟩))
    (w1 : w.heap[g1]? = some (.cells x1 t fr)) (w2 : w.heap[g2]? = some (.cells x2 t fr)) (w3 : w.heap[g3]? = some (.cells x3 t fr)) (hu : P.underlying ty = some d) (hd : (match d with | .struct _ | .array _ _ => true | _ => false) = true)
    (i1 : (P.info? ty).map (·.size) = some x1.size) (i2 : (P.info? ty).map (·.size) = some x2.size) (i3 : (P.info? ty).map (·.size) = some x3.size) :
    (results fn tmps).run P w = .ok (.tuple #[.agg x1, .agg x2, x, .agg x3]) w := by
  have h1' : tmps[p]?.getD undef = .pointer (some ⟨g1, 0, none⟩) := by simpa using h1
  have h2' : tmps[q]?.getD undef = .pointer (some ⟨g2, 0, none⟩) := by simpa using h2
  have h3' : tmps[s]?.getD undef = .pointer (some ⟨g3, 0, none⟩) := by simpa using h3
  have hx' : tmps[r]?.getD undef = x := by simpa using hx
  simp [results, h, h1', h2', h3', hx', asAddr, run_loadVar_row w g1 t ty x1 fr d w1 hu hd i1, run_loadVar_row w g2 t ty x2 fr d w2 hu hd i2, run_loadVar_row w g3 t ty x3 fr d w3 hu hd i3]
theorem zero_is (w : World) (P : Nat → Prop) : IsTm w P (aggT zeroTm none 0) zeroTm := IsTm.mk' (t := zeroTm) (IsSl.nil w P none 0)

/-- the code behind so many parts -/
def dropSeq : Nat → Code → Code
  | 0, c => c
  | n + 1, .seq _ c => dropSeq n c
  | _ + 1, c => c
def clsRest (f : Func) : Code := dropSeq 6 (f.body.getD .skip)
theorem rule_args {t : Tm} (h : isRule t = true) : t.k = 4 ∧ (t.s.toList == [58, 45]) = true ∧ t.args = [lftT t, rgtT t] := by
  simp only [isRule, Bool.and_eq_true, beq_iff_eq] at h
  obtain ⟨h1, h2, h3⟩ := h
  refine ⟨h1, by simpa using h2, ?_⟩
  unfold lftT rgtT
  match t.args, h3 with
  | [x, y], _ => rfl
theorem rule_size {t : Tm} (h : isRule t = true) : (lftT t).size + (rgtT t).size + 1 = t.size := by
  have := (rule_args h).2.2
  obtain ⟨k, n, s, a⟩ := t
  simp only [Tm.args] at this
  simp only [Tm.size]
  generalize lftT (.mk k n s a) = x at *
  generalize rgtT (.mk k n s a) = y at *
  subst this
  simp [sizeL]
end Go.Proofs.Ytmlceamcpelklaa.Tms
