
/-
  Layer 19: comp.Back, walked over the program.
-/
import Derived.Test.YtibjcfbilkkmkaaTak
import Derived.Test.YtibjcfbilkkmkaaCpl
import Derived.Test.YtibjcfbilkkmkaaChd
import Derived.Test.YtibjcfbilkkmkaaCodW
namespace Go.Proofs.Ytibjcfbilkkmkaa.Tms
open Go Go.RowKit Go.Proofs.Ytibjcfbilkkmkaa.Reg Go.Proofs.Ytibjcfbilkkmkaa.Rws Go.Proofs.Ytibjcfbilkkmkaa.Cod
set_option linter.unusedVariables false
set_option linter.unusedSimpArgs false

theorem skip_sk {L : List Ins} {a : Nat} (h : ¬ skip L a < 0) : ∃ j, sk (L.drop a) 1 = some j ∧ skip L a = ((a + j : Nat) : Int) := by
  rw [skip_nat] at h ⊢
  unfold skA at h ⊢
  cases hs : sk (L.drop a) 1 with
  | none => rw [hs] at h; simp at h
  | some j => exact ⟨j, rfl, by simp⟩
theorem pfw_sk {L : List Ins} : ∀ {n a : Nat}, pfw L n = some a → sk L n = some a
  | 0, a, h => by simp only [pfw, Option.some.injEq] at h; subst h; exact sk_zero L
  | n + 1, a, h => by
    unfold pfw at h
    cases hp : pfw L n with
    | none => rw [hp] at h; cases h
    | some b =>
      rw [hp] at h
      simp only at h
      split at h
      · cases h
      · rename_i hs
        obtain ⟨j, h1, h2⟩ := skip_sk hs
        rw [h2] at h
        simp only [Option.some.injEq] at h
        subst h
        have := sk_join L n 1 b j (pfw_sk hp) h1
        rw [this, Int.toNat_natCast]
theorem slotsN_le : ∀ (l : List Ins) (m n : Nat), slotsN l m = some n → n ≤ m + l.length
  | [], m, n, h => by simp only [slotsN, Option.some.injEq] at h; subst h; simp
  | i :: l, m, n, h => by
    simp only [slotsN] at h
    split at h
    · split at h
      · have := slotsN_le l _ n h; simp only [List.length_cons]; omega
      · cases h
    · split at h
      · cases h
      · have := slotsN_le l _ n h; simp only [List.length_cons]; omega
/-- a code that may be -/
structure CodOk (c : Cod) (a j s : Nat) : Prop where
  len : c.l.length ≤ 20000
  args : 0 ≤ c.args ∧ c.args ≤ 255
  name : c.name.size ≤ 1000
  sk : sk c.l c.args.toNat = some a
  body : (a : Int) = c.body
  rest : Cod.sk (c.l.drop a) 1 = some j
  all : a + j = c.l.length
  ok : c.l.all Ins.ok = true
  slots : slotsN c.l 0 = some s ∧ (s : Int) = c.slots
theorem check_facts {c : Cod} (h : check c = 0) : ∃ a j s, CodOk c a j s := by
  unfold check at h
  split at h
  · cases h
  rename_i h1
  split at h
  · cases h
  rename_i h2
  cases hp : pfw c.l c.args.toNat with
  | none => rw [hp] at h; cases h
  | some a =>
    rw [hp] at h
    simp only at h
    split at h
    · rename_i ht
      simp only [tailB, Bool.and_eq_true, decide_eq_true_eq] at ht
      obtain ⟨t1, t2, t3, t4⟩ := ht
      obtain ⟨j, e1, e2⟩ := skip_sk (L := c.l) (a := a) (by rw [t2]; omega)
      rw [t2] at e2
      unfold slotsOk at t4
      cases hs : slotsN c.l 0 with
      | none => rw [hs] at t4; cases t4
      | some s =>
        rw [hs] at t4
        exact ⟨a, j, s, by omega, by omega, by omega, pfw_sk hp, t1, e1, by omega, t3, hs, by simpa using t4⟩
    · cases h
theorem CodOk.slotLe {c : Cod} {a j s : Nat} (h : CodOk c a j s) : 0 ≤ c.slots ∧ c.slots ≤ 20000 := by
  have := slotsN_le _ _ _ h.slots.1
  have := h.slots.2
  have := h.len
  omega

/-- the arguments that a code tells -/
def bkA (c : Cod) : List Tm × List Ins × Int := takeN (takeT c.l.length) c.args.toNat c.l c.slots
def bkH (c : Cod) : Tm := if 0 < c.args then compT c.name (bkA c).1 else atomT c.name
def bkB (c : Cod) : Tm := (takeT c.l.length (bkA c).2.1 (bkA c).2.2).1
def backE (c : Cod) : Tm × Tm × Int := if check c ≠ 0 then (.mk 0 0 ⟨#[]⟩ [], .mk 0 0 ⟨#[]⟩ [], check c) else if 2000 < max (deepT (bkH c)) (deepT (bkB c)) then (.mk 0 0 ⟨#[]⟩ [], .mk 0 0 ⟨#[]⟩ [], 4) else (bkH c, bkB c, 0)
def BkPost (r : Tm × Tm × Int) (w : World) (e : Ending) (w' : World) : Prop :=
  ∃ a1 c1 a2 c2, e = .returned (.tuple #[aggT r.1 a1 c1, aggT r.2.1 a2 c2, .int .i64 r.2.2]) ∧ IsTm w' (fun b => w.heap.size ≤ b) (aggT r.1 a1 c1) r.1 ∧ IsTm w' (fun b => w.heap.size ≤ b) (aggT r.2.1 a2 c2) r.2.1 ∧ Below w.heap.size w w'
/-- three results: two structs in rows, and a slot -/
theorem results_three {P : Program} {fn : Func} {p q r : Tmp} {ty : TypeId} (h : fn.results = #[.cell p ty, .cell q ty, .tmp r]) (tmps : Array Value) (w : World) (g1 g2 : Nat) (t : TypeId) (x1 x2 : Array Value) (fr : Nat × Nat) (d : TypeDesc) (x : Value)
    (h1 : tmps.getD p undef = .pointer (some ⟨g1, 0, none⟩)) (h2 : tmps.getD q undef = .pointer (some ⟨g2, 0, none⟩)) (hx : tmps.getD r undef = x)
    (w1 : w.heap[g1]? = some (.cells x1 t fr)) (w2 : w.heap[g2]? = some (.cells x2 t fr)) (hu : P.underlying ty = some d) (hd : (match d with | .struct _ | .array _ _ => true | _ => false) = true)
    (i1 : (P.info? ty).map (·.size) = some x1.size) (i2 : (P.info? ty).map (·.size) = some x2.size) :
    (results fn tmps).run P w = .ok (.tuple #[.agg x1, .agg x2, x]) w := by
  have h1' : tmps[p]?.getD undef = .pointer (some ⟨g1, 0, none⟩) := by simpa using h1
  have h2' : tmps[q]?.getD undef = .pointer (some ⟨g2, 0, none⟩) := by simpa using h2
  have hx' : tmps[r]?.getD undef = x := by simpa using hx
  simp [results, h, h1', h2', hx', asAddr, run_loadVar_row w g1 t ty x1 fr d w1 hu hd i1, run_loadVar_row w g2 t ty x2 fr d w2 hu hd i2]
theorem keeps_row (w : World) (g : Nat) (cs : Array Value) : Keeps w (w.setRow g cs) (fun b => b = g) := ⟨rfl, rfl, rfl, by simp, fun _ _ hb => setRow_other _ _ _ _ hb⟩
abbrev zero4 : Array Value := #[.int .i64 0, .int .i64 0, .string ⟨#[]⟩, .slice none 0 0]
/-- the call's first variables -/
structure BkCtx (w wr : World) : Prop where
  hr : wr.heap[w.heap.size + 1]? = some (.cells zero4 30 (0, 0))
  br : wr.heap[w.heap.size + 1 + 1]? = some (.cells zero4 30 (0, 0))
  bel : Below w.heap.size w wr
  big : w.heap.size + 3 ≤ wr.heap.size
theorem BkCtx.on {w wr w' : World} (h : BkCtx w wr) (hb : Below wr.heap.size wr w') : BkCtx w w' := by
  have := h.big
  exact ⟨(hb.block _ (by omega)).trans h.hr, (hb.block _ (by omega)).trans h.br, h.bel.trans (hb.mono h.bel.size), Nat.le_trans h.big hb.size⟩
theorem BkCtx.keeps {w wr w' : World} {M : Nat → Prop} (h : BkCtx w wr) (hb : Keeps wr w' M) (hM : ∀ b, M b → w.heap.size + 3 ≤ b) : BkCtx w w' := by
  have := h.big
  have keep : ∀ b, b < w.heap.size + 3 → w'.heap[b]? = wr.heap[b]? := fun b hlt => hb.block b (by omega) fun e => by have := hM b e; omega
  exact ⟨(keep _ (by omega)).trans h.hr, (keep _ (by omega)).trans h.br, h.bel.trans ⟨hb.os, hb.tape, hb.output, hb.size, fun b hlt => keep b (by omega)⟩, Nat.le_trans h.big hb.size⟩
theorem bk_end {w wr : World} {H B : Tm} {x : Int} {a1 a2 : Option Addr} {c1 c2 : Nat} (h : BkCtx w wr) (h1 : IsTm wr (fun b => w.heap.size + 3 ≤ b) (aggT H a1 c1) H) (h2 : IsTm wr (fun b => w.heap.size + 3 ≤ b) (aggT B a2 c2) B) (cs cs' : Array Value) :
    BkPost (H, B, x) w (.returned (.tuple #[aggT H a1 c1, aggT B a2 c2, .int .i64 x])) ((wr.setRow (w.heap.size + 1) cs).setRow (w.heap.size + 1 + 1) cs') := by
  have ho : ∀ b, w.heap.size + 3 ≤ b → ((wr.setRow (w.heap.size + 1) cs).setRow (w.heap.size + 1 + 1) cs').heap[b]? = wr.heap[b]? := fun b hb => (setRow_other _ _ _ _ (by omega)).trans (setRow_other _ _ _ _ (by omega))
  exact ⟨a1, c1, a2, c2, rfl, h1.imp (fun b hb => by omega) fun b hb _ => ho b hb, h2.imp (fun b hb => by omega) fun b hb _ => ho b hb, below_setRow (below_setRow h.bel (by omega) _) (by omega) _⟩
def dpL (ts : List Tm) : Int := if ts.isEmpty then 0 else 1 + (deepL ts : Int)
theorem dpL_snoc (ts : List Tm) (t : Tm) : max (dpL ts) (2 + ((deepT t : Nat) : Int) - 1) = dpL (ts ++ [t]) := by
  have e : dpL (ts ++ [t]) = 1 + ((max (deepL ts) (deepT t) : Nat) : Int) := by
    unfold dpL
    rw [if_neg (by simp), deepL_app]
    simp [deepL]
  rw [e]
  unfold dpL
  cases ts with
  | nil => simp [deepL]; have := deepT_pos t; omega
  | cons x l => rw [if_neg (by simp)]; omega
/-- behind r arguments -/
structure BkRow (w : World) (kb g n A r : Nat) (lv : Value) (c : Cod) (wr : World) : Prop where
  le : r ≤ n
  at_ : ∃ x d, sk c.l r = some x ∧ sk (c.l.drop x) (n - r) = some d ∧ x + d = A ∧ wr.heap[kb]? = some (tkO lv (x : Int) (takeN (takeT c.l.length) r c.l c.slots).2.2 (dpL (takeN (takeT c.l.length) r c.l c.slots).1))
  fill : Fill wr g n (kb + 2) (takeN (takeT c.l.length) r c.l c.slots).1
  ctx : BkCtx w wr
  box : wr.heap[kb + 1]? = some (.cells #[.int .i64 4, .int .i64 0, .string c.name, .slice (some ⟨g, 0, none⟩) n n] 30 (0, 0))
def BkRel (w : World) (kb g n A : Nat) (lv : Value) (c : Cod) (vi : Value) (wr : World) : Prop := ∃ r : Nat, vi = .int .i64 r ∧ BkRow w kb g n A r lv c wr
set_option maxRecDepth 100000 in
set_option maxHeartbeats 8000000 in
theorem go_Back (c : Cod) (v : Value) (w : World) (hv : InsSl w v c.l) : Calls Try.prog 15 #[codVal c v] w (BkPost (backE c) w) := by
  obtain ⟨qa, qc, rfl⟩ := hv.form
  obtain ⟨t0, t1, t2, tsz, tbl⟩ := three w (.cells #[.string c.name, .int .i64 c.args, .int .i64 c.slots, .int .i64 c.body, .slice qa c.l.length qc] 38 (0, 0)) (.cells zero4 30 (0, 0)) (.cells zero4 30 (0, 0))
  have hcx : BkCtx w (((w.alloc (.cells #[.string c.name, .int .i64 c.args, .int .i64 c.slots, .int .i64 c.body, .slice qa c.l.length qc] 38 (0, 0))).alloc (.cells zero4 30 (0, 0))).alloc (.cells zero4 30 (0, 0))) := ⟨t1, t2, tbl, by omega⟩
  obtain ⟨x0, x1, x2, x3, x4⟩ := row5 t0
  have HV := Lib.hid hv
  have HCX := Lib.hid hcx
  have HT0 := Lib.hid t0
  clear hv hcx t0 t1 t2 tsz tbl
  go_enter Try.func15, Try.ntmps15
  go_wp2_with fail
  refine (go_check c _ _ (HV.out.below HCX.out.bel)).mono ?_
  rintro e2 w2 ⟨rfl, hb2⟩
  have HT2 := Lib.hid ((hb2.block w.heap.size (by have := HCX.out.big; omega)).trans HT0.out)
  replace HCX := Lib.hid (HCX.out.on hb2)
  clear hb2 x0 x1 x2 x3 x4 HT0
  by_cases k1 : check c = 0
  case neg =>
    have b1 : (check c != 0) = true := by simpa using k1
    have hr : backE c = (.mk 0 0 ⟨#[]⟩ [], .mk 0 0 ⟨#[]⟩ [], check c) := if_pos k1
    have HR := Lib.hid hr
    clear hr k1
    go_wp2_with (first
      | (with_reducible show wpList _ _ _ (⟨none, .store _ (.tmp 2) _, _, _, _, _⟩ :: _) _ _
         refine wpList_store_row rfl 30 (.tmp 2) (.tmp 15) rfl (w.heap.size + 1) zero4 rfl rfl _ _ HCX.out.hr size_term rfl (one4 _ _ _ _ _ _) ?_)
      | (with_reducible show wpList _ _ _ (⟨none, .store _ (.tmp 3) _, _, _, _, _⟩ :: _) _ _
         refine wpList_store_row rfl 30 (.tmp 3) (.tmp 16) rfl (w.heap.size + 1 + 1) zero4 rfl rfl _ _ ((setRow_other _ _ _ _ (by omega)).trans HCX.out.br) size_term rfl (one4 _ _ _ _ _ _) ?_))
    have hz2 := setRow_heap (w2.setRow (w.heap.size + 1) zero4) (w.heap.size + 1 + 1) _ zero4 _ _ ((setRow_other _ _ _ _ (by omega)).trans HCX.out.br)
    have hz1 : ((w2.setRow (w.heap.size + 1) zero4).setRow (w.heap.size + 1 + 1) zero4).heap[w.heap.size + 1]? = _ := (setRow_other _ _ _ _ (by omega)).trans (setRow_heap w2 (w.heap.size + 1) _ zero4 _ _ HCX.out.hr)
    have hpost := bk_end (H := .mk 0 0 ⟨#[]⟩ []) (B := .mk 0 0 ⟨#[]⟩ []) (x := check c) (a1 := none) (a2 := none) (c1 := 0) (c2 := 0) HCX.out (IsTm.mk' (t := .mk 0 0 ⟨#[]⟩ []) (IsSl.nil _ _ none 0)) (IsTm.mk' (t := .mk 0 0 ⟨#[]⟩ []) (IsSl.nil _ _ none 0)) zero4 zero4
    exact bodyPost_ret (v := .tuple #[.agg zero4, .agg zero4, .int .i64 (check c)]) (results_three Try.results15 _ _ (w.heap.size + 1) (w.heap.size + 1 + 1) _ _ _ _ _ _ rfl rfl rfl hz1 hz2 Try.underlying30 rfl (by kernel_rfl) (by kernel_rfl)) rfl (by rw [HR.out]; exact hpost)
  rw [k1]
  -- REST
  obtain ⟨A, j, s, hok⟩ := check_facts k1
  have hsl := hok.slotLe
  have HOK := Lib.hid hok
  have hL : c.l.length ≤ 1000000 := by have := hok.len; omega
  have hbe : backE c = if 2000 < max (deepT (bkH c)) (deepT (bkB c)) then (.mk 0 0 ⟨#[]⟩ [], .mk 0 0 ⟨#[]⟩ [], 4) else (bkH c, bkB c, 0) := by unfold backE; rw [if_neg (by simpa using k1)]
  have HBE := Lib.hid hbe
  have HW2 : Hid (w.heap.size + 3 ≤ w2.heap.size) := Lib.hid HCX.out.big
  have hbr := (take_rest c.l.length).2 c.args.toNat c.l c.slots A hok.sk (by have := hok.all; omega)
  have hbf := (take_facts c.l.length).2 c.args.toNat c.l c.slots A hok.sk (by have := hok.all; omega)
  have HBR : Hid ((bkA c).2.1 = c.l.drop A) := Lib.hid hbr
  have HXB : Hid (0 ≤ (bkA c).2.2 ∧ (bkA c).2.2 ≤ 40000) := Lib.hid (by have h1 := hbf.1; have h2 := hbf.2.1; have := hok.len; have := hok.all; show 0 ≤ (takeN (takeT c.l.length) c.args.toNat c.l c.slots).2.2 ∧ (takeN (takeT c.l.length) c.args.toNat c.l c.slots).2.2 ≤ 40000; omega)
  have HDA : Hid (deepL (bkA c).1 ≤ 20000) := Lib.hid (by have h1 := hbf.2.2; have := hok.len; have := hok.all; show deepL (takeN (takeT c.l.length) c.args.toNat c.l c.slots).1 ≤ 20000; omega)
  have hag := hok.args
  clear hok hbe hbr hbf k1
  obtain ⟨x0, x1, x2, x3, x4⟩ := row5 HT2.out
  obtain ⟨t0, t1, tsz, tbl⟩ := two w2 (tkO (.slice qa c.l.length qc) 0 c.slots 0) (.cells #[.int .i64 3, .int .i64 0, .string c.name, .slice none 0 0] 30 (0, 0))
  obtain ⟨y0, y1, y2, y3, y4⟩ := row5 ((tbl.block w.heap.size (by have := HW2.out; omega)).trans HT2.out)
  obtain ⟨z0, z1, z2, z3, z4⟩ := row5 (((below_new w2 (tkO (.slice qa c.l.length qc) 0 c.slots 0)).block w.heap.size (by have := HW2.out; omega)).trans HT2.out)
  simp only [tkO] at t0 t1 tsz tbl y0 y1 y2 y3 y4 z0 z1 z2 z3 z4
  by_cases ka : 0 < c.args
  case neg =>
    have kz : c.args = 0 := by omega
    have hA0 : A = 0 := by have := HOK.out.sk; rw [kz] at this; simp [sk_zero] at this; exact this.symm
    have hbA : bkA c = ([], c.l, c.slots) := by unfold bkA; rw [kz]; rfl
    have hH : bkH c = atomT c.name := if_neg ka
    have HT0 := Lib.hid t0
    have HCX4 := Lib.hid (HCX.out.on tbl)
    have HT1 := Lib.hid t1
    have ka' : c.args ≤ 0 := by omega
    clear ka kz t0 t1 tsz
    rw [hH] at HBE
    clear hH
    have HBA := Lib.hid hbA
    have HA0 := Lib.hid hA0
    clear hbA hA0
    have HROW : Hid (((w2.alloc (.cells #[.slice qa c.l.length qc, .int .i64 0, .int .i64 c.slots, .int .i64 0] 84 (0, 0))).alloc (.cells #[.int .i64 3, .int .i64 0, .string c.name, .slice none 0 0] 30 (0, 0))).heap[w2.heap.size]? = some (tkO (.slice qa c.l.length qc) (A : Int) (bkA c).2.2 0)) := Lib.hid (by rw [HBA.out, HA0.out]; exact HT0.out)
    have HHB := HT1
    have HCXE := HCX4
    have HH : Hid (IsTm ((w2.alloc (.cells #[.slice qa c.l.length qc, .int .i64 0, .int .i64 c.slots, .int .i64 0] 84 (0, 0))).alloc (.cells #[.int .i64 3, .int .i64 0, .string c.name, .slice none 0 0] 30 (0, 0))) (fun b => w2.heap.size + 2 ≤ b) (aggT (atomT c.name) none 0) (atomT c.name)) := Lib.hid (IsTm.mk' (t := atomT c.name) (IsSl.nil _ _ none 0))
    have HDP : Hid (0 ≤ (0 : Int) ∧ (0 : Int) ≤ 2000000000000) := Lib.hid (by decide)
    have HMD : Hid (∀ d : Nat, 1 ≤ d → max (0 : Int) (1 + (d : Int) - 1) = ((max (deepT (atomT c.name)) d : Nat) : Int)) := Lib.hid fun d hd => by
      have : deepT (atomT c.name) = 1 := rfl
      rw [this]; omega
    clear HT0 HT1 HCX4 tbl
    go_wp2_with fail
    clear x0 x1 x2 x3 x4 y0 y1 y2 y3 y4 z0 z1 z2 z3 z4
    generalize (w2.alloc (.cells #[.slice qa c.l.length qc, .int .i64 0, .int .i64 c.slots, .int .i64 0] 84 (0, 0))).alloc (.cells #[.int .i64 3, .int .i64 0, .string c.name, .slice none 0 0] 30 (0, 0)) = wr at *
    refine (comp_take w2.heap.size (.slice qa c.l.length qc) c.l hL c.l.length A j (bkA c).2.2 (0) 1 wr (by simpa using HOK.out.rest) (by have := HOK.out.all; omega) (by have := HOK.out.all; omega) HXB.out.1 (by have := HXB.out.2; have := HOK.out.len; have := HOK.out.all; omega) (by decide) (by have := HOK.out.len; have := HOK.out.all; omega) HDP.out.1 HDP.out.2 HROW.out (HV.out.below HCXE.out.bel)).mono ?_
    rintro e7 w7 ⟨ab, cb, rfl, hib, hrw7, hkp7⟩
    have hbl : takeT c.l.length (c.l.drop A) (bkA c).2.2 = takeT c.l.length (bkA c).2.1 (bkA c).2.2 := by rw [HBR.out]
    rw [hbl] at hib hrw7
    have hbB : (takeT c.l.length (bkA c).2.1 (bkA c).2.2).1 = bkB c := rfl
    rw [hbB] at hib hrw7
    simp only [hbl, hbB]
    have hz7 := hkp7.size
    have HCX7 := Lib.hid (HCXE.out.keeps hkp7 fun b e => by have := HW2.out; omega)
    have HH7 := Lib.hid (HH.out.imp (w' := w7) (fun b h => h) fun b hb hlt => hkp7.block b hlt (by omega))
    have HB7 := Lib.hid (hib.imp (P' := fun b => w.heap.size + 3 ≤ b) (fun b hb => by have := HCXE.out.big; omega) fun _ _ _ => rfl)
    have HHB7 := Lib.hid ((hkp7.block (w2.heap.size + 1) (Array.getElem?_eq_some_iff.1 HHB.out).1 (by omega)).trans HHB.out)
    have hlk : w2.heap.size < w7.heap.size := (Array.getElem?_eq_some_iff.1 hrw7).1
    have hlh : w2.heap.size + 1 < w7.heap.size := (Array.getElem?_eq_some_iff.1 HHB7.out).1
    generalize bkB c = B at *
    have hb8 := below_new w7 (rowT B ab cb)
    have hr8 := heap_alloc_new w7 (rowT B ab cb)
    have HCX8 := Lib.hid (HCX7.out.on hb8)
    have HH8 := Lib.hid (HH7.out.below hb8)
    have HB8 := Lib.hid (HB7.out.below hb8)
    have HHB8 := Lib.hid ((hb8.block _ hlh).trans HHB7.out)
    obtain ⟨x0, x1, x2, x3⟩ := row4 ((hb8.block _ hlk).trans hrw7)
    have HRB := Lib.hid hr8
    have HMX : Hid (max (0) (1 + ((deepT B : Nat) : Int) - 1) = ((max (deepT (atomT c.name)) (deepT B) : Nat) : Int)) := Lib.hid (HMD.out _ (deepT_pos B))
    rw [HMX.out] at x3
    have HZ8 : Hid (w7.heap.size < (w7.alloc (rowT B ab cb)).heap.size) := Lib.hid (by simp)
    clear hib hrw7 hkp7 hbl hbB hb8 hr8 HCX7 HH7 HB7 HHB7 HMX
    simp only [rowT] at HCX8 HH8 HB8 HHB8 HRB HZ8 x0 x1 x2 x3
    by_cases k5 : 2000 < max (deepT (atomT c.name)) (deepT B)
    · have b5 : (2000 : Int) < ((max (deepT (atomT c.name)) (deepT B) : Nat) : Int) := by omega
      have HR := Lib.hid (HBE.out.trans (if_pos k5))
      clear k5
      generalize max (deepT (atomT c.name)) (deepT B) = D at *
      go_wp2_with (first
        | (with_reducible show wpList _ _ _ (⟨none, .store _ (.tmp 2) _, _, _, _, _⟩ :: _) _ _
           refine wpList_store_row rfl 30 (.tmp 2) (.tmp 53) rfl (w.heap.size + 1) zero4 rfl rfl _ _ HCX8.out.hr size_term rfl (one4 _ _ _ _ _ _) ?_)
        | (with_reducible show wpList _ _ _ (⟨none, .store _ (.tmp 3) _, _, _, _, _⟩ :: _) _ _
           refine wpList_store_row rfl 30 (.tmp 3) (.tmp 54) rfl (w.heap.size + 1 + 1) zero4 rfl rfl _ _ ((setRow_other _ _ _ _ (by omega)).trans HCX8.out.br) size_term rfl (one4 _ _ _ _ _ _) ?_))
      generalize w7.alloc (.cells #[.int .i64 B.k, .int .i64 B.n, .string B.s, .slice ab B.args.length cb] 30 (0, 0)) = w8 at *
      have hz2 := setRow_heap (w8.setRow (w.heap.size + 1) zero4) (w.heap.size + 1 + 1) _ zero4 _ _ ((setRow_other _ _ _ _ (by omega)).trans HCX8.out.br)
      have hz1 : ((w8.setRow (w.heap.size + 1) zero4).setRow (w.heap.size + 1 + 1) zero4).heap[w.heap.size + 1]? = _ := (setRow_other _ _ _ _ (by omega)).trans (setRow_heap w8 (w.heap.size + 1) _ zero4 _ _ HCX8.out.hr)
      have hpost := bk_end (H := .mk 0 0 ⟨#[]⟩ []) (B := .mk 0 0 ⟨#[]⟩ []) (x := 4) (a1 := none) (a2 := none) (c1 := 0) (c2 := 0) HCX8.out (IsTm.mk' (t := .mk 0 0 ⟨#[]⟩ []) (IsSl.nil _ _ none 0)) (IsTm.mk' (t := .mk 0 0 ⟨#[]⟩ []) (IsSl.nil _ _ none 0)) zero4 zero4
      exact bodyPost_ret (v := .tuple #[.agg zero4, .agg zero4, .int .i64 4]) (results_three Try.results15 _ _ (w.heap.size + 1) (w.heap.size + 1 + 1) _ _ _ _ _ _ rfl rfl rfl hz1 hz2 Try.underlying30 rfl (by kernel_rfl) (by kernel_rfl)) rfl (by rw [HR.out]; exact hpost)
    · have b5 : ((max (deepT (atomT c.name)) (deepT B) : Nat) : Int) ≤ 2000 := by omega
      have HR := Lib.hid (HBE.out.trans (if_neg k5))
      clear k5
      generalize max (deepT (atomT c.name)) (deepT B) = D at *
      go_wp2
      refine wp_region_rest (by kernel_rfl) ?_
      have hdr : Below (w7.alloc (.cells #[.int .i64 B.k, .int .i64 B.n, .string B.s, .slice ab B.args.length cb] 30 (0, 0))).heap.size (w7.alloc (.cells #[.int .i64 B.k, .int .i64 B.n, .string B.s, .slice ab B.args.length cb] 30 (0, 0))) (w7.alloc (.cells #[.int .i64 B.k, .int .i64 B.n, .string B.s, .slice ab B.args.length cb] 30 (0, 0))).drew := (Below.refl _ _).drew
      have HCX9 := Lib.hid (HCX8.out.on hdr)
      have HH9 := Lib.hid (HH8.out.below hdr)
      have HB9 := Lib.hid (HB8.out.below hdr)
      have HHB9 := Lib.hid ((hdr.block _ (Array.getElem?_eq_some_iff.1 HHB8.out).1).trans HHB8.out)
      have HRB9 := Lib.hid ((hdr.block _ (Array.getElem?_eq_some_iff.1 HRB.out).1).trans HRB.out)
      clear hdr HCX8 HH8 HB8 HHB8 HRB x0 x1 x2 x3 HZ8
      generalize (w7.alloc (.cells #[.int .i64 B.k, .int .i64 B.n, .string B.s, .slice ab B.args.length cb] 30 (0, 0))).drew = W9 at *
      have l1 := (Array.getElem?_eq_some_iff.1 HHB9.out).1
      have l2 := (Array.getElem?_eq_some_iff.1 HRB9.out).1
      have n1 : w2.heap.size + 1 ≠ w.heap.size + 1 := by have := HW2.out; omega
      have n2 : w7.heap.size ≠ w.heap.size + 1 := by have := HW2.out; omega
      refine rest_chainP (fun u => Keeps W9 u (fun b => b = w.heap.size + 1)) 0 3 (.soft 0 (.soft 1 (.one 2 .nil))) (.soft _ (.soft _ (.one _ .nil))) ⟨rfl, ⟨rfl, ⟨rfl, trivial⟩⟩⟩ (by kernel_rfl) (by kernel_rfl) (by kernel_rfl) (by kernel_rfl) (.inr (by kernel_rfl)) (Keeps.refl _ _) ?_
      refine chainP_soft (a1 := ?ma1) (by kernel_rfl) (by kernel_rfl) ?mh1 ?mr1
      case mh1 =>
        intro u hu E hE
        obtain ⟨x0, x1, x2, x3⟩ := row4 ((hu.block _ l1 n1).trans HHB9.out)
        go_wp2
        rfl
      refine chainP_soft (a1 := ?ma2) (by kernel_rfl) (by kernel_rfl) ?mh2 ?mr2
      case mh2 =>
        intro u hu E hE
        obtain ⟨x0, x1, x2, x3⟩ := row4 ((hu.block _ l2 n2).trans HRB9.out)
        go_wp2
        rfl
      refine chainP_one ?_
      intro E hE
      refine wpList_store_row rfl 30 (.tmp 2) (.tmp 55) rfl (w.heap.size + 1) #[.int .i64 3, .int .i64 0, .string c.name, .slice none 0 0] rfl rfl _ _ HCX9.out.hr size_term rfl (one4 _ _ _ _ _ _) ?_
      refine hE _ _ ⟨keeps_row _ _ _, ?_⟩
      refine chainP_nil ?_
      refine rest_lineL 3 5 [_, _] rfl (by kernel_rfl) (by decide) (by decide) (by kernel_rfl) ?_
      go_wp2_with (with_reducible show wpList _ _ _ (⟨none, .store _ (.tmp 3) _, _, _, _, _⟩ :: _) _ _
                   refine wpList_store_row rfl 30 (.tmp 3) (.tmp 56) rfl (w.heap.size + 1 + 1) #[.int .i64 B.k, .int .i64 B.n, .string B.s, .slice ab B.args.length cb] rfl rfl _ _ ((setRow_other _ _ _ _ (by omega)).trans HCX9.out.br) size_term rfl (one4 _ _ _ _ _ _) ?_)
      refine then_rest (rest_end (by decide) ?_)
      go_wp2
      have hz2 := setRow_heap (W9.setRow (w.heap.size + 1) #[.int .i64 3, .int .i64 0, .string c.name, .slice none 0 0]) (w.heap.size + 1 + 1) _ (#[.int .i64 B.k, .int .i64 B.n, .string B.s, .slice ab B.args.length cb] : Array Value) _ _ ((setRow_other _ _ _ _ (by omega)).trans HCX9.out.br)
      have hz1 : ((W9.setRow (w.heap.size + 1) #[.int .i64 3, .int .i64 0, .string c.name, .slice none 0 0]).setRow (w.heap.size + 1 + 1) #[.int .i64 B.k, .int .i64 B.n, .string B.s, .slice ab B.args.length cb]).heap[w.heap.size + 1]? = _ := (setRow_other _ _ _ _ (by omega)).trans (setRow_heap W9 (w.heap.size + 1) _ (#[.int .i64 3, .int .i64 0, .string c.name, .slice none 0 0] : Array Value) _ _ HCX9.out.hr)
      have hpost := bk_end (x := 0) HCX9.out (HH9.out.imp (fun b hb => by have := HW2.out; omega) fun _ _ _ => rfl) HB9.out #[.int .i64 3, .int .i64 0, .string c.name, .slice none 0 0] #[.int .i64 B.k, .int .i64 B.n, .string B.s, .slice ab B.args.length cb]
      exact bodyPost_ret (v := .tuple #[.agg #[.int .i64 3, .int .i64 0, .string c.name, .slice none 0 0], .agg #[.int .i64 B.k, .int .i64 B.n, .string B.s, .slice ab B.args.length cb], .int .i64 0]) (results_three Try.results15 _ _ (w.heap.size + 1) (w.heap.size + 1 + 1) _ _ _ _ _ _ rfl rfl rfl hz1 hz2 Try.underlying30 rfl (by kernel_rfl) (by kernel_rfl)) rfl (by rw [HR.out]; exact hpost)
  obtain ⟨n, hn⟩ : ∃ n : Nat, c.args = n := ⟨c.args.toNat, by omega⟩
  have hn1 : 1 ≤ n ∧ n ≤ 255 := by omega
  have htn : c.args.toNat = n := by omega
  have hH : bkH c = compT c.name (bkA c).1 := if_pos ka
  rw [hH] at HBE
  have hbA : bkA c = takeN (takeT c.l.length) n c.l c.slots := by unfold bkA; rw [htn]
  have HBA := Lib.hid hbA
  have HSK : Hid (sk c.l n = some A) := Lib.hid (by have := HOK.out.sk; rw [htn] at this; exact this)
  have HN := Lib.hid hn
  obtain ⟨i0, hti, hz0, hz1, hz2⟩ := info_parts info_term
  obtain ⟨s0, s1, ssz, sbl⟩ := two w2 (tkO (.slice qa c.l.length qc) 0 c.slots 0) (.cells #[.int .i64 4, .int .i64 0, .string c.name, .slice none 0 0] 30 (0, 0))
  obtain ⟨u0, u1, u2, u3, u4⟩ := row5 ((sbl.block w.heap.size (by have := HW2.out; omega)).trans HT2.out)
  simp only [tkO] at s0 s1 ssz sbl u0 u1 u2 u3 u4
  have HS0 := Lib.hid s0
  have HS1 := Lib.hid s1
  have HSZ := Lib.hid ssz
  have HSB := Lib.hid sbl
  clear hH hbA hn htn t0 t1 tsz tbl s0 s1 ssz sbl
  go_wp2_with (with_reducible show wpList _ _ _ (⟨some 33, _, _, _, _, _⟩ :: _) _ _
               refine wpList_make_full _ rfl (.tmp 32) (.tmp 32) 28 rfl (w2.heap.size + 2) 30 i0 _ 4 Try.underlying28 hti hz0 hz1 .i64 .i64 c.args c.args n rfl rfl HN.out HN.out (by rw [hz2]; omega) (by unfold maxLen; omega) (by rw [HSZ.out]; omega) ?_
               intro wA hown hgr
               obtain ⟨row, hrow, hrs⟩ := own_row hown
               have hbA : Below ((w2.alloc (.cells #[.slice qa c.l.length qc, .int .i64 0, .int .i64 c.slots, .int .i64 0] 84 (0, 0))).alloc (.cells #[.int .i64 4, .int .i64 0, .string c.name, .slice none 0 0] 30 (0, 0))).heap.size ((w2.alloc (.cells #[.slice qa c.l.length qc, .int .i64 0, .int .i64 c.slots, .int .i64 0] 84 (0, 0))).alloc (.cells #[.int .i64 4, .int .i64 0, .string c.name, .slice none 0 0] 30 (0, 0))) wA := (Below.refl _ _).grown hgr (Nat.le_refl _) (by simp)
               have hge : w2.heap.size + 2 ≤ ((w2.alloc (.cells #[.slice qa c.l.length qc, .int .i64 0, .int .i64 c.slots, .int .i64 0] 84 (0, 0))).alloc (.cells #[.int .i64 4, .int .i64 0, .string c.name, .slice none 0 0] 30 (0, 0))).heap.size := by rw [HSZ.out]; omega
               have HBX := Lib.hid ((hbA.block (w2.heap.size + 1) (by omega)).trans HS1.out)
               have HKB := Lib.hid ((hbA.block w2.heap.size (by omega)).trans HS0.out)
               have HCXA := Lib.hid ((HCX.out.on HSB.out).on hbA)
               have HGR := Lib.hid hrow
               have HRS := Lib.hid hrs
               clear hown hgr hrow hrs hbA HS0 HS1 HSZ HSB u0 u1 u2 u3 u4 x0 x1 x2 x3 x4 y0 y1 y2 y3 y4 z0 z1 z2 z3 z4 hti hz0 hz1 hz2
               generalize ((w2.alloc (.cells #[.slice qa c.l.length qc, .int .i64 0, .int .i64 c.slots, .int .i64 0] 84 (0, 0))).alloc (.cells #[.int .i64 4, .int .i64 0, .string c.name, .slice none 0 0] 30 (0, 0))).heap.size = g at *
               obtain ⟨v0, v1, v2, v3⟩ := row4 HBX.out
               have fz := frozen_of_row wA (w2.heap.size + 1) 3 _ _ HBX.out
               have hbx5 := heap_setCell_same wA (w2.heap.size + 1) 3 _ _ (.slice (some ⟨g, 0, none⟩) n n) HBX.out
               replace hbx5 : (wA.setCell ⟨w2.heap.size + 1, 3, none⟩ (.slice (some ⟨g, 0, none⟩) n n)).heap[w2.heap.size + 1]? = some (.cells #[.int .i64 4, .int .i64 0, .string c.name, .slice (some ⟨g, 0, none⟩) n n] 30 (0, 0)) := by simpa using hbx5
               obtain ⟨r0, r1, r2, r3⟩ := row4 hbx5
               have HBX5 := Lib.hid hbx5
               clear hbx5)
  have hot : ∀ b, b ≠ w2.heap.size + 1 → (wA.setCell ⟨w2.heap.size + 1, 3, none⟩ (.slice (some ⟨g, 0, none⟩) n n)).heap[b]? = wA.heap[b]? := fun b hb => Below.heap_setCell _ _ _ _ hb
  have hst : BkRel w w2.heap.size g n A (.slice qa c.l.length qc) c (.int .i64 ((0 : Nat) : Int)) (wA.setCell ⟨w2.heap.size + 1, 3, none⟩ (.slice (some ⟨g, 0, none⟩) n n)) := by
    refine ⟨0, rfl, by omega, ⟨0, A, sk_zero _, by simpa using HSK.out, by omega, ?_⟩, Fill.start ((hot g (by omega)).trans HGR.out) HRS.out, HCXA.out.keeps (keeps_cell wA _ _ _) fun b e => by have := HW2.out; omega, HBX5.out⟩
    exact (hot w2.heap.size (by omega)).trans HKB.out
  have HST := Lib.hid hst
  clear hot hst HBX HKB HCXA HGR HRS HBX5 v0 v1 v2 v3 fz r0 r1 r2 r3
  generalize wA.setCell ⟨w2.heap.size + 1, 3, none⟩ (.slice (some ⟨g, 0, none⟩) n n) = WL at *
  go_loopw [38] (fun vi wr => BkRel w w2.heap.size g n A (.slice qa c.l.length qc) c vi wr) (fun vi _ => n - (intOf vi).toNat)
  case atStart => exact HST.out
  case round =>
    obtain ⟨r, rfl, hr⟩ := hrel
    clear HST
    obtain ⟨x, d, hc, hd, hcd, hkb⟩ := hr.at_
    have hrn0 := hr.le
    have HFL := Lib.hid hr.fill
    have HCXR := Lib.hid hr.ctx
    have HBOX := Lib.hid hr.box
    have HKB := Lib.hid hkb
    clear hr hkb
    have hlen := HOK.out.len
    have hall := HOK.out.all
    have htf := (take_facts c.l.length).2 r c.l c.slots x hc (by omega)
    have htr := (take_rest c.l.length).2 r c.l c.slots x hc (by omega)
    have hsn := takeN_snoc (takeT c.l.length) r c.l c.slots
    have hln := takeN_len (takeT c.l.length) r c.l c.slots
    rw [htr] at hsn
    by_cases hrn : r < n
    · obtain ⟨j1, d1, e1, e2, e3⟩ := sk_split _ 1 (n - r - 1) d (by rw [show 1 + (n - r - 1) = n - r by omega]; exact hd)
      rw [List.drop_drop] at e2
      have hjn := sk_join _ r 1 x j1 hc e1
      have hlc := sk_le _ _ _ e1
      have hj1 := sk_pos _ 0 j1 e1
      rw [List.length_drop] at hlc
      generalize takeN (takeT c.l.length) r c.l c.slots = S at *
      obtain ⟨ts, LS, x'⟩ := S
      simp only at htf htr hsn hln
      have hdl : 0 ≤ dpL ts ∧ dpL ts ≤ 100000 := by
        unfold dpL
        split <;> omega
      have hih := fun (u : World) h1 h2 => comp_take w2.heap.size (.slice qa c.l.length qc) c.l hL c.l.length x j1 x' (dpL ts) 2 u e1 (by omega) (by omega) (by omega) (by omega) (by decide) (by omega) hdl.1 (by omega) h1 h2
      have HIH := Lib.hid hih
      have HSN := Lib.hid hsn
      have HLN := Lib.hid hln
      have HE := Lib.hid (And.intro hjn (And.intro e2 e3))
      clear hih hsn hln hjn e2 e3 e1 hc hd
      generalize takeT c.l.length (c.l.drop x) x' = R at *
      obtain ⟨t, LR, x2⟩ := R
      have hin : (r : Int) < (n : Int) := by omega
      have hin0 : (0 : Int) ≤ (r : Int) := by omega
      have r3 := (row4 HBOX.out).2.2.2
      go_wp2
      refine wp_region_rest (by kernel_rfl) ?_
      have hdr : Below wr.heap.size wr wr.drew := (Below.refl _ _).drew
      replace HCXR := Lib.hid (HCXR.out.on hdr)
      replace HFL := Lib.hid (HFL.out.keep (w' := wr.drew) (fun _ _ _ => rfl) rfl)
      replace HKB : Hid (wr.drew.heap[w2.heap.size]? = _) := Lib.hid HKB.out
      replace HBOX : Hid (wr.drew.heap[w2.heap.size + 1]? = _) := Lib.hid HBOX.out
      clear hdr r3
      generalize wr.drew = W3 at *
      have ltb : w2.heap.size + 1 < W3.heap.size := (Array.getElem?_eq_some_iff.1 HBOX.out).1
      have lg : g < W3.heap.size := HFL.out.lt
      have nek : w2.heap.size + 1 ≠ w2.heap.size := by omega
      refine rest_chainP (fun u => Keeps W3 u (fun b => b = w2.heap.size)) 0 5 (.soft 0 (.soft 1 (.soft 2 (.soft 3 (.one 4 .nil))))) (.soft _ (.soft _ (.soft _ (.soft _ (.one _ .nil))))) ⟨rfl, ⟨rfl, ⟨rfl, ⟨rfl, ⟨rfl, trivial⟩⟩⟩⟩⟩ (by kernel_rfl) (by kernel_rfl) (by kernel_rfl) (by kernel_rfl) (.inr (by kernel_rfl)) (Keeps.refl _ _) ?_
      refine chainP_soft (a1 := ?ma3) (by kernel_rfl) (by kernel_rfl) ?mh3 ?mr3
      case mh3 =>
        intro u hu E hE
        go_wp2
        rfl
      refine chainP_soft (a1 := ?ma4) (by kernel_rfl) (by kernel_rfl) ?mh4 ?mr4
      case mh4 =>
        intro u hu E hE
        have x3 := (row4 ((hu.block (w2.heap.size + 1) ltb nek).trans HBOX.out)).2.2.2
        go_wp2
        rfl
      refine chainP_soft (a1 := ?ma5) (by kernel_rfl) (by kernel_rfl) ?mh5 ?mr5
      case mh5 =>
        intro u hu E hE
        go_wp2
        rfl
      refine chainP_soft (a1 := ?ma6) (by kernel_rfl) (by kernel_rfl) ?mh6 ?mr6
      case mh6 =>
        intro u hu E hE
        go_wp2
        rfl
      refine chainP_one ?_
      intro E hE
      go_wp2_with (go_at_call 36
                   refine (HIH.out _ HKB.out (HV.out.below HCXR.out.bel)).mono ?_
                   rintro e w9 ⟨ax, cx, rfl, hix, hrw9, hkp9⟩
                   have HIX := Lib.hid hix
                   have HRW9 := Lib.hid hrw9
                   have HKP9 := Lib.hid hkp9
                   clear hix hrw9 hkp9)
      refine ⟨HKP9.out, ?_⟩
      refine chainP_nil ?_
      have hfl9 := HFL.out.keep (w' := w9) (fun b hlt hb => HKP9.out.block b hlt (by omega)) (HKP9.out.block g lg (by omega))
      obtain ⟨hth, hf10, hk10⟩ := hfl9.put (t := t) (a := ax) (c := cx) HLN.out hrn (HIX.out.imp (fun b hb => ⟨by omega, by omega⟩) fun _ _ _ => rfl)
      have lz : W3.heap.size ≤ w9.heap.size := HKP9.out.size
      have hrw10 := (hk10.block w2.heap.size (by omega) (by omega)).trans HRW9.out
      rw [dpL_snoc] at hrw10
      have hbox10 := (hk10.block (w2.heap.size + 1) (by omega) (by omega)).trans ((HKP9.out.block (w2.heap.size + 1) ltb nek).trans HBOX.out)
      have hcx10 := (HCXR.out.keeps HKP9.out fun b e => by have := HW2.out; omega).keeps hk10 fun b e => by have := HW2.out; omega
      have HTH := Lib.hid hth
      have HF10 := Lib.hid hf10
      have HRW10 := Lib.hid hrw10
      have HBOX10 := Lib.hid hbox10
      have HCX10 := Lib.hid hcx10
      clear hfl9 hth hf10 hk10 hrw10 hbox10 hcx10
      refine rest_lineL 5 7 [_, _] rfl (by kernel_rfl) (by decide) (by decide) (by kernel_rfl) ?_
      go_wp2_with (with_reducible show wpList _ _ _ (⟨none, .store _ (.tmp 46) _, _, _, _, _⟩ :: _) _ _
                   refine wpList_store_mid rfl 30 (.tmp 46) (.tmp 45) rfl g (r * 4) #[.int .i64 t.k, .int .i64 t.n, .string t.s, .slice ax t.args.length cx] rfl rfl HTH.out size_term (one4 _ _ _ _ _ _) ?_)
      refine then_rest (rest_end (by decide) ?_)
      go_wp2
      go_roundw
      case rel =>
        refine ⟨r + 1, by go_num, by omega, ⟨x + j1, d1, HE.out.1, ?_, by have := HE.out.2.2; omega, ?_⟩, ?_, HCX10.out, HBOX10.out⟩
        · rw [show n - (r + 1) = n - r - 1 by omega]; exact HE.out.2.1
        · rw [HSN.out]; exact HRW10.out
        · rw [HSN.out]; exact HF10.out
      case measure => simp [intOf]; omega
    · obtain rfl : r = n := by omega
      rw [Nat.sub_self, sk_zero] at hd
      cases hd
      obtain rfl : x = A := by omega
      have hin : decide ((r : Int) < (r : Int)) = false := by simp
      rw [← HBA.out] at hln htf
      have HROW : Hid (wr.heap[w2.heap.size]? = some (tkO (.slice qa c.l.length qc) (x : Int) (bkA c).2.2 (dpL (bkA c).1))) := Lib.hid (by have := HKB.out; rw [← HBA.out] at this; exact this)
      have HFLE : Hid (Fill wr g r (w2.heap.size + 2) (bkA c).1) := Lib.hid (by have := HFL.out; rw [← HBA.out] at this; exact this)
      clear HKB HFL hsn htr hc HSK HBA
      have HCXE := HCXR
      generalize (bkA c).1 = ts at *
      obtain rfl : ts.length = r := hln
      have HHB := HBOX
      have HH : Hid (IsTm wr (fun b => w2.heap.size + 2 ≤ b) (aggT (compT c.name ts) (some ⟨g, 0, none⟩) ts.length) (compT c.name ts)) := Lib.hid (IsTm.mk' (t := compT c.name ts) (HFLE.out.sl rfl hge))
      have hdl : dpL ts = 1 + ((deepL ts : Nat) : Int) := by
        unfold dpL
        rw [if_neg]
        intro e
        have : ts = [] := by simpa using e
        rw [this] at hn1
        simp at hn1
      have HDP : Hid (0 ≤ dpL ts ∧ dpL ts ≤ 2000000000000) := Lib.hid (by rw [hdl]; have := HDA.out; omega)
      have HMD : Hid (∀ d : Nat, 1 ≤ d → max (dpL ts) (1 + (d : Int) - 1) = ((max (deepT (compT c.name ts)) d : Nat) : Int)) := Lib.hid fun d hd => by
        have : deepT (compT c.name ts) = deepL ts + 1 := rfl
        rw [hdl, this]; omega
      have HA : Hid (x = x) := Lib.hid rfl
      clear hdl htf
      go_wp2_with fail
      refine (comp_take w2.heap.size (.slice qa c.l.length qc) c.l hL c.l.length x j (bkA c).2.2 (dpL ts) 1 wr (by simpa using HOK.out.rest) (by have := HOK.out.all; omega) (by have := HOK.out.all; omega) HXB.out.1 (by have := HXB.out.2; have := HOK.out.len; have := HOK.out.all; omega) (by decide) (by have := HOK.out.len; have := HOK.out.all; omega) HDP.out.1 HDP.out.2 HROW.out (HV.out.below HCXE.out.bel)).mono ?_
      rintro e7 w7 ⟨ab, cb, rfl, hib, hrw7, hkp7⟩
      have hbl : takeT c.l.length (c.l.drop x) (bkA c).2.2 = takeT c.l.length (bkA c).2.1 (bkA c).2.2 := by rw [HBR.out]
      rw [hbl] at hib hrw7
      have hbB : (takeT c.l.length (bkA c).2.1 (bkA c).2.2).1 = bkB c := rfl
      rw [hbB] at hib hrw7
      simp only [hbl, hbB]
      have hz7 := hkp7.size
      have HCX7 := Lib.hid (HCXE.out.keeps hkp7 fun b e => by have := HW2.out; omega)
      have HH7 := Lib.hid (HH.out.imp (w' := w7) (fun b h => h) fun b hb hlt => hkp7.block b hlt (by omega))
      have HB7 := Lib.hid (hib.imp (P' := fun b => w.heap.size + 3 ≤ b) (fun b hb => by have := HCXE.out.big; omega) fun _ _ _ => rfl)
      have HHB7 := Lib.hid ((hkp7.block (w2.heap.size + 1) (Array.getElem?_eq_some_iff.1 HHB.out).1 (by omega)).trans HHB.out)
      have hlk : w2.heap.size < w7.heap.size := (Array.getElem?_eq_some_iff.1 hrw7).1
      have hlh : w2.heap.size + 1 < w7.heap.size := (Array.getElem?_eq_some_iff.1 HHB7.out).1
      generalize bkB c = B at *
      have hb8 := below_new w7 (rowT B ab cb)
      have hr8 := heap_alloc_new w7 (rowT B ab cb)
      have HCX8 := Lib.hid (HCX7.out.on hb8)
      have HH8 := Lib.hid (HH7.out.below hb8)
      have HB8 := Lib.hid (HB7.out.below hb8)
      have HHB8 := Lib.hid ((hb8.block _ hlh).trans HHB7.out)
      obtain ⟨x0, x1, x2, x3⟩ := row4 ((hb8.block _ hlk).trans hrw7)
      have HRB := Lib.hid hr8
      have HMX : Hid (max (dpL ts) (1 + ((deepT B : Nat) : Int) - 1) = ((max (deepT (compT c.name ts)) (deepT B) : Nat) : Int)) := Lib.hid (HMD.out _ (deepT_pos B))
      rw [HMX.out] at x3
      have HZ8 : Hid (w7.heap.size < (w7.alloc (rowT B ab cb)).heap.size) := Lib.hid (by simp)
      clear hib hrw7 hkp7 hbl hbB hb8 hr8 HCX7 HH7 HB7 HHB7 HMX
      simp only [rowT] at HCX8 HH8 HB8 HHB8 HRB HZ8 x0 x1 x2 x3
      by_cases k5 : 2000 < max (deepT (compT c.name ts)) (deepT B)
      · have b5 : (2000 : Int) < ((max (deepT (compT c.name ts)) (deepT B) : Nat) : Int) := by omega
        have HR := Lib.hid (HBE.out.trans (if_pos k5))
        clear k5
        generalize max (deepT (compT c.name ts)) (deepT B) = D at *
        go_wp2_with (first
          | (with_reducible show wpList _ _ _ (⟨none, .store _ (.tmp 2) _, _, _, _, _⟩ :: _) _ _
             refine wpList_store_row rfl 30 (.tmp 2) (.tmp 53) rfl (w.heap.size + 1) zero4 rfl rfl _ _ HCX8.out.hr size_term rfl (one4 _ _ _ _ _ _) ?_)
          | (with_reducible show wpList _ _ _ (⟨none, .store _ (.tmp 3) _, _, _, _, _⟩ :: _) _ _
             refine wpList_store_row rfl 30 (.tmp 3) (.tmp 54) rfl (w.heap.size + 1 + 1) zero4 rfl rfl _ _ ((setRow_other _ _ _ _ (by omega)).trans HCX8.out.br) size_term rfl (one4 _ _ _ _ _ _) ?_))
        generalize w7.alloc (.cells #[.int .i64 B.k, .int .i64 B.n, .string B.s, .slice ab B.args.length cb] 30 (0, 0)) = w8 at *
        have hz2 := setRow_heap (w8.setRow (w.heap.size + 1) zero4) (w.heap.size + 1 + 1) _ zero4 _ _ ((setRow_other _ _ _ _ (by omega)).trans HCX8.out.br)
        have hz1 : ((w8.setRow (w.heap.size + 1) zero4).setRow (w.heap.size + 1 + 1) zero4).heap[w.heap.size + 1]? = _ := (setRow_other _ _ _ _ (by omega)).trans (setRow_heap w8 (w.heap.size + 1) _ zero4 _ _ HCX8.out.hr)
        have hpost := bk_end (H := .mk 0 0 ⟨#[]⟩ []) (B := .mk 0 0 ⟨#[]⟩ []) (x := 4) (a1 := none) (a2 := none) (c1 := 0) (c2 := 0) HCX8.out (IsTm.mk' (t := .mk 0 0 ⟨#[]⟩ []) (IsSl.nil _ _ none 0)) (IsTm.mk' (t := .mk 0 0 ⟨#[]⟩ []) (IsSl.nil _ _ none 0)) zero4 zero4
        exact bodyPost_ret (v := .tuple #[.agg zero4, .agg zero4, .int .i64 4]) (results_three Try.results15 _ _ (w.heap.size + 1) (w.heap.size + 1 + 1) _ _ _ _ _ _ rfl rfl rfl hz1 hz2 Try.underlying30 rfl (by kernel_rfl) (by kernel_rfl)) rfl (by rw [HR.out]; exact hpost)
      · have b5 : ((max (deepT (compT c.name ts)) (deepT B) : Nat) : Int) ≤ 2000 := by omega
        have HR := Lib.hid (HBE.out.trans (if_neg k5))
        clear k5
        generalize max (deepT (compT c.name ts)) (deepT B) = D at *
        go_wp2
        refine wp_region_rest (by kernel_rfl) ?_
        have hdr : Below (w7.alloc (.cells #[.int .i64 B.k, .int .i64 B.n, .string B.s, .slice ab B.args.length cb] 30 (0, 0))).heap.size (w7.alloc (.cells #[.int .i64 B.k, .int .i64 B.n, .string B.s, .slice ab B.args.length cb] 30 (0, 0))) (w7.alloc (.cells #[.int .i64 B.k, .int .i64 B.n, .string B.s, .slice ab B.args.length cb] 30 (0, 0))).drew := (Below.refl _ _).drew
        have HCX9 := Lib.hid (HCX8.out.on hdr)
        have HH9 := Lib.hid (HH8.out.below hdr)
        have HB9 := Lib.hid (HB8.out.below hdr)
        have HHB9 := Lib.hid ((hdr.block _ (Array.getElem?_eq_some_iff.1 HHB8.out).1).trans HHB8.out)
        have HRB9 := Lib.hid ((hdr.block _ (Array.getElem?_eq_some_iff.1 HRB.out).1).trans HRB.out)
        clear hdr HCX8 HH8 HB8 HHB8 HRB x0 x1 x2 x3 HZ8
        generalize (w7.alloc (.cells #[.int .i64 B.k, .int .i64 B.n, .string B.s, .slice ab B.args.length cb] 30 (0, 0))).drew = W9 at *
        have l1 := (Array.getElem?_eq_some_iff.1 HHB9.out).1
        have l2 := (Array.getElem?_eq_some_iff.1 HRB9.out).1
        have n1 : w2.heap.size + 1 ≠ w.heap.size + 1 := by have := HW2.out; omega
        have n2 : w7.heap.size ≠ w.heap.size + 1 := by have := HW2.out; omega
        refine rest_chainP (fun u => Keeps W9 u (fun b => b = w.heap.size + 1)) 0 3 (.soft 0 (.soft 1 (.one 2 .nil))) (.soft _ (.soft _ (.one _ .nil))) ⟨rfl, ⟨rfl, ⟨rfl, trivial⟩⟩⟩ (by kernel_rfl) (by kernel_rfl) (by kernel_rfl) (by kernel_rfl) (.inr (by kernel_rfl)) (Keeps.refl _ _) ?_
        refine chainP_soft (a1 := ?ma7) (by kernel_rfl) (by kernel_rfl) ?mh7 ?mr7
        case mh7 =>
          intro u hu E hE
          obtain ⟨x0, x1, x2, x3⟩ := row4 ((hu.block _ l1 n1).trans HHB9.out)
          go_wp2
          rfl
        refine chainP_soft (a1 := ?ma8) (by kernel_rfl) (by kernel_rfl) ?mh8 ?mr8
        case mh8 =>
          intro u hu E hE
          obtain ⟨x0, x1, x2, x3⟩ := row4 ((hu.block _ l2 n2).trans HRB9.out)
          go_wp2
          rfl
        refine chainP_one ?_
        intro E hE
        refine wpList_store_row rfl 30 (.tmp 2) (.tmp 55) rfl (w.heap.size + 1) #[.int .i64 4, .int .i64 0, .string c.name, .slice (some ⟨g, 0, none⟩) ts.length ts.length] rfl rfl _ _ HCX9.out.hr size_term rfl (one4 _ _ _ _ _ _) ?_
        refine hE _ _ ⟨keeps_row _ _ _, ?_⟩
        refine chainP_nil ?_
        refine rest_lineL 3 5 [_, _] rfl (by kernel_rfl) (by decide) (by decide) (by kernel_rfl) ?_
        go_wp2_with (with_reducible show wpList _ _ _ (⟨none, .store _ (.tmp 3) _, _, _, _, _⟩ :: _) _ _
                     refine wpList_store_row rfl 30 (.tmp 3) (.tmp 56) rfl (w.heap.size + 1 + 1) #[.int .i64 B.k, .int .i64 B.n, .string B.s, .slice ab B.args.length cb] rfl rfl _ _ ((setRow_other _ _ _ _ (by omega)).trans HCX9.out.br) size_term rfl (one4 _ _ _ _ _ _) ?_)
        refine then_rest (rest_end (by decide) ?_)
        go_wp2
        have hz2 := setRow_heap (W9.setRow (w.heap.size + 1) #[.int .i64 4, .int .i64 0, .string c.name, .slice (some ⟨g, 0, none⟩) ts.length ts.length]) (w.heap.size + 1 + 1) _ (#[.int .i64 B.k, .int .i64 B.n, .string B.s, .slice ab B.args.length cb] : Array Value) _ _ ((setRow_other _ _ _ _ (by omega)).trans HCX9.out.br)
        have hz1 : ((W9.setRow (w.heap.size + 1) #[.int .i64 4, .int .i64 0, .string c.name, .slice (some ⟨g, 0, none⟩) ts.length ts.length]).setRow (w.heap.size + 1 + 1) #[.int .i64 B.k, .int .i64 B.n, .string B.s, .slice ab B.args.length cb]).heap[w.heap.size + 1]? = _ := (setRow_other _ _ _ _ (by omega)).trans (setRow_heap W9 (w.heap.size + 1) _ (#[.int .i64 4, .int .i64 0, .string c.name, .slice (some ⟨g, 0, none⟩) ts.length ts.length] : Array Value) _ _ HCX9.out.hr)
        have hpost := bk_end (x := 0) HCX9.out (HH9.out.imp (fun b hb => by have := HW2.out; omega) fun _ _ _ => rfl) HB9.out #[.int .i64 4, .int .i64 0, .string c.name, .slice (some ⟨g, 0, none⟩) ts.length ts.length] #[.int .i64 B.k, .int .i64 B.n, .string B.s, .slice ab B.args.length cb]
        exact bodyPost_ret (v := .tuple #[.agg #[.int .i64 4, .int .i64 0, .string c.name, .slice (some ⟨g, 0, none⟩) ts.length ts.length], .agg #[.int .i64 B.k, .int .i64 B.n, .string B.s, .slice ab B.args.length cb], .int .i64 0]) (results_three Try.results15 _ _ (w.heap.size + 1) (w.heap.size + 1 + 1) _ _ _ _ _ _ rfl rfl rfl hz1 hz2 Try.underlying30 rfl (by kernel_rfl) (by kernel_rfl)) rfl (by rw [HR.out]; exact hpost)
end Go.Proofs.Ytibjcfbilkkmkaa.Tms
