
/-
  Layer 17: Do, of compare, functor, arg and univ.
-/
import Derived.Test.YtkhchmgdaolojaaShd
import Derived.Test.YtkhchmgdaolojaaShi
import Derived.Test.YtkhchmgdaolojaaShj
namespace Go.Proofs.Ytkhchmgdaolojaa.Tms
open Go Go.RowKit Go.Proofs.Ytkhchmgdaolojaa.Reg Go.Proofs.Ytkhchmgdaolojaa.Rws Go.Proofs.Ytkhchmgdaolojaa.Maps Go.Instr
set_option linter.unusedVariables false
set_option linter.unusedSimpArgs false

/-- Do's answer: arguments made one, from a first on, with terms -/
def DoOk (f : Int) (ts : List Tm) (w : World) (e : Ending) (w' : World) : Prop := ∃ va vt, e = .returned (.tuple #[.agg #[.bool true, va, vt, .int .i64 0, .int .i64 0, .string ⟨#[]⟩, .slice none 0 0], .int .i64 0]) ∧ IntSl w' (fun b => w.heap.size < b) va (firsts f ts.length) ∧ IsSl w' (fun b => w.heap.size < b) vt ts ∧ Below w.heap.size w w'
def DoNo (w : World) (e : Ending) (w' : World) : Prop := ∃ (k n : Int) (s : ByteArray) (q : Option Addr) (m c : Nat), e = .returned (.tuple #[.agg #[.bool false, .slice none 0 0, .slice none 0 0, .int .i64 k, .int .i64 n, .string s, .slice q m c], .int .i64 0]) ∧ Below w.heap.size w w'
def DoArg (x y : Tm) (w : World) (e : Ending) (w' : World) : Prop := (∃ h : x.n.toNat - 1 < y.args.length, y.k = 4 ∧ DoOk 2 [y.args[x.n.toNat - 1]] w e w') ∨ (¬ (y.k = 4 ∧ x.n ≤ y.args.length) ∧ DoNo w e w')
/-- a method's answer, stored in Do's result -/
theorem DidOk.do {f : Int} {ts : List Tm} {w w3 w4 : World} {va vt : Value} (cs : Array Value) (hb : Below w.heap.size w w3) (hs : w.heap.size < w3.heap.size) (h1 : IntSl w4 (fun b => w3.heap.size < b) va (firsts f ts.length)) (h2 : IsSl w4 (fun b => w3.heap.size < b) vt ts) (h3 : Below w3.heap.size w3 w4) :
    DoOk f ts w (.returned (.tuple #[.agg #[.bool true, va, vt, .int .i64 0, .int .i64 0, .string ⟨#[]⟩, .slice none 0 0], .int .i64 0])) (w4.setRow w.heap.size cs) := by
  have hoth : ∀ b, b ≠ w.heap.size → (w4.setRow w.heap.size cs).heap[b]? = w4.heap[b]? := fun b hb => setRow_other _ _ _ _ hb
  have hsz : (w4.setRow w.heap.size cs).heap.size = w4.heap.size := by simp
  refine ⟨va, vt, rfl, ?_, h2.imp (fun b hb => by omega) fun b hb _ => hoth b (by omega), below_row (hb.trans (h3.mono hb.size)) (Nat.le_refl _)⟩
  obtain ⟨a, cap, e, k1, k2, k3⟩ := h1
  refine ⟨a, cap, e, k1, k2, fun i hi => ?_⟩
  obtain ⟨b, off, e1, hp, hl, hc⟩ := k3 i hi
  exact ⟨b, off, e1, by omega, by rw [hsz]; exact hl, (World.cell?_of_block (a := ⟨b, off + i, none⟩) (hoth b (by omega))).trans hc⟩
set_option maxRecDepth 100000 in
set_option maxHeartbeats 4000000 in
theorem sh_Do_compare (ts : List Tm) (x t u : Tm) (P : Nat → Prop) (w : World) (a : Option Addr) (c : Nat) (h : IsSl w P (.slice a 3 c) ts) (hl : ts.length = 3) (hM : ∀ t ∈ ts, t.size ≤ 100000000 ∧ checkT t = 0) (he : ts = [x, t, u]) (hx : x.k = 1) :
    Calls Try.prog 28 #[.string (⟨#[99, 111, 109, 112, 97, 114, 101]⟩ : ByteArray), .slice a 3 c] w (DoOk 0 [atomT (ordS (cmpT t u))] w) := by
  have H := Lib.hid h
  have HL := Lib.hid hl
  have HE := Lib.hid he
  have HX := Lib.hid hx
  have HMM0 := Lib.hid hM
  clear h hl he hx
  have hb0 : Below w.heap.size w (w.alloc (.cells #[.bool false, .slice none 0 0, .slice none 0 0, .int .i64 0, .int .i64 0, .string ⟨#[]⟩, .slice none 0 0] 71 (0, 0))) := (Below.refl _ _).alloc (Nat.le_refl _) _
  have HB0 := Lib.hid hb0
  have HR0 := Lib.hid (heap_alloc_new w (.cells #[.bool false, .slice none 0 0, .slice none 0 0, .int .i64 0, .int .i64 0, .string ⟨#[]⟩, .slice none 0 0] 71 (0, 0)))
  have hs0 : w.heap.size < (w.alloc (.cells #[.bool false, .slice none 0 0, .slice none 0 0, .int .i64 0, .int .i64 0, .string ⟨#[]⟩, .slice none 0 0] 71 (0, 0))).heap.size := by simp
  clear hb0
  go_enter Try.func28, Try.ntmps28
  go_wp2_with fail
  refine (sh_Does .s9 _).mono ?_
  rintro e1 w1 ⟨rfl, rfl⟩
  generalize w.alloc (.cells #[.bool false, .slice none 0 0, .slice none 0 0, .int .i64 0, .int .i64 0, .string ⟨#[]⟩, .slice none 0 0] 71 (0, 0)) = W0 at *
  have HST := Lib.hid (show DoRel 3 W0 (.int .i64 ((0 : Nat) : Int)) W0 from ⟨0, by omega, rfl, Below.refl _ _⟩)
  go_wp2
  go_loopw [19] (fun v19 wr => DoRel 3 W0 v19 wr) (fun v19 _ => 3 - (intOf v19).toNat)
  case atStart => exact HST.out
  case round =>
    clear HST
    obtain ⟨i, hi, rfl, hbl⟩ := hrel
    have HBL := Lib.hid hbl
    clear hbl
    by_cases hin : i < 3
    · have hin' : i < ts.length := by rw [HL.out]; exact hin
      obtain ⟨T, hT⟩ : ∃ T, T = ts[i] := ⟨_, rfl⟩
      have hTs : T.size ≤ 100000000 ∧ checkT T = 0 := by rw [hT]; exact hM _ (List.getElem_mem _)
      have hT9 : T.size ≤ 1000000000 := by omega
      obtain ⟨b, off, e1, -, hat⟩ := (H.out.below ((HB0.out.trans (HBL.out.mono HB0.out.size)))).at i hin'
      rw [← hT] at hat
      subst e1
      have b1 : decide ((i : Int) < 3) = true := by simp; omega
      obtain ⟨qa, qc, y0, y1, y2, y3, hit, hbw⟩ := hat.read
      have hba : Below wr.heap.size wr (wr.alloc (.cells #[.int .i64 T.k, .int .i64 T.n, .string T.s, .slice qa T.args.length qc] 49 (0, 0))) := (Below.refl _ _).alloc (Nat.le_refl _) _
      have HIT := Lib.hid (hit.below hba)
      have HBA := Lib.hid (HBL.out.trans (hba.mono HBL.out.size))
      have HTC := Lib.hid hTs.2
      clear hat hit hba HBL hT hM hTs
      go_wp2_with fail
      refine (tm_Check T _ _ _ hT9 HIT.out).mono ?_
      rintro e9 w9 ⟨rfl, hb9⟩
      rw [HTC.out]
      have HRL := Lib.hid (show DoRel 3 W0 (.int .i64 ((i + 1 : Nat) : Int)) w9 from ⟨i + 1, by omega, rfl, HBA.out.trans (hb9.mono HBA.out.size)⟩)
      clear hb9 HBA HIT HTC
      go_wp2
      go_roundw
      case measure => simp [intOf]; omega
      case rel => exact HRL.out
    · have b1 : decide ((i : Int) < 3) = false := by simp; omega
      have hb1 := HB0.out.trans (HBL.out.mono HB0.out.size)
      have hr1 := row_on HR0.out HBL.out
      have HB1 := Lib.hid hb1
      have HR1 := Lib.hid hr1
      have hs1 : w.heap.size < wr.heap.size := Nat.lt_of_lt_of_le hs0 HBL.out.size
      clear hb1 hr1 HB0 HR0 HBL hs0
      go_wp2_with fail
      refine (sh_orders _).mono ?_
      rintro e2 w2 ⟨ob, rfl, hob, hom, hb2⟩
      have HB2 := Lib.hid (HB1.out.trans (hb2.mono HB1.out.size))
      have HR2 := Lib.hid (row_on HR1.out hb2)
      have hs2 : w.heap.size < w2.heap.size := Nat.lt_of_lt_of_le hs1 hb2.size
      have HOM := Lib.hid hom
      clear hob hom hb2 HB1 HR1 hs1
      go_wp2_with (with_reducible show wpList _ _ _ (⟨some 33, _, _, _, _, _⟩ :: _) _ _
                   go_must (
                     refine wpList_lookup_now rfl 134 (.tmp 31) (.tmp 32) rfl _ _ _ Try.underlying134 Try.underlying9 rfl ob _ _ rfl HOM.out none (by kernel_rfl) .nilFunc (fun _ => rfl) ?_
                     clear HOM))
      refine (sh_builtins _ _ _ _ _).mono ?_
      rintro e3 w3 ⟨mb, rfl, hmb, hmm, hb3⟩
      have HB3 := Lib.hid (HB2.out.trans (hb3.mono HB2.out.size))
      have HR3 := Lib.hid (row_on HR2.out hb3)
      have hs3 : w.heap.size < w3.heap.size := Nat.lt_of_lt_of_le hs2 hb3.size
      have HMM := Lib.hid hmm
      clear hmb hmm hb3 HB2 HR2 hs2
      go_wp2_with (with_reducible show wpList _ _ _ (⟨some 52, _, _, _, _, _⟩ :: _) _ _
                   go_must (
                     refine wpList_lookup_val rfl 138 (.tmp 50) (.tmp 51) rfl _ _ _ Try.underlying138 Try.underlying9 rfl mb _ _ rfl HMM.out (8, .func (.func 85) #[.agg #[.string (⟨#[99, 111, 109, 112, 97, 114, 101]⟩ : ByteArray), .slice a 3 c]] #[]) (by kernel_rfl) ?_
                     clear HMM))
      refine (sh_compare _ x t u P w3 a c (HE.out ▸ H.out.below HB3.out) HX.out (by have := (HMM0.out t (by rw [HE.out]; simp)).1; omega) (by have := (HMM0.out u (by rw [HE.out]; simp)).1; omega)).mono ?_
      rintro e4 w4 ⟨va, vt, rfl, hi4, hs4, hb4⟩
      obtain ⟨q1, k1, e1⟩ : ∃ q k, va = .slice q 1 k := hi4.firsts
      obtain ⟨q2, k2, e2⟩ : ∃ q k, vt = .slice q 1 k := hs4.form
      subst e1 e2
      have HFIN := Lib.hid (fun cs => DidOk.do cs HB3.out hs3 hi4 hs4 hb4)
      have HR4 := Lib.hid (row_on HR3.out hb4)
      clear hi4 hs4 hb4 HB3 HR3
      go_wp2_with (with_reducible show wpList _ _ _ (⟨none, .store _ (.tmp 4) _, _, _, _, _⟩ :: _) _ _
                   go_must (
                     refine wpList_store_row rfl 71 (.tmp 4) (.tmp 53) rfl w.heap.size #[.bool true, .slice q1 1 k1, .slice q2 1 k2, .int .i64 0, .int .i64 0, .string ⟨#[]⟩, .slice none 0 0] rfl rfl _ _ HR4.out size_did rfl (one7 _ _ _ _ _ _ _) ?_))
      have hz := setRow_heap w4 w.heap.size _ (#[.bool true, .slice q1 1 k1, .slice q2 1 k2, .int .i64 0, .int .i64 0, .string ⟨#[]⟩, .slice none 0 0] : Array Value) _ _ HR4.out
      exact bodyPost_ret (v := .tuple #[.agg #[.bool true, .slice q1 1 k1, .slice q2 1 k2, .int .i64 0, .int .i64 0, .string ⟨#[]⟩, .slice none 0 0], .int .i64 0]) (Push.results_cell_tmp Try.results28 _ _ w.heap.size _ #[.bool true, .slice q1 1 k1, .slice q2 1 k2, .int .i64 0, .int .i64 0, .string ⟨#[]⟩, .slice none 0 0] _ _ _ rfl (by simp) hz Try.underlying71 rfl (by kernel_rfl)) rfl (HFIN.out _)
set_option maxRecDepth 100000 in
set_option maxHeartbeats 4000000 in
theorem sh_Do_functor (ts : List Tm) (x y z : Tm) (f : Int) (rs : List Tm) (P : Nat → Prop) (w : World) (a : Option Addr) (c : Nat) (h : IsSl w P (.slice a 3 c) ts) (hl : ts.length = 3) (hM : ∀ t ∈ ts, t.size ≤ 100000000 ∧ checkT t = 0) (he : ts = [x, y, z]) (hx : FnC x y z f rs) :
    Calls Try.prog 28 #[.string (⟨#[102, 117, 110, 99, 116, 111, 114]⟩ : ByteArray), .slice a 3 c] w (DoOk f rs w) := by
  have H := Lib.hid h
  have HL := Lib.hid hl
  have HE := Lib.hid he
  have HX := Lib.hid hx
  have HMM0 := Lib.hid hM
  clear h hl he hx
  have hb0 : Below w.heap.size w (w.alloc (.cells #[.bool false, .slice none 0 0, .slice none 0 0, .int .i64 0, .int .i64 0, .string ⟨#[]⟩, .slice none 0 0] 71 (0, 0))) := (Below.refl _ _).alloc (Nat.le_refl _) _
  have HB0 := Lib.hid hb0
  have HR0 := Lib.hid (heap_alloc_new w (.cells #[.bool false, .slice none 0 0, .slice none 0 0, .int .i64 0, .int .i64 0, .string ⟨#[]⟩, .slice none 0 0] 71 (0, 0)))
  have hs0 : w.heap.size < (w.alloc (.cells #[.bool false, .slice none 0 0, .slice none 0 0, .int .i64 0, .int .i64 0, .string ⟨#[]⟩, .slice none 0 0] 71 (0, 0))).heap.size := by simp
  clear hb0
  go_enter Try.func28, Try.ntmps28
  go_wp2_with fail
  refine (sh_Does .s7 _).mono ?_
  rintro e1 w1 ⟨rfl, rfl⟩
  generalize w.alloc (.cells #[.bool false, .slice none 0 0, .slice none 0 0, .int .i64 0, .int .i64 0, .string ⟨#[]⟩, .slice none 0 0] 71 (0, 0)) = W0 at *
  have HST := Lib.hid (show DoRel 3 W0 (.int .i64 ((0 : Nat) : Int)) W0 from ⟨0, by omega, rfl, Below.refl _ _⟩)
  go_wp2
  go_loopw [19] (fun v19 wr => DoRel 3 W0 v19 wr) (fun v19 _ => 3 - (intOf v19).toNat)
  case atStart => exact HST.out
  case round =>
    clear HST
    obtain ⟨i, hi, rfl, hbl⟩ := hrel
    have HBL := Lib.hid hbl
    clear hbl
    by_cases hin : i < 3
    · have hin' : i < ts.length := by rw [HL.out]; exact hin
      obtain ⟨T, hT⟩ : ∃ T, T = ts[i] := ⟨_, rfl⟩
      have hTs : T.size ≤ 100000000 ∧ checkT T = 0 := by rw [hT]; exact hM _ (List.getElem_mem _)
      have hT9 : T.size ≤ 1000000000 := by omega
      obtain ⟨b, off, e1, -, hat⟩ := (H.out.below ((HB0.out.trans (HBL.out.mono HB0.out.size)))).at i hin'
      rw [← hT] at hat
      subst e1
      have b1 : decide ((i : Int) < 3) = true := by simp; omega
      obtain ⟨qa, qc, y0, y1, y2, y3, hit, hbw⟩ := hat.read
      have hba : Below wr.heap.size wr (wr.alloc (.cells #[.int .i64 T.k, .int .i64 T.n, .string T.s, .slice qa T.args.length qc] 49 (0, 0))) := (Below.refl _ _).alloc (Nat.le_refl _) _
      have HIT := Lib.hid (hit.below hba)
      have HBA := Lib.hid (HBL.out.trans (hba.mono HBL.out.size))
      have HTC := Lib.hid hTs.2
      clear hat hit hba HBL hT hM hTs
      go_wp2_with fail
      refine (tm_Check T _ _ _ hT9 HIT.out).mono ?_
      rintro e9 w9 ⟨rfl, hb9⟩
      rw [HTC.out]
      have HRL := Lib.hid (show DoRel 3 W0 (.int .i64 ((i + 1 : Nat) : Int)) w9 from ⟨i + 1, by omega, rfl, HBA.out.trans (hb9.mono HBA.out.size)⟩)
      clear hb9 HBA HIT HTC
      go_wp2
      go_roundw
      case measure => simp [intOf]; omega
      case rel => exact HRL.out
    · have b1 : decide ((i : Int) < 3) = false := by simp; omega
      have hb1 := HB0.out.trans (HBL.out.mono HB0.out.size)
      have hr1 := row_on HR0.out HBL.out
      have HB1 := Lib.hid hb1
      have HR1 := Lib.hid hr1
      have hs1 : w.heap.size < wr.heap.size := Nat.lt_of_lt_of_le hs0 HBL.out.size
      clear hb1 hr1 HB0 HR0 HBL hs0
      go_wp2_with fail
      refine (sh_orders _).mono ?_
      rintro e2 w2 ⟨ob, rfl, hob, hom, hb2⟩
      have HB2 := Lib.hid (HB1.out.trans (hb2.mono HB1.out.size))
      have HR2 := Lib.hid (row_on HR1.out hb2)
      have hs2 : w.heap.size < w2.heap.size := Nat.lt_of_lt_of_le hs1 hb2.size
      have HOM := Lib.hid hom
      clear hob hom hb2 HB1 HR1 hs1
      go_wp2_with (with_reducible show wpList _ _ _ (⟨some 33, _, _, _, _, _⟩ :: _) _ _
                   go_must (
                     refine wpList_lookup_now rfl 134 (.tmp 31) (.tmp 32) rfl _ _ _ Try.underlying134 Try.underlying9 rfl ob _ _ rfl HOM.out none (by kernel_rfl) .nilFunc (fun _ => rfl) ?_
                     clear HOM))
      refine (sh_builtins _ _ _ _ _).mono ?_
      rintro e3 w3 ⟨mb, rfl, hmb, hmm, hb3⟩
      have HB3 := Lib.hid (HB2.out.trans (hb3.mono HB2.out.size))
      have HR3 := Lib.hid (row_on HR2.out hb3)
      have hs3 : w.heap.size < w3.heap.size := Nat.lt_of_lt_of_le hs2 hb3.size
      have HMM := Lib.hid hmm
      clear hmb hmm hb3 HB2 HR2 hs2
      go_wp2_with (with_reducible show wpList _ _ _ (⟨some 52, _, _, _, _, _⟩ :: _) _ _
                   go_must (
                     refine wpList_lookup_val rfl 138 (.tmp 50) (.tmp 51) rfl _ _ _ Try.underlying138 Try.underlying9 rfl mb _ _ rfl HMM.out (16, .func (.func 88) #[.agg #[.string (⟨#[102, 117, 110, 99, 116, 111, 114]⟩ : ByteArray), .slice a 3 c]] #[]) (by kernel_rfl) ?_
                     clear HMM))
      refine (sh_functor _ x y z f rs P w3 a c (HE.out ▸ H.out.below HB3.out) (by have := (HMM0.out x (by rw [HE.out]; simp)).1; omega) (by have := (HMM0.out y (by rw [HE.out]; simp)).1; omega) HX.out).mono ?_
      rintro e4 w4 ⟨va, vt, rfl, hi4, hs4, hb4⟩
      obtain ⟨q1, k1, e1⟩ : ∃ q k, va = .slice q rs.length k := hi4.firsts
      obtain ⟨q2, k2, e2⟩ : ∃ q k, vt = .slice q rs.length k := hs4.form
      subst e1 e2
      have HFIN := Lib.hid (fun cs => DidOk.do cs HB3.out hs3 hi4 hs4 hb4)
      have HR4 := Lib.hid (row_on HR3.out hb4)
      clear hi4 hs4 hb4 HB3 HR3
      go_wp2_with (with_reducible show wpList _ _ _ (⟨none, .store _ (.tmp 4) _, _, _, _, _⟩ :: _) _ _
                   go_must (
                     refine wpList_store_row rfl 71 (.tmp 4) (.tmp 53) rfl w.heap.size #[.bool true, .slice q1 rs.length k1, .slice q2 rs.length k2, .int .i64 0, .int .i64 0, .string ⟨#[]⟩, .slice none 0 0] rfl rfl _ _ HR4.out size_did rfl (one7 _ _ _ _ _ _ _) ?_))
      have hz := setRow_heap w4 w.heap.size _ (#[.bool true, .slice q1 rs.length k1, .slice q2 rs.length k2, .int .i64 0, .int .i64 0, .string ⟨#[]⟩, .slice none 0 0] : Array Value) _ _ HR4.out
      exact bodyPost_ret (v := .tuple #[.agg #[.bool true, .slice q1 rs.length k1, .slice q2 rs.length k2, .int .i64 0, .int .i64 0, .string ⟨#[]⟩, .slice none 0 0], .int .i64 0]) (Push.results_cell_tmp Try.results28 _ _ w.heap.size _ #[.bool true, .slice q1 rs.length k1, .slice q2 rs.length k2, .int .i64 0, .int .i64 0, .string ⟨#[]⟩, .slice none 0 0] _ _ _ rfl (by simp) hz Try.underlying71 rfl (by kernel_rfl)) rfl (HFIN.out _)
set_option maxRecDepth 100000 in
set_option maxHeartbeats 4000000 in
theorem sh_Do_univ (ts : List Tm) (x y : Tm) (f : Int) (rs : List Tm) (P : Nat → Prop) (w : World) (a : Option Addr) (c : Nat) (h : IsSl w P (.slice a 2 c) ts) (hl : ts.length = 2) (hM : ∀ t ∈ ts, t.size ≤ 100000000 ∧ checkT t = 0) (he : ts = [x, y]) (hx : UvC x y f rs) :
    Calls Try.prog 28 #[.string (⟨#[61, 46, 46]⟩ : ByteArray), .slice a 2 c] w (DoOk f rs w) := by
  have H := Lib.hid h
  have HL := Lib.hid hl
  have HE := Lib.hid he
  have HX := Lib.hid hx
  have HMM0 := Lib.hid hM
  clear h hl he hx
  have hb0 : Below w.heap.size w (w.alloc (.cells #[.bool false, .slice none 0 0, .slice none 0 0, .int .i64 0, .int .i64 0, .string ⟨#[]⟩, .slice none 0 0] 71 (0, 0))) := (Below.refl _ _).alloc (Nat.le_refl _) _
  have HB0 := Lib.hid hb0
  have HR0 := Lib.hid (heap_alloc_new w (.cells #[.bool false, .slice none 0 0, .slice none 0 0, .int .i64 0, .int .i64 0, .string ⟨#[]⟩, .slice none 0 0] 71 (0, 0)))
  have hs0 : w.heap.size < (w.alloc (.cells #[.bool false, .slice none 0 0, .slice none 0 0, .int .i64 0, .int .i64 0, .string ⟨#[]⟩, .slice none 0 0] 71 (0, 0))).heap.size := by simp
  clear hb0
  go_enter Try.func28, Try.ntmps28
  go_wp2_with fail
  refine (sh_Does .s10 _).mono ?_
  rintro e1 w1 ⟨rfl, rfl⟩
  generalize w.alloc (.cells #[.bool false, .slice none 0 0, .slice none 0 0, .int .i64 0, .int .i64 0, .string ⟨#[]⟩, .slice none 0 0] 71 (0, 0)) = W0 at *
  have HST := Lib.hid (show DoRel 2 W0 (.int .i64 ((0 : Nat) : Int)) W0 from ⟨0, by omega, rfl, Below.refl _ _⟩)
  go_wp2
  go_loopw [19] (fun v19 wr => DoRel 2 W0 v19 wr) (fun v19 _ => 2 - (intOf v19).toNat)
  case atStart => exact HST.out
  case round =>
    clear HST
    obtain ⟨i, hi, rfl, hbl⟩ := hrel
    have HBL := Lib.hid hbl
    clear hbl
    by_cases hin : i < 2
    · have hin' : i < ts.length := by rw [HL.out]; exact hin
      obtain ⟨T, hT⟩ : ∃ T, T = ts[i] := ⟨_, rfl⟩
      have hTs : T.size ≤ 100000000 ∧ checkT T = 0 := by rw [hT]; exact hM _ (List.getElem_mem _)
      have hT9 : T.size ≤ 1000000000 := by omega
      obtain ⟨b, off, e1, -, hat⟩ := (H.out.below ((HB0.out.trans (HBL.out.mono HB0.out.size)))).at i hin'
      rw [← hT] at hat
      subst e1
      have b1 : decide ((i : Int) < 2) = true := by simp; omega
      obtain ⟨qa, qc, y0, y1, y2, y3, hit, hbw⟩ := hat.read
      have hba : Below wr.heap.size wr (wr.alloc (.cells #[.int .i64 T.k, .int .i64 T.n, .string T.s, .slice qa T.args.length qc] 49 (0, 0))) := (Below.refl _ _).alloc (Nat.le_refl _) _
      have HIT := Lib.hid (hit.below hba)
      have HBA := Lib.hid (HBL.out.trans (hba.mono HBL.out.size))
      have HTC := Lib.hid hTs.2
      clear hat hit hba HBL hT hM hTs
      go_wp2_with fail
      refine (tm_Check T _ _ _ hT9 HIT.out).mono ?_
      rintro e9 w9 ⟨rfl, hb9⟩
      rw [HTC.out]
      have HRL := Lib.hid (show DoRel 2 W0 (.int .i64 ((i + 1 : Nat) : Int)) w9 from ⟨i + 1, by omega, rfl, HBA.out.trans (hb9.mono HBA.out.size)⟩)
      clear hb9 HBA HIT HTC
      go_wp2
      go_roundw
      case measure => simp [intOf]; omega
      case rel => exact HRL.out
    · have b1 : decide ((i : Int) < 2) = false := by simp; omega
      have hb1 := HB0.out.trans (HBL.out.mono HB0.out.size)
      have hr1 := row_on HR0.out HBL.out
      have HB1 := Lib.hid hb1
      have HR1 := Lib.hid hr1
      have hs1 : w.heap.size < wr.heap.size := Nat.lt_of_lt_of_le hs0 HBL.out.size
      clear hb1 hr1 HB0 HR0 HBL hs0
      go_wp2_with fail
      refine (sh_orders _).mono ?_
      rintro e2 w2 ⟨ob, rfl, hob, hom, hb2⟩
      have HB2 := Lib.hid (HB1.out.trans (hb2.mono HB1.out.size))
      have HR2 := Lib.hid (row_on HR1.out hb2)
      have hs2 : w.heap.size < w2.heap.size := Nat.lt_of_lt_of_le hs1 hb2.size
      have HOM := Lib.hid hom
      clear hob hom hb2 HB1 HR1 hs1
      go_wp2_with (with_reducible show wpList _ _ _ (⟨some 33, _, _, _, _, _⟩ :: _) _ _
                   go_must (
                     refine wpList_lookup_now rfl 134 (.tmp 31) (.tmp 32) rfl _ _ _ Try.underlying134 Try.underlying9 rfl ob _ _ rfl HOM.out none (by kernel_rfl) .nilFunc (fun _ => rfl) ?_
                     clear HOM))
      refine (sh_builtins _ _ _ _ _).mono ?_
      rintro e3 w3 ⟨mb, rfl, hmb, hmm, hb3⟩
      have HB3 := Lib.hid (HB2.out.trans (hb3.mono HB2.out.size))
      have HR3 := Lib.hid (row_on HR2.out hb3)
      have hs3 : w.heap.size < w3.heap.size := Nat.lt_of_lt_of_le hs2 hb3.size
      have HMM := Lib.hid hmm
      clear hmb hmm hb3 HB2 HR2 hs2
      go_wp2_with (with_reducible show wpList _ _ _ (⟨some 52, _, _, _, _, _⟩ :: _) _ _
                   go_must (
                     refine wpList_lookup_val rfl 138 (.tmp 50) (.tmp 51) rfl _ _ _ Try.underlying138 Try.underlying9 rfl mb _ _ rfl HMM.out (18, .func (.func 90) #[.agg #[.string (⟨#[61, 46, 46]⟩ : ByteArray), .slice a 2 c]] #[]) (by kernel_rfl) ?_
                     clear HMM))
      refine (sh_univ _ x y f rs P w3 a c (HE.out ▸ H.out.below HB3.out) (by have := (HMM0.out x (by rw [HE.out]; simp)).1; omega) (by have := (HMM0.out y (by rw [HE.out]; simp)).1; omega) HX.out).mono ?_
      rintro e4 w4 ⟨va, vt, rfl, hi4, hs4, hb4⟩
      obtain ⟨q1, k1, e1⟩ : ∃ q k, va = .slice q rs.length k := hi4.firsts
      obtain ⟨q2, k2, e2⟩ : ∃ q k, vt = .slice q rs.length k := hs4.form
      subst e1 e2
      have HFIN := Lib.hid (fun cs => DidOk.do cs HB3.out hs3 hi4 hs4 hb4)
      have HR4 := Lib.hid (row_on HR3.out hb4)
      clear hi4 hs4 hb4 HB3 HR3
      go_wp2_with (with_reducible show wpList _ _ _ (⟨none, .store _ (.tmp 4) _, _, _, _, _⟩ :: _) _ _
                   go_must (
                     refine wpList_store_row rfl 71 (.tmp 4) (.tmp 53) rfl w.heap.size #[.bool true, .slice q1 rs.length k1, .slice q2 rs.length k2, .int .i64 0, .int .i64 0, .string ⟨#[]⟩, .slice none 0 0] rfl rfl _ _ HR4.out size_did rfl (one7 _ _ _ _ _ _ _) ?_))
      have hz := setRow_heap w4 w.heap.size _ (#[.bool true, .slice q1 rs.length k1, .slice q2 rs.length k2, .int .i64 0, .int .i64 0, .string ⟨#[]⟩, .slice none 0 0] : Array Value) _ _ HR4.out
      exact bodyPost_ret (v := .tuple #[.agg #[.bool true, .slice q1 rs.length k1, .slice q2 rs.length k2, .int .i64 0, .int .i64 0, .string ⟨#[]⟩, .slice none 0 0], .int .i64 0]) (Push.results_cell_tmp Try.results28 _ _ w.heap.size _ #[.bool true, .slice q1 rs.length k1, .slice q2 rs.length k2, .int .i64 0, .int .i64 0, .string ⟨#[]⟩, .slice none 0 0] _ _ _ rfl (by simp) hz Try.underlying71 rfl (by kernel_rfl)) rfl (HFIN.out _)
set_option maxRecDepth 100000 in
set_option maxHeartbeats 4000000 in
theorem sh_Do_arg (ts : List Tm) (x y z : Tm) (P : Nat → Prop) (w : World) (a : Option Addr) (c : Nat) (h : IsSl w P (.slice a 3 c) ts) (hl : ts.length = 3) (hM : ∀ t ∈ ts, t.size ≤ 100000000 ∧ checkT t = 0) (he : ts = [x, y, z]) (hx : x.k = 2) (hx1 : 1 ≤ x.n) (hx2 : x.n ≤ 1000000000) (hy : y.k ≠ 1) :
    Calls Try.prog 28 #[.string (⟨#[97, 114, 103]⟩ : ByteArray), .slice a 3 c] w (DoArg x y w) := by
  have H := Lib.hid h
  have HL := Lib.hid hl
  have HE := Lib.hid he
  have HX := Lib.hid hx
  have HY := Lib.hid hy
  have HMM0 := Lib.hid hM
  clear h hl he hx hy
  have hb0 : Below w.heap.size w (w.alloc (.cells #[.bool false, .slice none 0 0, .slice none 0 0, .int .i64 0, .int .i64 0, .string ⟨#[]⟩, .slice none 0 0] 71 (0, 0))) := (Below.refl _ _).alloc (Nat.le_refl _) _
  have HB0 := Lib.hid hb0
  have HR0 := Lib.hid (heap_alloc_new w (.cells #[.bool false, .slice none 0 0, .slice none 0 0, .int .i64 0, .int .i64 0, .string ⟨#[]⟩, .slice none 0 0] 71 (0, 0)))
  have hs0 : w.heap.size < (w.alloc (.cells #[.bool false, .slice none 0 0, .slice none 0 0, .int .i64 0, .int .i64 0, .string ⟨#[]⟩, .slice none 0 0] 71 (0, 0))).heap.size := by simp
  clear hb0
  go_enter Try.func28, Try.ntmps28
  go_wp2_with fail
  refine (sh_Does .s8 _).mono ?_
  rintro e1 w1 ⟨rfl, rfl⟩
  generalize w.alloc (.cells #[.bool false, .slice none 0 0, .slice none 0 0, .int .i64 0, .int .i64 0, .string ⟨#[]⟩, .slice none 0 0] 71 (0, 0)) = W0 at *
  have HST := Lib.hid (show DoRel 3 W0 (.int .i64 ((0 : Nat) : Int)) W0 from ⟨0, by omega, rfl, Below.refl _ _⟩)
  go_wp2
  go_loopw [19] (fun v19 wr => DoRel 3 W0 v19 wr) (fun v19 _ => 3 - (intOf v19).toNat)
  case atStart => exact HST.out
  case round =>
    clear HST
    obtain ⟨i, hi, rfl, hbl⟩ := hrel
    have HBL := Lib.hid hbl
    clear hbl
    by_cases hin : i < 3
    · have hin' : i < ts.length := by rw [HL.out]; exact hin
      obtain ⟨T, hT⟩ : ∃ T, T = ts[i] := ⟨_, rfl⟩
      have hTs : T.size ≤ 100000000 ∧ checkT T = 0 := by rw [hT]; exact hM _ (List.getElem_mem _)
      have hT9 : T.size ≤ 1000000000 := by omega
      obtain ⟨b, off, e1, -, hat⟩ := (H.out.below ((HB0.out.trans (HBL.out.mono HB0.out.size)))).at i hin'
      rw [← hT] at hat
      subst e1
      have b1 : decide ((i : Int) < 3) = true := by simp; omega
      obtain ⟨qa, qc, y0, y1, y2, y3, hit, hbw⟩ := hat.read
      have hba : Below wr.heap.size wr (wr.alloc (.cells #[.int .i64 T.k, .int .i64 T.n, .string T.s, .slice qa T.args.length qc] 49 (0, 0))) := (Below.refl _ _).alloc (Nat.le_refl _) _
      have HIT := Lib.hid (hit.below hba)
      have HBA := Lib.hid (HBL.out.trans (hba.mono HBL.out.size))
      have HTC := Lib.hid hTs.2
      clear hat hit hba HBL hT hM hTs
      go_wp2_with fail
      refine (tm_Check T _ _ _ hT9 HIT.out).mono ?_
      rintro e9 w9 ⟨rfl, hb9⟩
      rw [HTC.out]
      have HRL := Lib.hid (show DoRel 3 W0 (.int .i64 ((i + 1 : Nat) : Int)) w9 from ⟨i + 1, by omega, rfl, HBA.out.trans (hb9.mono HBA.out.size)⟩)
      clear hb9 HBA HIT HTC
      go_wp2
      go_roundw
      case measure => simp [intOf]; omega
      case rel => exact HRL.out
    · have b1 : decide ((i : Int) < 3) = false := by simp; omega
      have hb1 := HB0.out.trans (HBL.out.mono HB0.out.size)
      have hr1 := row_on HR0.out HBL.out
      have HB1 := Lib.hid hb1
      have HR1 := Lib.hid hr1
      have hs1 : w.heap.size < wr.heap.size := Nat.lt_of_lt_of_le hs0 HBL.out.size
      clear hb1 hr1 HB0 HR0 HBL hs0
      go_wp2_with fail
      refine (sh_orders _).mono ?_
      rintro e2 w2 ⟨ob, rfl, hob, hom, hb2⟩
      have HB2 := Lib.hid (HB1.out.trans (hb2.mono HB1.out.size))
      have HR2 := Lib.hid (row_on HR1.out hb2)
      have hs2 : w.heap.size < w2.heap.size := Nat.lt_of_lt_of_le hs1 hb2.size
      have HOM := Lib.hid hom
      clear hob hom hb2 HB1 HR1 hs1
      go_wp2_with (with_reducible show wpList _ _ _ (⟨some 33, _, _, _, _, _⟩ :: _) _ _
                   go_must (
                     refine wpList_lookup_now rfl 134 (.tmp 31) (.tmp 32) rfl _ _ _ Try.underlying134 Try.underlying9 rfl ob _ _ rfl HOM.out none (by kernel_rfl) .nilFunc (fun _ => rfl) ?_
                     clear HOM))
      refine (sh_builtins _ _ _ _ _).mono ?_
      rintro e3 w3 ⟨mb, rfl, hmb, hmm, hb3⟩
      have HB3 := Lib.hid (HB2.out.trans (hb3.mono HB2.out.size))
      have HR3 := Lib.hid (row_on HR2.out hb3)
      have hs3 : w.heap.size < w3.heap.size := Nat.lt_of_lt_of_le hs2 hb3.size
      have HMM := Lib.hid hmm
      clear hmb hmm hb3 HB2 HR2 hs2
      go_wp2_with (with_reducible show wpList _ _ _ (⟨some 52, _, _, _, _, _⟩ :: _) _ _
                   go_must (
                     refine wpList_lookup_val rfl 138 (.tmp 50) (.tmp 51) rfl _ _ _ Try.underlying138 Try.underlying9 rfl mb _ _ rfl HMM.out (17, .func (.func 89) #[.agg #[.string (⟨#[97, 114, 103]⟩ : ByteArray), .slice a 3 c]] #[]) (by kernel_rfl) ?_
                     clear HMM))
      refine (sh_arg _ x y z P w3 a c (HE.out ▸ H.out.below HB3.out) HX.out hx1 hx2 HY.out (by have := (HMM0.out y (by rw [HE.out]; simp)).1; omega)).mono ?_
      rintro e4 w4 (⟨hlt, hk4, va, vt, rfl, hi4, hs4, hb4⟩ | ⟨hno, k5, n5, s5, q5, m5, c5, rfl, hb4⟩)
      · skip
        obtain ⟨q1, k1, e1⟩ : ∃ q k, va = .slice q 1 k := hi4.firsts
        obtain ⟨q2, k2, e2⟩ : ∃ q k, vt = .slice q 1 k := hs4.form
        subst e1 e2
        have HFIN := Lib.hid (fun cs => DidOk.do cs HB3.out hs3 hi4 hs4 hb4)
        have HR4 := Lib.hid (row_on HR3.out hb4)
        clear hi4 hs4 hb4 HB3 HR3
        go_wp2_with (with_reducible show wpList _ _ _ (⟨none, .store _ (.tmp 4) _, _, _, _, _⟩ :: _) _ _
                     go_must (
                       refine wpList_store_row rfl 71 (.tmp 4) (.tmp 53) rfl w.heap.size #[.bool true, .slice q1 1 k1, .slice q2 1 k2, .int .i64 0, .int .i64 0, .string ⟨#[]⟩, .slice none 0 0] rfl rfl _ _ HR4.out size_did rfl (one7 _ _ _ _ _ _ _) ?_))
        have hz := setRow_heap w4 w.heap.size _ (#[.bool true, .slice q1 1 k1, .slice q2 1 k2, .int .i64 0, .int .i64 0, .string ⟨#[]⟩, .slice none 0 0] : Array Value) _ _ HR4.out
        exact bodyPost_ret (v := .tuple #[.agg #[.bool true, .slice q1 1 k1, .slice q2 1 k2, .int .i64 0, .int .i64 0, .string ⟨#[]⟩, .slice none 0 0], .int .i64 0]) (Push.results_cell_tmp Try.results28 _ _ w.heap.size _ #[.bool true, .slice q1 1 k1, .slice q2 1 k2, .int .i64 0, .int .i64 0, .string ⟨#[]⟩, .slice none 0 0] _ _ _ rfl (by simp) hz Try.underlying71 rfl (by kernel_rfl)) rfl (.inl ⟨hlt, hk4, HFIN.out _⟩)
      · skip
        have HFIN := Lib.hid (below_row (cs := #[.bool false, .slice none 0 0, .slice none 0 0, .int .i64 k5, .int .i64 n5, .string s5, .slice q5 m5 c5]) (HB3.out.trans (hb4.mono HB3.out.size)) (Nat.le_refl _))
        have HR4 := Lib.hid (row_on HR3.out hb4)
        clear hb4 HB3 HR3
        go_wp2_with (with_reducible show wpList _ _ _ (⟨none, .store _ (.tmp 4) _, _, _, _, _⟩ :: _) _ _
                     go_must (
                       refine wpList_store_row rfl 71 (.tmp 4) (.tmp 53) rfl w.heap.size #[.bool false, .slice none 0 0, .slice none 0 0, .int .i64 k5, .int .i64 n5, .string s5, .slice q5 m5 c5] rfl rfl _ _ HR4.out size_did rfl (by simp [Value.oneCell']) ?_))
        have hz := setRow_heap w4 w.heap.size _ (#[.bool false, .slice none 0 0, .slice none 0 0, .int .i64 k5, .int .i64 n5, .string s5, .slice q5 m5 c5] : Array Value) _ _ HR4.out
        exact bodyPost_ret (v := .tuple #[.agg #[.bool false, .slice none 0 0, .slice none 0 0, .int .i64 k5, .int .i64 n5, .string s5, .slice q5 m5 c5], .int .i64 0]) (Push.results_cell_tmp Try.results28 _ _ w.heap.size _ #[.bool false, .slice none 0 0, .slice none 0 0, .int .i64 k5, .int .i64 n5, .string s5, .slice q5 m5 c5] _ _ _ rfl (by simp) hz Try.underlying71 rfl (by kernel_rfl)) rfl (.inr ⟨hno, k5, n5, s5, q5, m5, c5, rfl, HFIN.out⟩)
end Go.Proofs.Ytkhchmgdaolojaa.Tms
