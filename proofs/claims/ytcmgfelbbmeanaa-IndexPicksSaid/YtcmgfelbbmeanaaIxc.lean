
/-
  Layer 20: the law's codes, ints, walked; Pick of any term.
-/
import Derived.Test.YtcmgfelbbmeanaaIxv
import Derived.Test.YtcmgfelbbmeanaaCpl
import Derived.Test.YtcmgfelbbmeanaaPtn
import Derived.Deep.Upon
namespace Go.Proofs.Ytcmgfelbbmeanaa.Tms
open Go Go.RowKit Go.Proofs.Ytcmgfelbbmeanaa.Reg Go.Proofs.Ytcmgfelbbmeanaa.Rws Go.Proofs.Ytcmgfelbbmeanaa.Maps Go.Proofs.Ytcmgfelbbmeanaa.Cod Go.Instr
set_option linter.unusedVariables false
set_option linter.unusedSimpArgs false

theorem go_Pick {w : World} {xb mb base : Nat} {M : List (Kx × Value)} {rows : Option Kx → Value} {Ls : List (Option Kx)} (h : IxAt w xb mb base Ls.length M rows Ls) (hn : Ls.length ≤ 100000) (k n : Int) (s : ByteArray) (a : Option Addr) (m c : Nat) (args : Int) :
    Calls Try.prog 15 #[.pointer (some ⟨xb, 0, none⟩), .agg #[.int .i64 k, .int .i64 n, .string s, .slice a m c], .int .i64 args] w (PiPost (pickL Ls k (termK k n s args)) w) := by
  unfold pickL
  by_cases hk : k = 1
  · subst hk; rw [if_pos rfl]; exact go_Pick1 h hn n s a m c args
  · rw [if_neg hk]; exact go_Pick2 h hn k n hk s a m c args
/-- instructions in a row of blocks of P -/
def InsP (w : World) (P : Nat → Prop) (v : Value) (L : List Ins) : Prop := InsSl w v L ∧ (L ≠ [] → ∀ b, slBlk v = some b → P b)
theorem insKeepX {w w' : World} {v : Value} {L : List Ins} (h : InsSl w v L) (hk : L ≠ [] → ∀ b, slBlk v = some b → b < w.heap.size → w'.heap[b]? = w.heap[b]?) : InsSl w' v L := by
  obtain ⟨a, cap, rfl, hc⟩ := h
  refine ⟨a, cap, rfl, fun j hj => ?_⟩
  obtain ⟨b, off, rfl, hi⟩ := hc j hj
  have hb := hk (fun e => by rw [e] at hj; simp at hj) b rfl hi.lt
  have hcc := fun o => World.cell?_of_block (w := w) (w' := w') (a := ⟨b, o, none⟩) hb
  exact ⟨b, off, rfl, (hcc _).trans hi.1, (hcc _).trans hi.2.1, (hcc _).trans hi.2.2.1, (hcc _).trans hi.2.2.2⟩
theorem insBlk {w : World} {v : Value} {L : List Ins} (h : InsSl w v L) (hn : L ≠ []) : ∀ b, slBlk v = some b → b < w.heap.size := by
  obtain ⟨a, cap, rfl, hc⟩ := h
  intro b e
  have hp : 0 < L.length := List.length_pos_iff.2 hn
  obtain ⟨b', off, rfl, hi⟩ := hc 0 hp
  have : b' = b := by simpa [slBlk] using e
  subst this
  exact hi.lt
/-- a code in five cells -/
def cdKind (T : TypeId) : Rws.Kind Cod where
  T := T
  sz := 5
  R := fun w P cs c => ∃ a m k, cs = [.string c.name, .int .i64 c.args, .int .i64 c.slots, .int .i64 c.body, .slice a m k] ∧ InsP w P (.slice a m k) c.l
  pos := by decide
  len := by rintro w P cs c ⟨a, m, k, rfl, h⟩; rfl
  one := by
    rintro w P cs c ⟨a, m, k, rfl, h⟩ v hv
    simp only [List.mem_cons, List.not_mem_nil, or_false] at hv
    rcases hv with rfl | rfl | rfl | rfl | rfl <;> rfl
  mono := by
    rintro w w' P P' cs c hP hw ⟨a, m, k, rfl, h1, h2⟩
    exact ⟨a, m, k, rfl, insKeepX h1 fun hn b e hl => hw b (h2 hn b e) hl, fun hn b e => hP b (h2 hn b e)⟩
  lt := by
    rintro w P cs c ⟨a, m, k, rfl, h1, h2⟩
    exact ⟨a, m, k, rfl, h1, fun hn b e => ⟨h2 hn b e, insBlk h1 hn b e⟩⟩
theorem cosl_of_own {T : TypeId} {w : World} {base : Nat} {P : Nat → Prop} {v : Value} {Cs : List Cod} (h : Own (cdKind T) w base P v Cs) : CosSl w v Cs := by
  rcases h.form with ⟨rfl, e⟩ | ⟨g, c, rfl⟩
  · subst e
    exact ⟨none, 0, rfl, by simp, by decide, fun j hj => absurd hj (by simp)⟩
  · have hcap := h.caps
    refine ⟨_, c, rfl, hcap.1, hcap.2, fun j hj => ?_⟩
    obtain ⟨cs, ⟨a, m, k, rfl, h1, h2⟩, hc⟩ := h.elem rfl j hj
    have h0 := hc 0 (by show 0 < 5; omega)
    have h1' := hc 1 (by show 1 < 5; omega)
    have h2' := hc 2 (by show 2 < 5; omega)
    have h3 := hc 3 (by show 3 < 5; omega)
    have h4 := hc 4 (by show 4 < 5; omega)
    refine ⟨g, 0, _, rfl, (h.low g rfl).2, h1, ?_, ?_, ?_, ?_, ?_⟩
    · rw [Nat.zero_add]; exact h0
    · rw [Nat.zero_add]; exact h1'
    · rw [Nat.zero_add]; exact h2'
    · rw [Nat.zero_add]; exact h3
    · rw [Nat.zero_add]; exact h4
theorem info_cd : (Try.prog.info? 51).map (fun i => (i.zero, i.size, i.bytes)) = some (some (.agg #[.string ⟨#[]⟩, .int .i64 0, .int .i64 0, .int .i64 0, .slice none 0 0]), 5, 64) := by kernel_rfl
theorem info_rd : (Try.prog.info? 28).map (fun i => (i.zero, i.size, i.bytes)) = some (some (.agg #[.string ⟨#[]⟩, .int .i64 0, .int .i64 0, .int .i64 0, .slice none 0 0]), 5, 64) := by kernel_rfl
theorem owns_blk {w : World} {B n : Nat} {T : TypeId} {sz : Nat} {v : Value} {xs : List Value} (h : w.ownsRow B T sz v n xs) : ∀ b, slBlk v = some b → B ≤ b := by
  intro b e
  rcases h.2 with ⟨e2, -⟩ | ⟨g, cap, cur, e2, hb, -⟩
  · rw [e2] at e; cases e
  · rw [e2] at e
    have : g = b := by simpa [slBlk] using e
    omega
def CodsPost (Cs : List Cod) (w : World) (e : Ending) (w' : World) : Prop := ∃ v, e = .returned v ∧ CosSl w' v Cs ∧ Below w.heap.size w w'
def CdRel (Cs : List Cod) (w : World) (vi v3 : Value) (wr : World) : Prop := ∃ i : Nat, i ≤ Cs.length ∧ vi = .int .i64 i ∧ Own (cdKind 51) wr w.heap.size (fun b => w.heap.size ≤ b) v3 (Cs.take i) ∧ Below w.heap.size w wr
set_option maxRecDepth 100000 in
set_option maxHeartbeats 4000000 in
theorem go_codes (Cs : List Cod) (v : Value) (w : World) (h : CosSl w v Cs) (hl : ∀ c ∈ Cs, c.l.length ≤ 1000000) (hn : Cs.length ≤ 100000) :
    Calls Try.prog 13 #[v] w (CodsPost Cs w) := by
  obtain ⟨a, cap, e, h1, h2, -⟩ := id h
  subst e
  unfold maxLen at h2
  have H := Lib.hid h
  have hrel0 : CdRel Cs w (.int .i64 ((0 : Nat) : Int)) (.slice none 0 0) w := ⟨0, by omega, rfl, Own.nil _ _ _, Below.refl _ _⟩
  have HREL := Lib.hid hrel0
  clear h hrel0
  go_enter Try.func13, Try.ntmps13
  go_wp2
  go_loopw [8, 3] (fun v8 v3 wr => CdRel Cs w v8 v3 wr) (fun v8 _ _ => Cs.length - (intOf v8).toNat)
  case atStart => exact HREL.out
  case round =>
    clear HREL
    obtain ⟨i, hi, rfl, ho, hbel⟩ := hrel
    obtain ⟨q3, c3, e3⟩ := own_formX ho
    rw [show (Cs.take i).length = i by rw [List.length_take]; omega] at e3
    subst e3
    have HO := Lib.hid ho
    have HBEL := Lib.hid hbel
    clear ho hbel
    by_cases hil : i < Cs.length
    · have b1 : decide ((i : Int) < (Cs.length : Int)) = true := by simp; omega
      obtain ⟨a', cap', e, -, -, hel⟩ := id H.out
      simp only [Value.slice.injEq, true_and] at e
      obtain ⟨b, off, vs, e1, hbl, hins, x0, x1, x2, x3, x4⟩ := hel i hil
      have e2 := e.1.trans e1
      subst e2
      obtain ⟨C, hC⟩ : ∃ C, C = Cs[i] := ⟨_, rfl⟩
      have hCl : C.l.length ≤ 1000000 := by rw [hC]; exact hl _ (List.getElem_mem _)
      have htk : Cs.take (i + 1) = Cs.take i ++ [C] := by rw [List.take_succ_eq_append_getElem hil, hC]
      rw [← hC] at hins x0 x1 x2 x3
      have hc := fun o => HBEL.out.cell (p := ⟨b, o, none⟩) hbl
      replace x0 := (hc _).trans x0
      replace x1 := (hc _).trans x1
      replace x2 := (hc _).trans x2
      replace x3 := (hc _).trans x3
      replace x4 := (hc _).trans x4
      obtain ⟨sa, scap, rfl⟩ := hins.form
      have hb5 : Below wr.heap.size wr (wr.alloc (.cells #[.string C.name, .int .i64 C.args, .int .i64 C.slots, .int .i64 C.body, .slice sa C.l.length scap] 28 (0, 0))) := (Below.refl wr.heap.size wr).alloc (Nat.le_refl _) _
      have hr5 := heap_alloc_new wr (.cells #[.string C.name, .int .i64 C.args, .int .i64 C.slots, .int .i64 C.body, .slice sa C.l.length scap] 28 (0, 0))
      have HI5 := Lib.hid ((hins.below HBEL.out).below hb5)
      have HO5 := Lib.hid (HO.out.below hb5)
      have HB5 := Lib.hid (HBEL.out.trans (hb5.mono HBEL.out.size))
      have HTK := Lib.hid htk
      obtain ⟨y0, y1, y2, y3, y4⟩ := row5n hr5
      clear e e1 hel hins hC hc htk hb5 hr5 HO HBEL
      go_wp2_with fail
      refine (to_own C _ _ HI5.out hCl).mono ?_
      rintro e6 w6 ⟨v6, rfl, ho6, hb6⟩
      have hins6 := insSl_of_owns ho6
      have hlow6 := owns_blk ho6
      obtain ⟨sa6, scap6, rfl⟩ := hins6.form
      have hba : Below w6.heap.size w6 (w6.alloc (.cells #[.string C.name, .int .i64 C.args, .int .i64 C.slots, .int .i64 C.body, .slice sa6 C.l.length scap6] 51 (0, 0))) := (Below.refl w6.heap.size w6).alloc (Nat.le_refl _) _
      have hO6 := HO5.out.below hb6
      have HO7 := Lib.hid (hO6.below hba)
      have HN7 := Lib.hid (heap_alloc_new w6 (.cells #[.string C.name, .int .i64 C.args, .int .i64 C.slots, .int .i64 C.body, .slice sa6 C.l.length scap6] 51 (0, 0)))
      have hB6 := HB5.out.trans (hb6.mono HB5.out.size)
      have HB7 := Lib.hid (hB6.trans (hba.mono hB6.size))
      have hz5 := HB5.out.size
      have HY7 : Hid (InsP (w6.alloc (.cells #[.string C.name, .int .i64 C.args, .int .i64 C.slots, .int .i64 C.body, .slice sa6 C.l.length scap6] 51 (0, 0))) (fun b => w.heap.size ≤ b ∧ (Value.slice q3 i c3).ownBlock ≠ some b) (.slice sa6 C.l.length scap6) C.l) := Lib.hid ⟨hins6.below hba, fun hne b e => ⟨by have := hlow6 b e; omega, fun e2 => by have := hlow6 b e; have := (HO5.out.low b e2).2; omega⟩⟩
      have hzb := HB7.out.size
      have HZB := Lib.hid hzb
      clear y0 y1 y2 y3 y4 x0 x1 x2 x3 x4 HI5 HO5 HB5 ho6 hb6 hins6 hlow6 hba hO6 hB6 hz5 hzb
      go_wp2_with (with_reducible show wpList _ _ _ (⟨some 16, _, _, _, _, _⟩ :: _) _ _
                   go_must (
                     refine wpList_put (K := cdKind 51) rfl (.tmp 12) (.tmp 15) _ rfl Try.underlying34 info_cd rfl w.heap.size (fun b => w.heap.size ≤ b) _ (Cs.take i) [.string C.name, .int .i64 C.args, .int .i64 C.slots, .int .i64 C.body, .slice sa6 C.l.length scap6] C _ _ _ _ rfl HO7.out rfl HN7.out ⟨_, _, _, rfl, HY7.out⟩ (by rw [List.length_take]; unfold maxLen; omega) (by rw [List.length_take]; omega) HZB.out ?_
                     intro v9 w9 ho9 hb9 hg9 hv9
                     obtain ⟨q9, c9, e9⟩ := own_formX ho9
                     rw [List.length_append, List.length_singleton, show (Cs.take i).length = i by rw [List.length_take]; omega] at e9
                     subst e9
                     rw [← HTK.out] at ho9
                     have HRL := Lib.hid (show CdRel Cs w (.int .i64 ((i + 1 : Nat) : Int)) (.slice q9 (i + 1) c9) w9 from ⟨i + 1, by omega, rfl, ho9, HB7.out.trans hb9⟩)
                     clear ho9 hb9 hg9 hv9 HO7 HN7 HB7 HY7 HZB HTK))
      go_roundw
      case measure => simp [intOf]; omega
      case rel => exact HRL.out
    · have b1 : decide ((i : Int) < (Cs.length : Int)) = false := by simp; omega
      have e : i = Cs.length := by omega
      subst e
      have hfin := cosl_of_own HO.out
      rw [List.take_length] at hfin
      have HFIN := Lib.hid hfin
      clear hfin HO
      go_wp2
      go_ret
      exact ⟨_, rfl, HFIN.out, HBEL.out⟩
end Go.Proofs.Ytcmgfelbbmeanaa.Tms
