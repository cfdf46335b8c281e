
/-
  Layer 20: the document's example, walked.
-/
import Derived.Test.YtcmgfelbbmeanaaIxi
import Derived.Test.YtcmgfelbbmeanaaRow
namespace Go.Proofs.Ytcmgfelbbmeanaa.Tms
open Go Go.RowKit Go.Proofs.Ytcmgfelbbmeanaa.Reg Go.Proofs.Ytcmgfelbbmeanaa.Rws Go.Proofs.Ytcmgfelbbmeanaa.Maps Go.Proofs.Ytcmgfelbbmeanaa.Cod Go.Instr
set_option linter.unusedVariables false
set_option linter.unusedSimpArgs false

def yes20 : Tm := .mk 3 0 (⟨#[116, 114, 117, 101]⟩ : ByteArray) []
def x20 : Nat → Tm
  | 0 => .mk 3 0 (⟨#[97]⟩ : ByteArray) []
  | 1 => varT 0
  | _ => .mk 4 0 (⟨#[102]⟩ : ByteArray) [varT 0]
def h20 (i : Nat) : Tm := .mk 4 0 (⟨#[112]⟩ : ByteArray) [x20 i]
noncomputable def c20 (i : Nat) : Cod := (compE (h20 i) yes20).1
theorem c20_ok0 : compE (h20 0) yes20 = (c20 0, 0) := by unfold c20; rw [show compE (h20 0) yes20 = ((compE (h20 0) yes20).1, (compE (h20 0) yes20).2) from rfl, show (compE (h20 0) yes20).2 = 0 by decide +kernel]
theorem c20_ok1 : compE (h20 1) yes20 = (c20 1, 0) := by unfold c20; rw [show compE (h20 1) yes20 = ((compE (h20 1) yes20).1, (compE (h20 1) yes20).2) from rfl, show (compE (h20 1) yes20).2 = 0 by decide +kernel]
theorem c20_ok2 : compE (h20 2) yes20 = (c20 2, 0) := by unfold c20; rw [show compE (h20 2) yes20 = ((compE (h20 2) yes20).1, (compE (h20 2) yes20).2) from rfl, show (compE (h20 2) yes20).2 = 0 by decide +kernel]
theorem c20_keys : [c20 0, c20 1, c20 2].map codeK = [some (5, 0, 0, (⟨#[97]⟩ : ByteArray)), none, some (6, 1, 0, (⟨#[102]⟩ : ByteArray))] := by unfold c20; decide +kernel
theorem c20_len : ∀ c ∈ [c20 0, c20 1, c20 2], c.l.length ≤ 1000000 := by unfold c20; decide +kernel
/-- the example's memory: its variable, its word, its codes so far -/
structure A20 (w : World) (v3 : Value) (L : List Cod) (wr : World) : Prop where
  vr : wr.heap[w.heap.size]? = some (.cells #[.int .i64 1, .int .i64 0, .string ⟨#[]⟩, .slice none 0 0] 31 (0, 0))
  yes : wr.heap[w.heap.size + 1]? = some (.cells #[.int .i64 3, .int .i64 0, .string (⟨#[116, 114, 117, 101]⟩ : ByteArray), .slice none 0 0] 31 (0, 0))
  fa : IsSl wr AnyB (.slice (some ⟨w.heap.size + 2, 0, none⟩) 1 1) [varT 0]
  fl : w.heap.size + 2 < wr.heap.size
  far : wr.heap[w.heap.size + 2]? = some (.cells #[.int .i64 1, .int .i64 0, .string ⟨#[]⟩, .slice none 0 0] 31 (0, 0))
  out : Own (cdKind 51) wr w.heap.size (fun b => w.heap.size ≤ b) v3 L
  bel : Below w.heap.size w wr
theorem A20.below {w wr w' : World} {v3 : Value} {L : List Cod} (h : A20 w v3 L wr) (hb : Below wr.heap.size wr w') : A20 w v3 L w' :=
  ⟨(hb.block _ (by have := h.fl; omega)).trans h.vr, (hb.block _ (by have := h.fl; omega)).trans h.yes, h.fa.below hb, Nat.lt_of_lt_of_le h.fl hb.size, (hb.block _ h.fl).trans h.far, h.out.below hb, h.bel.trans (hb.mono h.bel.size)⟩
theorem a20_fa {wr : World} {b : Nat} (h : wr.heap[b]? = some (.cells #[.int .i64 1, .int .i64 0, .string ⟨#[]⟩, .slice none 0 0] 31 (0, 0))) : IsSl wr AnyB (.slice (some ⟨b, 0, none⟩) 1 1) [varT 0] :=
  sl_of_cells (cs := [.int .i64 1, .int .i64 0, .string ⟨#[]⟩, .slice none 0 0]) h (CellsOf.cons (var_is wr AnyB 0) trivial) rfl trivial
theorem a20_start (w : World) : A20 w (.slice none 0 0) [] (((w.alloc (.cells #[.int .i64 1, .int .i64 0, .string ⟨#[]⟩, .slice none 0 0] 31 (0, 0))).alloc (.cells #[.int .i64 3, .int .i64 0, .string (⟨#[116, 114, 117, 101]⟩ : ByteArray), .slice none 0 0] 31 (0, 0))).alloc (.cells #[.int .i64 1, .int .i64 0, .string ⟨#[]⟩, .slice none 0 0] 31 (0, 0))) := by
  have h2 : (((w.alloc (.cells #[.int .i64 1, .int .i64 0, .string ⟨#[]⟩, .slice none 0 0] 31 (0, 0))).alloc (.cells #[.int .i64 3, .int .i64 0, .string (⟨#[116, 114, 117, 101]⟩ : ByteArray), .slice none 0 0] 31 (0, 0))).alloc (.cells #[.int .i64 1, .int .i64 0, .string ⟨#[]⟩, .slice none 0 0] 31 (0, 0))).heap[w.heap.size + 2]? = some (.cells #[.int .i64 1, .int .i64 0, .string ⟨#[]⟩, .slice none 0 0] 31 (0, 0)) := by
    have h := heap_alloc_new ((w.alloc (.cells #[.int .i64 1, .int .i64 0, .string ⟨#[]⟩, .slice none 0 0] 31 (0, 0))).alloc (.cells #[.int .i64 3, .int .i64 0, .string (⟨#[116, 114, 117, 101]⟩ : ByteArray), .slice none 0 0] 31 (0, 0))) (.cells #[.int .i64 1, .int .i64 0, .string ⟨#[]⟩, .slice none 0 0] 31 (0, 0))
    simpa using h
  refine ⟨?_, three_at _ _ _ _, a20_fa h2, by simp, h2, Own.nil _ _ _, (((Below.refl _ _).alloc (Nat.le_refl _) _).alloc (by simp) _).alloc (by simp; omega) _⟩
  exact (Below.heap_alloc _ _ _ (by simp; omega)).trans ((Below.heap_alloc _ _ _ (by simp)).trans (heap_alloc_new w _))
theorem a20_x0 {w wr : World} {v3 : Value} {L : List Cod} (h : A20 w v3 L wr) : IsTm wr AnyB (.agg #[.int .i64 3, .int .i64 0, .string (⟨#[97]⟩ : ByteArray), .slice none 0 0]) (x20 0) := IsTm.mk' (t := x20 0) (IsSl.nil _ _ none 0)
theorem a20_x1 {w wr : World} {v3 : Value} {L : List Cod} (h : A20 w v3 L wr) : IsTm wr AnyB (.agg #[.int .i64 1, .int .i64 0, .string ⟨#[]⟩, .slice none 0 0]) (x20 1) := IsTm.mk' (t := x20 1) (IsSl.nil _ _ none 0)
theorem a20_x2 {w wr : World} {v3 : Value} {L : List Cod} (h : A20 w v3 L wr) : IsTm wr AnyB (.agg #[.int .i64 4, .int .i64 0, .string (⟨#[102]⟩ : ByteArray), .slice (some ⟨w.heap.size + 2, 0, none⟩) 1 1]) (x20 2) := IsTm.mk' (t := x20 2) h.fa
theorem a20_el {w w2 w5 : World} {v3 v : Value} {L : List Cod} {C : Cod} (h : A20 w v3 L w2) (hi : InsSl w5 v C.l) (hl : ∀ b, slBlk v = some b → w2.heap.size ≤ b) : InsP w5 (fun b => w.heap.size ≤ b ∧ v3.ownBlock ≠ some b) v C.l :=
  ⟨hi, fun _ b e => ⟨by have := hl b e; have := h.bel.size; omega, fun e2 => by have := hl b e; have := (h.out.low b e2).2; omega⟩⟩
theorem a20_next {w w5 w9 : World} {v3 v9 : Value} {L L' : List Cod} (h : A20 w v3 L w5) (ho : Own (cdKind 51) w9 w.heap.size (fun b => w.heap.size ≤ b) v9 L') (hg : w5.grownBy w9 v3.ownBlock) : A20 w v9 L' w9 := by
  have hn : ∀ b, (∃ cs, w5.heap[b]? = some (.cells cs 31 (0, 0))) → some b ≠ v3.ownBlock := fun b ⟨cs, hb⟩ e => by
    rcases h.out.form with ⟨e2, -⟩ | ⟨g, c, e2⟩
    · rw [e2] at e; cases e
    · have hw := h.out
      rw [e2] at hw e
      have eb : b = g := by simpa [Value.ownBlock] using e
      subst eb
      obtain ⟨cur, hcur⟩ := own_rowT hw
      rw [hb] at hcur
      simp [cdKind] at hcur
  have hl := h.fl
  have h1 := (hg.block _ (by omega) (hn _ ⟨_, h.vr⟩)).trans h.vr
  have h2 := (hg.block _ (by omega) (hn _ ⟨_, h.yes⟩)).trans h.yes
  have h3 := (hg.block _ hl (hn _ ⟨_, h.far⟩)).trans h.far
  exact ⟨h1, h2, a20_fa h3, Nat.lt_of_lt_of_le hl hg.size, h3, ho, h.bel.grown hg h.bel.size fun k e => (h.out.low k e).1⟩
abbrev arr20 (b : Nat) : Value := .agg #[.int .i64 3, .int .i64 0, .string (⟨#[97]⟩ : ByteArray), .slice none 0 0, .int .i64 1, .int .i64 0, .string ⟨#[]⟩, .slice none 0 0, .int .i64 4, .int .i64 0, .string (⟨#[102]⟩ : ByteArray), .slice (some ⟨b, 0, none⟩) 1 1]
theorem ix20_0 (b : Nat) (w : World) : (Instr.index 93 (arr20 b) (.int .i64 0)).run Try.prog w = .ok (.agg #[.int .i64 3, .int .i64 0, .string (⟨#[97]⟩ : ByteArray), .slice none 0 0]) w := by kernel_rfl
theorem ix20_1 (b : Nat) (w : World) : (Instr.index 93 (arr20 b) (.int .i64 1)).run Try.prog w = .ok (.agg #[.int .i64 1, .int .i64 0, .string ⟨#[]⟩, .slice none 0 0]) w := by kernel_rfl
theorem ix20_2 (b : Nat) (w : World) : (Instr.index 93 (arr20 b) (.int .i64 2)).run Try.prog w = .ok (.agg #[.int .i64 4, .int .i64 0, .string (⟨#[102]⟩ : ByteArray), .slice (some ⟨b, 0, none⟩) 1 1]) w := by kernel_rfl
abbrev ls20 : List (Option Kx) := [some (5, 0, 0, (⟨#[97]⟩ : ByteArray)), none, some (6, 1, 0, (⟨#[102]⟩ : ByteArray))]
theorem pk20_0 : pickL ls20 3 (termK 3 0 (⟨#[97]⟩ : ByteArray) 0) = [0, 1] := by decide +kernel
theorem pk20_1 : pickL ls20 3 (termK 3 0 (⟨#[98]⟩ : ByteArray) 0) = [1] := by decide +kernel
theorem pk20_2 : pickL ls20 4 (termK 4 0 (⟨#[102]⟩ : ByteArray) 1) = [1, 2] := by decide +kernel
theorem pk20_3 : pickL ls20 1 (termK 1 0 ⟨#[]⟩ 0) = [0, 1, 2] := by decide +kernel
theorem keys20 : (((keysO ls20).length : Nat) : Int) = 2 := by decide +kernel
theorem row_ints {w : World} {b : Nat} {L : List Int} {cs : Array Value} (h : w.heap[b]? = some (.cells cs 3 (0, 0))) (hc : cs = (L.map fun n => Value.int .i64 n).toArray := by rfl) (hm : L.length ≤ maxLen := by decide) : IntSl w AnyB (.slice (some ⟨b, 0, none⟩) L.length L.length) L := by
  subst hc
  refine ⟨_, _, rfl, Nat.le_refl _, hm, fun i hi => ⟨b, 0, rfl, trivial, (Array.getElem?_eq_some_iff.1 h).1, ?_⟩⟩
  rw [Nat.zero_add, cell_of_row w b i _ _ _ h]
  simp [hi]
set_option maxRecDepth 100000 in
set_option maxHeartbeats 4000000 in
theorem alive20 (w : World) : Calls Try.prog 11 #[] w (Says true w) := by
  go_enter Try.func11, Try.ntmps11
  go_wp2
  obtain ⟨W, hW⟩ : ∃ W, W = (((w.alloc (.cells #[.int .i64 1, .int .i64 0, .string ⟨#[]⟩, .slice none 0 0] 31 (0, 0))).alloc (.cells #[.int .i64 3, .int .i64 0, .string (⟨#[116, 114, 117, 101]⟩ : ByteArray), .slice none 0 0] 31 (0, 0))).alloc (.cells #[.int .i64 1, .int .i64 0, .string ⟨#[]⟩, .slice none 0 0] 31 (0, 0))) := ⟨_, rfl⟩
  have hA := a20_start w
  rw [← hW] at hA ⊢
  clear hW
  have HA0 := Lib.hid hA
  clear hA
  refine wp_loop_rounds 4 ?_
  rw [rounds_succ]
  -- round 0
  have hx0 := a20_x0 HA0.out
  have hb1 : Below W.heap.size W (W.alloc (.cells #[.int .i64 3, .int .i64 0, .string (⟨#[97]⟩ : ByteArray), .slice none 0 0] 31 (0, 0))) := (Below.refl _ _).alloc (Nat.le_refl _) _
  have hA1 := HA0.out.below hb1
  have hr1 := heap_alloc_new W (.cells #[.int .i64 3, .int .i64 0, .string (⟨#[97]⟩ : ByteArray), .slice none 0 0] 31 (0, 0))
  obtain ⟨x0, x1, x2, x3⟩ := row4 hr1
  have hs1 := row1 (x := x20 0) (hx0.below hb1)
  have hb2 : Below (W.alloc (.cells #[.int .i64 3, .int .i64 0, .string (⟨#[97]⟩ : ByteArray), .slice none 0 0] 31 (0, 0))).heap.size (W.alloc (.cells #[.int .i64 3, .int .i64 0, .string (⟨#[97]⟩ : ByteArray), .slice none 0 0] 31 (0, 0))) ((W.alloc (.cells #[.int .i64 3, .int .i64 0, .string (⟨#[97]⟩ : ByteArray), .slice none 0 0] 31 (0, 0))).alloc (.cells #[.int .i64 3, .int .i64 0, .string (⟨#[97]⟩ : ByteArray), .slice none 0 0] 31 (0, 0))) := (Below.refl _ _).alloc (Nat.le_refl _) _
  have HM2 := Lib.hid (hA1.below hb2)
  rw [show (W.alloc (.cells #[.int .i64 3, .int .i64 0, .string (⟨#[97]⟩ : ByteArray), .slice none 0 0] 31 (0, 0))).heap.size = W.heap.size + 1 by simp] at hs1
  have HT2 := Lib.hid (show IsTm ((W.alloc (.cells #[.int .i64 3, .int .i64 0, .string (⟨#[97]⟩ : ByteArray), .slice none 0 0] 31 (0, 0))).alloc (.cells #[.int .i64 3, .int .i64 0, .string (⟨#[97]⟩ : ByteArray), .slice none 0 0] 31 (0, 0))) AnyB (.agg #[.int .i64 4, .int .i64 0, .string (⟨#[112]⟩ : ByteArray), .slice (some ⟨W.heap.size + 1, 0, none⟩) 1 1]) (h20 0) from IsTm.mk' (t := h20 0) hs1)
  have hy2 := (hA1.below hb2).yes
  obtain ⟨y0, y1, y2, y3⟩ := row4 hy2
  have HY2 := Lib.hid (show IsTm ((W.alloc (.cells #[.int .i64 3, .int .i64 0, .string (⟨#[97]⟩ : ByteArray), .slice none 0 0] 31 (0, 0))).alloc (.cells #[.int .i64 3, .int .i64 0, .string (⟨#[97]⟩ : ByteArray), .slice none 0 0] 31 (0, 0))) AnyB (.agg #[.int .i64 3, .int .i64 0, .string (⟨#[116, 114, 117, 101]⟩ : ByteArray), .slice none 0 0]) yes20 from IsTm.mk' (t := yes20) (IsSl.nil _ _ none 0))
  clear hb1 hA1 hr1 hs1 hb2 hy2 hx0
  have hix := ix20_0 (w.heap.size + 1 + 1)
  go_wp2_with fail
  clear hix
  refine (go_CompileP (h20 0) yes20 _ _ AnyB AnyB _ (by decide) (by decide) HT2.out HY2.out).mono ?_
  rintro e3 w3_0 ⟨vs, rfl, hi3, hb3, hl3⟩
  rw [c20_ok0] at hi3 ⊢
  dsimp only at hi3
  obtain ⟨sa0, sc0, rfl⟩ := hi3.form
  have hA3 := HM2.out.below hb3
  obtain ⟨C0, hC0⟩ : ∃ C, C = c20 0 := ⟨_, rfl⟩
  rw [← hC0] at hi3 hl3 ⊢
  have HC0 := Lib.hid hC0
  have hb4 : Below w3_0.heap.size w3_0 (w3_0.alloc (.cells #[.string C0.name, .int .i64 C0.args, .int .i64 C0.slots, .int .i64 C0.body, .slice sa0 C0.l.length sc0] 51 (0, 0))) := (Below.refl _ _).alloc (Nat.le_refl _) _
  have hr4 := heap_alloc_new w3_0 (.cells #[.string C0.name, .int .i64 C0.args, .int .i64 C0.slots, .int .i64 C0.body, .slice sa0 C0.l.length sc0] 51 (0, 0))
  obtain ⟨z0, z1, z2, z3, z4⟩ := row5n hr4
  have hb5 : Below (w3_0.alloc (.cells #[.string C0.name, .int .i64 C0.args, .int .i64 C0.slots, .int .i64 C0.body, .slice sa0 C0.l.length sc0] 51 (0, 0))).heap.size (w3_0.alloc (.cells #[.string C0.name, .int .i64 C0.args, .int .i64 C0.slots, .int .i64 C0.body, .slice sa0 C0.l.length sc0] 51 (0, 0))) ((w3_0.alloc (.cells #[.string C0.name, .int .i64 C0.args, .int .i64 C0.slots, .int .i64 C0.body, .slice sa0 C0.l.length sc0] 51 (0, 0))).alloc (.cells #[.string C0.name, .int .i64 C0.args, .int .i64 C0.slots, .int .i64 C0.body, .slice sa0 C0.l.length sc0] 51 (0, 0))) := (Below.refl _ _).alloc (Nat.le_refl _) _
  have HM5 := Lib.hid ((hA3.below hb4).below hb5)
  have HN5 := Lib.hid (two_at w3_0 (.cells #[.string C0.name, .int .i64 C0.args, .int .i64 C0.slots, .int .i64 C0.body, .slice sa0 C0.l.length sc0] 51 (0, 0)) (.cells #[.string C0.name, .int .i64 C0.args, .int .i64 C0.slots, .int .i64 C0.body, .slice sa0 C0.l.length sc0] 51 (0, 0)))
  have HY5 := Lib.hid (a20_el HM2.out ((hi3.below hb4).below hb5) hl3)
  have HZ5 := Lib.hid HM5.out.bel.size
  clear hi3 hl3 hb3 hA3 hC0 hb4 hr4 hb5 HM2 HT2 HY2 HA0 x0 x1 x2 x3 y0 y1 y2 y3
  dsimp only
  go_wp2_with (with_reducible show wpList _ _ _ (⟨some 33, _, _, _, _, _⟩ :: _) _ _
               go_must (
                 refine wpList_put (K := cdKind 51) rfl (.tmp 30) (.tmp 32) _ rfl Try.underlying34 info_cd rfl w.heap.size (fun b => w.heap.size ≤ b) _ [] [.string C0.name, .int .i64 C0.args, .int .i64 C0.slots, .int .i64 C0.body, .slice sa0 C0.l.length sc0] C0 _ _ _ _ rfl HM5.out.out rfl HN5.out ⟨_, _, _, rfl, HY5.out⟩ (by decide) (by decide) HZ5.out ?_
                 intro v9 w9_0 ho9 hb9 hg9 hv9
                 obtain ⟨q0, c0, e9⟩ := own_formX ho9
                 subst e9
                 have HA1 := Lib.hid (a20_next HM5.out ho9 hg9)
                 rw [HC0.out] at HA1
                 clear ho9 hb9 hg9 hv9 HM5 HN5 HY5 HZ5 HC0 z0 z1 z2 z3 z4))
  rw [rounds_succ]
  -- round 1
  have hx1 := a20_x1 HA1.out
  have hb1 : Below w9_0.heap.size w9_0 (w9_0.alloc (.cells #[.int .i64 1, .int .i64 0, .string ⟨#[]⟩, .slice none 0 0] 31 (0, 0))) := (Below.refl _ _).alloc (Nat.le_refl _) _
  have hA1 := HA1.out.below hb1
  have hr1 := heap_alloc_new w9_0 (.cells #[.int .i64 1, .int .i64 0, .string ⟨#[]⟩, .slice none 0 0] 31 (0, 0))
  obtain ⟨x0, x1, x2, x3⟩ := row4 hr1
  have hs1 := row1 (x := x20 1) (hx1.below hb1)
  have hb2 : Below (w9_0.alloc (.cells #[.int .i64 1, .int .i64 0, .string ⟨#[]⟩, .slice none 0 0] 31 (0, 0))).heap.size (w9_0.alloc (.cells #[.int .i64 1, .int .i64 0, .string ⟨#[]⟩, .slice none 0 0] 31 (0, 0))) ((w9_0.alloc (.cells #[.int .i64 1, .int .i64 0, .string ⟨#[]⟩, .slice none 0 0] 31 (0, 0))).alloc (.cells #[.int .i64 1, .int .i64 0, .string ⟨#[]⟩, .slice none 0 0] 31 (0, 0))) := (Below.refl _ _).alloc (Nat.le_refl _) _
  have HM2 := Lib.hid (hA1.below hb2)
  rw [show (w9_0.alloc (.cells #[.int .i64 1, .int .i64 0, .string ⟨#[]⟩, .slice none 0 0] 31 (0, 0))).heap.size = w9_0.heap.size + 1 by simp] at hs1
  have HT2 := Lib.hid (show IsTm ((w9_0.alloc (.cells #[.int .i64 1, .int .i64 0, .string ⟨#[]⟩, .slice none 0 0] 31 (0, 0))).alloc (.cells #[.int .i64 1, .int .i64 0, .string ⟨#[]⟩, .slice none 0 0] 31 (0, 0))) AnyB (.agg #[.int .i64 4, .int .i64 0, .string (⟨#[112]⟩ : ByteArray), .slice (some ⟨w9_0.heap.size + 1, 0, none⟩) 1 1]) (h20 1) from IsTm.mk' (t := h20 1) hs1)
  have hy2 := (hA1.below hb2).yes
  obtain ⟨y0, y1, y2, y3⟩ := row4 hy2
  have HY2 := Lib.hid (show IsTm ((w9_0.alloc (.cells #[.int .i64 1, .int .i64 0, .string ⟨#[]⟩, .slice none 0 0] 31 (0, 0))).alloc (.cells #[.int .i64 1, .int .i64 0, .string ⟨#[]⟩, .slice none 0 0] 31 (0, 0))) AnyB (.agg #[.int .i64 3, .int .i64 0, .string (⟨#[116, 114, 117, 101]⟩ : ByteArray), .slice none 0 0]) yes20 from IsTm.mk' (t := yes20) (IsSl.nil _ _ none 0))
  clear hb1 hA1 hr1 hs1 hb2 hy2 hx1
  have hix := ix20_1 (w.heap.size + 1 + 1)
  go_wp2_with fail
  clear hix
  refine (go_CompileP (h20 1) yes20 _ _ AnyB AnyB _ (by decide) (by decide) HT2.out HY2.out).mono ?_
  rintro e3 w3_1 ⟨vs, rfl, hi3, hb3, hl3⟩
  rw [c20_ok1] at hi3 ⊢
  dsimp only at hi3
  obtain ⟨sa1, sc1, rfl⟩ := hi3.form
  have hA3 := HM2.out.below hb3
  obtain ⟨C1, hC1⟩ : ∃ C, C = c20 1 := ⟨_, rfl⟩
  rw [← hC1] at hi3 hl3 ⊢
  have HC1 := Lib.hid hC1
  have hb4 : Below w3_1.heap.size w3_1 (w3_1.alloc (.cells #[.string C1.name, .int .i64 C1.args, .int .i64 C1.slots, .int .i64 C1.body, .slice sa1 C1.l.length sc1] 51 (0, 0))) := (Below.refl _ _).alloc (Nat.le_refl _) _
  have hr4 := heap_alloc_new w3_1 (.cells #[.string C1.name, .int .i64 C1.args, .int .i64 C1.slots, .int .i64 C1.body, .slice sa1 C1.l.length sc1] 51 (0, 0))
  obtain ⟨z0, z1, z2, z3, z4⟩ := row5n hr4
  have hb5 : Below (w3_1.alloc (.cells #[.string C1.name, .int .i64 C1.args, .int .i64 C1.slots, .int .i64 C1.body, .slice sa1 C1.l.length sc1] 51 (0, 0))).heap.size (w3_1.alloc (.cells #[.string C1.name, .int .i64 C1.args, .int .i64 C1.slots, .int .i64 C1.body, .slice sa1 C1.l.length sc1] 51 (0, 0))) ((w3_1.alloc (.cells #[.string C1.name, .int .i64 C1.args, .int .i64 C1.slots, .int .i64 C1.body, .slice sa1 C1.l.length sc1] 51 (0, 0))).alloc (.cells #[.string C1.name, .int .i64 C1.args, .int .i64 C1.slots, .int .i64 C1.body, .slice sa1 C1.l.length sc1] 51 (0, 0))) := (Below.refl _ _).alloc (Nat.le_refl _) _
  have HM5 := Lib.hid ((hA3.below hb4).below hb5)
  have HN5 := Lib.hid (two_at w3_1 (.cells #[.string C1.name, .int .i64 C1.args, .int .i64 C1.slots, .int .i64 C1.body, .slice sa1 C1.l.length sc1] 51 (0, 0)) (.cells #[.string C1.name, .int .i64 C1.args, .int .i64 C1.slots, .int .i64 C1.body, .slice sa1 C1.l.length sc1] 51 (0, 0)))
  have HY5 := Lib.hid (a20_el HM2.out ((hi3.below hb4).below hb5) hl3)
  have HZ5 := Lib.hid HM5.out.bel.size
  clear hi3 hl3 hb3 hA3 hC1 hb4 hr4 hb5 HM2 HT2 HY2 HA1 x0 x1 x2 x3 y0 y1 y2 y3
  dsimp only
  go_wp2_with (with_reducible show wpList _ _ _ (⟨some 33, _, _, _, _, _⟩ :: _) _ _
               go_must (
                 refine wpList_put (K := cdKind 51) rfl (.tmp 30) (.tmp 32) _ rfl Try.underlying34 info_cd rfl w.heap.size (fun b => w.heap.size ≤ b) _ [c20 0] [.string C1.name, .int .i64 C1.args, .int .i64 C1.slots, .int .i64 C1.body, .slice sa1 C1.l.length sc1] C1 _ _ _ _ rfl HM5.out.out rfl HN5.out ⟨_, _, _, rfl, HY5.out⟩ (by decide) (by decide) HZ5.out ?_
                 intro v9 w9_1 ho9 hb9 hg9 hv9
                 obtain ⟨q1, c1, e9⟩ := own_formX ho9
                 subst e9
                 have HA2 := Lib.hid (a20_next HM5.out ho9 hg9)
                 rw [HC1.out] at HA2
                 clear ho9 hb9 hg9 hv9 HM5 HN5 HY5 HZ5 HC1 z0 z1 z2 z3 z4))
  rw [rounds_succ]
  -- round 2
  have hx2 := a20_x2 HA2.out
  have hb1 : Below w9_1.heap.size w9_1 (w9_1.alloc (.cells #[.int .i64 4, .int .i64 0, .string (⟨#[102]⟩ : ByteArray), .slice (some ⟨w.heap.size + 2, 0, none⟩) 1 1] 31 (0, 0))) := (Below.refl _ _).alloc (Nat.le_refl _) _
  have hA1 := HA2.out.below hb1
  have hr1 := heap_alloc_new w9_1 (.cells #[.int .i64 4, .int .i64 0, .string (⟨#[102]⟩ : ByteArray), .slice (some ⟨w.heap.size + 2, 0, none⟩) 1 1] 31 (0, 0))
  obtain ⟨x0, x1, x2, x3⟩ := row4 hr1
  have hs1 := row1 (x := x20 2) (hx2.below hb1)
  have hb2 : Below (w9_1.alloc (.cells #[.int .i64 4, .int .i64 0, .string (⟨#[102]⟩ : ByteArray), .slice (some ⟨w.heap.size + 2, 0, none⟩) 1 1] 31 (0, 0))).heap.size (w9_1.alloc (.cells #[.int .i64 4, .int .i64 0, .string (⟨#[102]⟩ : ByteArray), .slice (some ⟨w.heap.size + 2, 0, none⟩) 1 1] 31 (0, 0))) ((w9_1.alloc (.cells #[.int .i64 4, .int .i64 0, .string (⟨#[102]⟩ : ByteArray), .slice (some ⟨w.heap.size + 2, 0, none⟩) 1 1] 31 (0, 0))).alloc (.cells #[.int .i64 4, .int .i64 0, .string (⟨#[102]⟩ : ByteArray), .slice (some ⟨w.heap.size + 2, 0, none⟩) 1 1] 31 (0, 0))) := (Below.refl _ _).alloc (Nat.le_refl _) _
  have HM2 := Lib.hid (hA1.below hb2)
  rw [show (w9_1.alloc (.cells #[.int .i64 4, .int .i64 0, .string (⟨#[102]⟩ : ByteArray), .slice (some ⟨w.heap.size + 2, 0, none⟩) 1 1] 31 (0, 0))).heap.size = w9_1.heap.size + 1 by simp] at hs1
  have HT2 := Lib.hid (show IsTm ((w9_1.alloc (.cells #[.int .i64 4, .int .i64 0, .string (⟨#[102]⟩ : ByteArray), .slice (some ⟨w.heap.size + 2, 0, none⟩) 1 1] 31 (0, 0))).alloc (.cells #[.int .i64 4, .int .i64 0, .string (⟨#[102]⟩ : ByteArray), .slice (some ⟨w.heap.size + 2, 0, none⟩) 1 1] 31 (0, 0))) AnyB (.agg #[.int .i64 4, .int .i64 0, .string (⟨#[112]⟩ : ByteArray), .slice (some ⟨w9_1.heap.size + 1, 0, none⟩) 1 1]) (h20 2) from IsTm.mk' (t := h20 2) hs1)
  have hy2 := (hA1.below hb2).yes
  obtain ⟨y0, y1, y2, y3⟩ := row4 hy2
  have HY2 := Lib.hid (show IsTm ((w9_1.alloc (.cells #[.int .i64 4, .int .i64 0, .string (⟨#[102]⟩ : ByteArray), .slice (some ⟨w.heap.size + 2, 0, none⟩) 1 1] 31 (0, 0))).alloc (.cells #[.int .i64 4, .int .i64 0, .string (⟨#[102]⟩ : ByteArray), .slice (some ⟨w.heap.size + 2, 0, none⟩) 1 1] 31 (0, 0))) AnyB (.agg #[.int .i64 3, .int .i64 0, .string (⟨#[116, 114, 117, 101]⟩ : ByteArray), .slice none 0 0]) yes20 from IsTm.mk' (t := yes20) (IsSl.nil _ _ none 0))
  clear hb1 hA1 hr1 hs1 hb2 hy2 hx2
  have hix := ix20_2 (w.heap.size + 1 + 1)
  go_wp2_with fail
  clear hix
  refine (go_CompileP (h20 2) yes20 _ _ AnyB AnyB _ (by decide) (by decide) HT2.out HY2.out).mono ?_
  rintro e3 w3_2 ⟨vs, rfl, hi3, hb3, hl3⟩
  rw [c20_ok2] at hi3 ⊢
  dsimp only at hi3
  obtain ⟨sa2, sc2, rfl⟩ := hi3.form
  have hA3 := HM2.out.below hb3
  obtain ⟨C2, hC2⟩ : ∃ C, C = c20 2 := ⟨_, rfl⟩
  rw [← hC2] at hi3 hl3 ⊢
  have HC2 := Lib.hid hC2
  have hb4 : Below w3_2.heap.size w3_2 (w3_2.alloc (.cells #[.string C2.name, .int .i64 C2.args, .int .i64 C2.slots, .int .i64 C2.body, .slice sa2 C2.l.length sc2] 51 (0, 0))) := (Below.refl _ _).alloc (Nat.le_refl _) _
  have hr4 := heap_alloc_new w3_2 (.cells #[.string C2.name, .int .i64 C2.args, .int .i64 C2.slots, .int .i64 C2.body, .slice sa2 C2.l.length sc2] 51 (0, 0))
  obtain ⟨z0, z1, z2, z3, z4⟩ := row5n hr4
  have hb5 : Below (w3_2.alloc (.cells #[.string C2.name, .int .i64 C2.args, .int .i64 C2.slots, .int .i64 C2.body, .slice sa2 C2.l.length sc2] 51 (0, 0))).heap.size (w3_2.alloc (.cells #[.string C2.name, .int .i64 C2.args, .int .i64 C2.slots, .int .i64 C2.body, .slice sa2 C2.l.length sc2] 51 (0, 0))) ((w3_2.alloc (.cells #[.string C2.name, .int .i64 C2.args, .int .i64 C2.slots, .int .i64 C2.body, .slice sa2 C2.l.length sc2] 51 (0, 0))).alloc (.cells #[.string C2.name, .int .i64 C2.args, .int .i64 C2.slots, .int .i64 C2.body, .slice sa2 C2.l.length sc2] 51 (0, 0))) := (Below.refl _ _).alloc (Nat.le_refl _) _
  have HM5 := Lib.hid ((hA3.below hb4).below hb5)
  have HN5 := Lib.hid (two_at w3_2 (.cells #[.string C2.name, .int .i64 C2.args, .int .i64 C2.slots, .int .i64 C2.body, .slice sa2 C2.l.length sc2] 51 (0, 0)) (.cells #[.string C2.name, .int .i64 C2.args, .int .i64 C2.slots, .int .i64 C2.body, .slice sa2 C2.l.length sc2] 51 (0, 0)))
  have HY5 := Lib.hid (a20_el HM2.out ((hi3.below hb4).below hb5) hl3)
  have HZ5 := Lib.hid HM5.out.bel.size
  clear hi3 hl3 hb3 hA3 hC2 hb4 hr4 hb5 HM2 HT2 HY2 HA2 x0 x1 x2 x3 y0 y1 y2 y3
  dsimp only
  go_wp2_with (with_reducible show wpList _ _ _ (⟨some 33, _, _, _, _, _⟩ :: _) _ _
               go_must (
                 refine wpList_put (K := cdKind 51) rfl (.tmp 30) (.tmp 32) _ rfl Try.underlying34 info_cd rfl w.heap.size (fun b => w.heap.size ≤ b) _ [c20 0, c20 1] [.string C2.name, .int .i64 C2.args, .int .i64 C2.slots, .int .i64 C2.body, .slice sa2 C2.l.length sc2] C2 _ _ _ _ rfl HM5.out.out rfl HN5.out ⟨_, _, _, rfl, HY5.out⟩ (by decide) (by decide) HZ5.out ?_
                 intro v9 w9_2 ho9 hb9 hg9 hv9
                 obtain ⟨q2, c2, e9⟩ := own_formX ho9
                 subst e9
                 have HA3 := Lib.hid (a20_next HM5.out ho9 hg9)
                 rw [HC2.out] at HA3
                 clear ho9 hb9 hg9 hv9 HM5 HN5 HY5 HZ5 HC2 z0 z1 z2 z3 z4))
  rw [rounds_succ]
  go_wp2_with fail
  refine (go_New [c20 0, c20 1, c20 2] _ _ (cosl_of_own HA3.out.out) c20_len (by decide)).mono ?_
  rintro e10 w10 ⟨rfl, M, rows, hat, hb10⟩
  rw [c20_keys] at hat
  have HT0 := Lib.hid (show IxAt w10 _ _ _ ((ls20.length : Nat) : Int) M rows ls20 from hat)
  have HV0 := Lib.hid (HA3.out.below hb10)
  clear hat hb10 HA3
  generalize w9_2.heap.size + 1 = xb at *
  dsimp only
  obtain ⟨y0, y1, y2, y3⟩ := row4 HV0.out.vr
  go_wp2_with fail
  refine (go_Pick HT0.out (show ls20.length ≤ 100000 by decide) 3 0 (⟨#[97]⟩ : ByteArray) none 0 0 0).mono ?_
  rintro e11 w11_0 ⟨v11, rfl, ho11, hb11⟩
  have hi11 := own_intsJ ho11
  clear ho11
  rw [pk20_0] at hi11
  obtain ⟨qa0, ca0, e11, -, -, -⟩ := id hi11
  subst e11
  have hba : Below w11_0.heap.size w11_0 (w11_0.alloc (.cells #[.int .i64 0, .int .i64 1] 3 (0, 0))) := (Below.refl _ _).alloc (Nat.le_refl _) _
  have HI11 := Lib.hid (hi11.below hba)
  have HR11 := Lib.hid (row_ints (L := [0, 1]) (heap_alloc_new w11_0 (.cells #[.int .i64 0, .int .i64 1] 3 (0, 0))))
  have HT11 := Lib.hid ((HT0.out.below hb11).below hba)
  have HV11 := Lib.hid ((HV0.out.below hb11).below hba)
  clear hi11 hb11 hba y0 y1 y2 y3 HT0 HV0
  dsimp only
  go_wp2_with fail
  refine (go_ints [0, 1] [0, 1] _ _ _ _ _ HI11.out HR11.out (by decide) (by decide)).mono ?_
  rintro e12 w12_0 ⟨rfl, hb12⟩
  rw [show decide (([0, 1] : List Int) = [0, 1]) = true from rfl]
  have HT1 := Lib.hid (HT11.out.below hb12)
  have HV1 := Lib.hid (HV11.out.below hb12)
  clear hb12 HT11 HV11 HI11 HR11
  dsimp only
  obtain ⟨y0, y1, y2, y3⟩ := row4 HV1.out.vr
  go_wp2_with fail
  refine (go_Pick HT1.out (show ls20.length ≤ 100000 by decide) 3 0 (⟨#[98]⟩ : ByteArray) none 0 0 0).mono ?_
  rintro e11 w11_1 ⟨v11, rfl, ho11, hb11⟩
  have hi11 := own_intsJ ho11
  clear ho11
  rw [pk20_1] at hi11
  obtain ⟨qa1, ca1, e11, -, -, -⟩ := id hi11
  subst e11
  have hba : Below w11_1.heap.size w11_1 (w11_1.alloc (.cells #[.int .i64 1] 3 (0, 0))) := (Below.refl _ _).alloc (Nat.le_refl _) _
  have HI11 := Lib.hid (hi11.below hba)
  have HR11 := Lib.hid (row_ints (L := [1]) (heap_alloc_new w11_1 (.cells #[.int .i64 1] 3 (0, 0))))
  have HT11 := Lib.hid ((HT1.out.below hb11).below hba)
  have HV11 := Lib.hid ((HV1.out.below hb11).below hba)
  clear hi11 hb11 hba y0 y1 y2 y3 HT1 HV1
  dsimp only
  go_wp2_with fail
  refine (go_ints [1] [1] _ _ _ _ _ HI11.out HR11.out (by decide) (by decide)).mono ?_
  rintro e12 w12_1 ⟨rfl, hb12⟩
  rw [show decide (([1] : List Int) = [1]) = true from rfl]
  have HT2 := Lib.hid (HT11.out.below hb12)
  have HV2 := Lib.hid (HV11.out.below hb12)
  clear hb12 HT11 HV11 HI11 HR11
  dsimp only
  obtain ⟨y0, y1, y2, y3⟩ := row4 HV2.out.vr
  go_wp2_with fail
  refine (go_Pick HT2.out (show ls20.length ≤ 100000 by decide) 4 0 (⟨#[102]⟩ : ByteArray) none 0 0 1).mono ?_
  rintro e11 w11_2 ⟨v11, rfl, ho11, hb11⟩
  have hi11 := own_intsJ ho11
  clear ho11
  rw [pk20_2] at hi11
  obtain ⟨qa2, ca2, e11, -, -, -⟩ := id hi11
  subst e11
  have hba : Below w11_2.heap.size w11_2 (w11_2.alloc (.cells #[.int .i64 1, .int .i64 2] 3 (0, 0))) := (Below.refl _ _).alloc (Nat.le_refl _) _
  have HI11 := Lib.hid (hi11.below hba)
  have HR11 := Lib.hid (row_ints (L := [1, 2]) (heap_alloc_new w11_2 (.cells #[.int .i64 1, .int .i64 2] 3 (0, 0))))
  have HT11 := Lib.hid ((HT2.out.below hb11).below hba)
  have HV11 := Lib.hid ((HV2.out.below hb11).below hba)
  clear hi11 hb11 hba y0 y1 y2 y3 HT2 HV2
  dsimp only
  go_wp2_with fail
  refine (go_ints [1, 2] [1, 2] _ _ _ _ _ HI11.out HR11.out (by decide) (by decide)).mono ?_
  rintro e12 w12_2 ⟨rfl, hb12⟩
  rw [show decide (([1, 2] : List Int) = [1, 2]) = true from rfl]
  have HT3 := Lib.hid (HT11.out.below hb12)
  have HV3 := Lib.hid (HV11.out.below hb12)
  clear hb12 HT11 HV11 HI11 HR11
  dsimp only
  obtain ⟨y0, y1, y2, y3⟩ := row4 HV3.out.vr
  go_wp2_with fail
  refine (go_Pick HT3.out (show ls20.length ≤ 100000 by decide) 1 0 ⟨#[]⟩ none 0 0 0).mono ?_
  rintro e11 w11_3 ⟨v11, rfl, ho11, hb11⟩
  have hi11 := own_intsJ ho11
  clear ho11
  rw [pk20_3] at hi11
  obtain ⟨qa3, ca3, e11, -, -, -⟩ := id hi11
  subst e11
  have hba : Below w11_3.heap.size w11_3 (w11_3.alloc (.cells #[.int .i64 0, .int .i64 1, .int .i64 2] 3 (0, 0))) := (Below.refl _ _).alloc (Nat.le_refl _) _
  have HI11 := Lib.hid (hi11.below hba)
  have HR11 := Lib.hid (row_ints (L := [0, 1, 2]) (heap_alloc_new w11_3 (.cells #[.int .i64 0, .int .i64 1, .int .i64 2] 3 (0, 0))))
  have HT11 := Lib.hid ((HT3.out.below hb11).below hba)
  have HV11 := Lib.hid ((HV3.out.below hb11).below hba)
  clear hi11 hb11 hba y0 y1 y2 y3 HT3 HV3
  dsimp only
  go_wp2_with fail
  refine (go_ints [0, 1, 2] [0, 1, 2] _ _ _ _ _ HI11.out HR11.out (by decide) (by decide)).mono ?_
  rintro e12 w12_3 ⟨rfl, hb12⟩
  rw [show decide (([0, 1, 2] : List Int) = [0, 1, 2]) = true from rfl]
  have HT4 := Lib.hid (HT11.out.below hb12)
  have HV4 := Lib.hid (HV11.out.below hb12)
  clear hb12 HT11 HV11 HI11 HR11
  dsimp only
  go_wp2_with fail
  refine (go_Keys HT4.out).mono ?_
  rintro e13 w13 ⟨rfl, rfl⟩
  rw [keys20]
  go_wp2
  go_ret
  exact ⟨rfl, HV4.out.bel⟩
end Go.Proofs.Ytcmgfelbbmeanaa.Tms
