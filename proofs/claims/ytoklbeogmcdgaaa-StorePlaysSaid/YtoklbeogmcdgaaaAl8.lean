
/-
  Layer 8's store, plain: the document's example; what is put without told variables is the same tree, its variables renamed.
  The law's first test: prolixlaw08.alive answers true.
-/
import Derived.Test.YtoklbeogmcdgaaaPlt
import Derived.Test.YtoklbeogmcdgaaaGow
namespace Go.Proofs.Ytoklbeogmcdgaaa.Tms
open Go Go.RowKit Go.Proofs.Ytoklbeogmcdgaaa.Reg Go.Proofs.Ytoklbeogmcdgaaa.Rws Go.Proofs.Ytoklbeogmcdgaaa.Maps
set_option linter.unusedVariables false
set_option linter.unusedSimpArgs false

/-! ### The document's example -/
def exF : Tm := .mk 4 0 ⟨#[102]⟩ [.mk 1 0 ⟨#[]⟩ [], .mk 1 0 ⟨#[]⟩ []]
def exA : Tm := .mk 3 0 ⟨#[97]⟩ []
def ex0 : Sto := ⟨100, [], []⟩
def ex1 : Sto := ⟨100, [⟨4, 0, ⟨#[102]⟩, [1, 1], -1, 1⟩, ⟨1, 0, ⟨#[]⟩, [], -1, 1⟩], []⟩
def ex2 : Sto := ⟨100, [⟨4, 0, ⟨#[102]⟩, [1, 1], -1, 1⟩, ⟨1, 0, ⟨#[]⟩, [], -1, 1⟩, ⟨3, 0, ⟨#[97]⟩, [], -1, 1⟩], []⟩
def ex3 : Sto := ⟨100, [⟨4, 0, ⟨#[102]⟩, [1, 1], -1, 1⟩, ⟨1, 0, ⟨#[]⟩, [], 2, 1⟩, ⟨3, 0, ⟨#[97]⟩, [], -1, 1⟩], [(1, 2)]⟩
theorem ex1_put : putS ex0 [] exF = ex1 ∧ (putR ex0 [] exF).1 = 0 := ⟨rfl, rfl⟩
theorem ex2_put : putS ex1 [] exA = ex2 ∧ (putR ex1 [] exA).1 = 2 := ⟨rfl, rfl⟩
theorem ex3_bind : bindS ex2 1 2 = ex3 := rfl
theorem ex2_undo : undoS ex3 0 = ex2 := rfl
theorem ex0_inv : Inv ex0 := Inv.new 100 (by decide) (by decide)
theorem ex1_may : MayPut ex0 [] exF := ⟨by decide +kernel, by decide +kernel, by decide +kernel⟩
theorem ex2_may : MayPut ex1 [] exA := ⟨by decide +kernel, by decide +kernel, by decide +kernel⟩
theorem ex1_inv : Inv ex1 := by have := ex0_inv.put ex1_may; rwa [ex1_put.1] at this
theorem ex2_inv : Inv ex2 := by have := ex1_inv.put ex2_may; rwa [ex2_put.1] at this
theorem ex3_inv : Inv ex3 := by
  have := ex2_inv.bind (v := 1) (t := 2) (by decide) (by decide) rfl rfl rfl (by decide)
  rwa [ex3_bind] at this
theorem ex2_ch1 : Ch ex2 0 1 1 := ⟨by decide, by decide, rfl⟩
theorem ex2_ch2 : Ch ex2 0 2 2 := ⟨by decide, by decide, rfl⟩
theorem ex2_ch0 : Ch ex2 0 0 0 := ⟨by decide, by decide, rfl⟩
theorem ex3_ch0 : Ch ex3 0 0 0 := ⟨by decide, by decide, rfl⟩
theorem ex3_ch1 : Ch ex3 1 1 2 := ⟨by decide, 2, rfl, by decide, by decide, rfl⟩
def exG3 : Tm := .mk 4 0 ⟨#[102]⟩ [exA, exA]
def exG2 : Tm := .mk 4 0 ⟨#[102]⟩ [.mk 1 1 ⟨#[]⟩ [], .mk 1 1 ⟨#[]⟩ []]
theorem ex3_get : getG ex3 2000 0 0 = (exG3, 0, 3) := by
  have e0 : fol ex3 0 = 0 := fol_eq ex3_ch0
  have e1 : fol ex3 1 = 2 := fol_eq ex3_ch1
  have h1 : Tr ex3 exA 1 := by
    unfold exA Tr
    rw [e1]
    exact ⟨_, rfl, rfl, trivial⟩
  have h := getG_tr ex3 exG3 0 2000 0 ?_ (by decide) (by decide)
  · have e : 0 + exG3.size = 3 := rfl
    rw [e] at h
    exact h
  unfold exG3 Tr
  rw [e0]
  exact ⟨_, rfl, rfl, h1, h1, trivial⟩
theorem ex2_get : getG ex2 2000 0 0 = (exG2, 0, 3) := by
  have e0 : fol ex2 0 = 0 := fol_eq ex2_ch0
  have e1 : fol ex2 1 = 1 := fol_eq ex2_ch1
  have h1 : Tr ex2 (.mk 1 1 ⟨#[]⟩ []) 1 := by
    unfold Tr
    rw [e1]
    exact ⟨_, rfl, rfl, trivial⟩
  have h := getG_tr ex2 exG2 0 2000 0 ?_ (by decide) (by decide)
  · have e : 0 + exG2.size = 3 := rfl
    rw [e] at h
    exact h
  unfold exG2 Tr
  rw [e0]
  exact ⟨_, rfl, rfl, h1, h1, trivial⟩
end Go.Proofs.Ytoklbeogmcdgaaa.Tms
namespace Go.Proofs.Ytoklbeogmcdgaaa.Tms
open Go Go.RowKit Go.Proofs.Ytoklbeogmcdgaaa.Reg Go.Proofs.Ytoklbeogmcdgaaa.Rws Go.Proofs.Ytoklbeogmcdgaaa.Maps
set_option linter.unusedVariables false
set_option linter.unusedSimpArgs false

theorem put_nil {S S' : Sto} {D : Nat → Prop} {p : Nat} {t : Tm} {x : Int} {w w' : World} {e : Ending} (h : PutOk S D p none [] t w e w') (hS : putS S [] t = S' ∧ (putR S [] t).1 = x) :
    e = .returned (.tuple #[.int .i64 x, .int .i64 0]) ∧ StoDid w w' D p S' := by
  obtain ⟨he, D', h1, h2, h3, -⟩ := h
  rw [hS.2] at he
  rw [hS.1] at h1
  exact ⟨he, D', h1, ⟨h2.os, h2.tape, h2.output, h2.size, fun b hlt hb => h2.block b hlt fun e => e.elim hb fun e => by cases e⟩, h3⟩
/-- the store of the law's own: all its blocks are from B on -/
def Own8 (w : World) (B p : Nat) (S : Sto) : Prop := ∃ D, StoAt w D p S ∧ ∀ b, D b → B ≤ b
theorem Own8.did {w0 w w' : World} {B p : Nat} {D : Nat → Prop} {S' : Sto} (hD : ∀ b, D b → B ≤ b) (hb : Below B w0 w) (hB : B ≤ w.heap.size) (h : StoDid w w' D p S') : Own8 w' B p S' ∧ Below B w0 w' := by
  obtain ⟨D', h1, h2, h3⟩ := h
  refine ⟨⟨D', h1, fun b hb => ?_⟩, ⟨h2.os.trans hb.os, h2.tape.trans hb.tape, h2.output.trans hb.output, Nat.le_trans hb.size h2.size, fun b hlt => (h2.block b (by omega) fun e => by have := hD b e; omega).trans (hb.block b hlt)⟩⟩
  rcases h3 b hb with h | h
  · exact hD b h
  · omega
theorem alive8 (w : World) : Calls Try.prog 14 #[] w fun e w' => e = .returned (.bool true) ∧ Below w.heap.size w w' := by
  go_enter Try.func14, Try.ntmps14
  go_wp2_with fail
  refine (sto_New 100 w (by decide) (by decide)).mono ?_
  rintro e1 w1 ⟨rfl, hs1, hb1⟩
  have hz1 : w.heap.size < w1.heap.size := hs1.dl'' _ rfl
  have HS1 := Lib.hid hs1
  have HB1 := Lib.hid hb1
  clear hs1 hb1
  generalize hq : w.heap.size = q at *
  have HQ := Lib.hid hq
  clear hq
  go_wp2_with fail
  obtain ⟨t0, t1, tsz, tbl⟩ := two w1 (.cells #[.int .i64 1, .int .i64 0, .string ⟨#[]⟩, .slice none 0 0] 33 (0, 0)) (.cells #[.int .i64 1, .int .i64 0, .string ⟨#[]⟩, .slice none 0 0, .int .i64 1, .int .i64 0, .string ⟨#[]⟩, .slice none 0 0] 33 (0, 0))
  have HT1 := Lib.hid t1
  have HTB := Lib.hid tbl
  have HTZ := Lib.hid tsz
  clear t0 t1 tsz tbl
  generalize (w1.alloc (.cells #[.int .i64 1, .int .i64 0, .string ⟨#[]⟩, .slice none 0 0] 33 (0, 0))).alloc (.cells #[.int .i64 1, .int .i64 0, .string ⟨#[]⟩, .slice none 0 0, .int .i64 1, .int .i64 0, .string ⟨#[]⟩, .slice none 0 0] 33 (0, 0)) = W2 at *
  have hI2 : IsTm W2 (fun b => b = w1.heap.size + 1) (.agg #[.int .i64 4, .int .i64 0, .string ⟨#[102]⟩, .slice (some ⟨w1.heap.size + 1, 0, none⟩) 2 2]) exF :=
    IsTm.mk' (t := exF) (pair_sl (t1 := .mk 1 0 ⟨#[]⟩ []) (t2 := .mk 1 0 ⟨#[]⟩ []) rfl HT1.out (IsSl.nil _ _ _ _) (IsSl.nil _ _ _ _))
  refine (sto_Put_ok W2 (HS1.out.below HTB.out) exF _ none _ [] (by decide) hI2 (.inl ⟨rfl, rfl⟩) (fun b e => by cases e) (fun b hb e => by omega) (by decide) (by decide) (by decide) ex1_may.chk ex1_may.cnt ex1_may.fit).mono ?_
  intro e3 w3 hp3
  obtain ⟨rfl, hd3⟩ := put_nil hp3 ex1_put
  have h3 := Own8.did (w0 := w) (B := q) (fun b e => by omega) (HB1.out.trans (HTB.out.mono (by omega))) (by have := HTB.out.size; omega) hd3
  obtain ⟨⟨D3, hs3, hD3⟩, hb3⟩ := h3
  have hz3 : w1.heap.size + 2 ≤ w3.heap.size := by obtain ⟨D', g1, g2, g3⟩ := hd3; have := g2.size; have := HTZ.out; omega
  have HS3 := Lib.hid hs3
  have HD3 := Lib.hid hD3
  have HB3 := Lib.hid hb3
  clear hI2 hp3 hd3 hs3 hD3 hb3 HS1 HB1 HT1 HTB HTZ
  dsimp only
  go_wp2_with fail
  refine (sto_Put_ok w3 HS3.out exA _ none (fun _ => False) [] (by decide) (IsTm.mk' (t := exA) (IsSl.nil _ _ _ _)) (.inl ⟨rfl, rfl⟩) (fun b e => by cases e) (fun b hb => hb.elim) (by decide) (by decide) (by decide) ex2_may.chk ex2_may.cnt ex2_may.fit).mono ?_
  intro e4 w4 hp4
  obtain ⟨rfl, hd4⟩ := put_nil hp4 ex2_put
  obtain ⟨⟨D4, hs4, hD4⟩, hb4⟩ := Own8.did (w0 := w) (B := q) HD3.out HB3.out (by omega) hd4
  have hz4 : q ≤ w4.heap.size := by obtain ⟨D', g1, g2, g3⟩ := hd4; have := g2.size; omega
  have HS4 := Lib.hid hs4
  have HD4 := Lib.hid hD4
  have HB4 := Lib.hid hb4
  clear hp4 hd4 hs4 hD4 hb4 HS3 HD3 HB3
  dsimp only
  go_wp2_with fail
  refine (sto_Bind w4 HS4.out ex2_inv.stoOk 0 0 1 2 1 2 ex2_ch1 ex2_ch2 rfl (by decide)).mono ?_
  rintro e5 w5 ⟨rfl, hd5⟩
  rw [ex3_bind] at hd5
  obtain ⟨⟨D5, hs5, hD5⟩, hb5⟩ := Own8.did (w0 := w) (B := q) HD4.out HB4.out hz4 hd5
  have hz5 : q ≤ w5.heap.size := by obtain ⟨D', g1, g2, g3⟩ := hd5; have := g2.size; omega
  have HS5 := Lib.hid hs5
  have HD5 := Lib.hid hD5
  have HB5 := Lib.hid hb5
  clear hd5 hs5 hD5 hb5 HS4 HD4 HB4
  go_wp2_with fail
  refine (sto_Get_ok w5 ex3_inv.stoIn HS5.out 0 (by decide) exG3 3 ex3_get).mono ?_
  rintro e6 w6 ⟨a6, c6, rfl, hi6, hb6⟩
  have hz6 : w5.heap.size ≤ w6.heap.size := hb6.size
  have hb6' := below_new w6 (.cells #[.int .i64 exG3.k, .int .i64 exG3.n, .string exG3.s, .slice a6 exG3.args.length c6] 33 (0, 0))
  have hn6' := heap_alloc_new w6 (.cells #[.int .i64 exG3.k, .int .i64 exG3.n, .string exG3.s, .slice a6 exG3.args.length c6] 33 (0, 0))
  have HI7 := Lib.hid (hi6.below hb6')
  have HN7 := Lib.hid hn6'
  have HS7 := Lib.hid ((HS5.out.below hb6).below hb6')
  have HDL := Lib.hid HS5.out.dl''
  have HB7 := Lib.hid (HB5.out.trans ((hb6.trans (hb6'.mono hz6)).mono hz5))
  have hz7 : (w6.alloc (.cells #[.int .i64 exG3.k, .int .i64 exG3.n, .string exG3.s, .slice a6 exG3.args.length c6] 33 (0, 0))).heap.size = w6.heap.size + 1 := by simp
  have HZ7 := Lib.hid hz7
  clear hi6 hb6 hb6' hn6' hz7 HS5 HB5
  dsimp only
  go_wp2_with fail
  have hn7 : (w6.alloc (.cells #[.int .i64 exG3.k, .int .i64 exG3.n, .string exG3.s, .slice a6 exG3.args.length c6] 33 (0, 0))).heap[w6.heap.size]? = some (.cells #[.int .i64 4, .int .i64 0, .string ⟨#[102]⟩, .slice a6 2 c6] 33 (0, 0)) := HN7.out
  replace HN7 := Lib.hid hn7
  clear hn7
  generalize w6.alloc (.cells #[.int .i64 exG3.k, .int .i64 exG3.n, .string exG3.s, .slice a6 exG3.args.length c6] 33 (0, 0)) = W7 at *
  refine (sto_Undo W7 HS7.out ex3_inv.bndOk 0).mono ?_
  rintro e8 w8 ⟨rfl, hs8, hk8⟩
  rw [ex2_undo] at hs8
  have hz8 : w6.heap.size < w8.heap.size := by have := hk8.size; have := HZ7.out; omega
  have hi8 := HI7.out.imp (w' := w8) (fun _ h => h) fun b hb hlt => hk8.block b hlt fun e => by have := HDL.out _ e; omega
  have hn8 := (hk8.block w6.heap.size (by have := HZ7.out; omega) fun e => by have := HDL.out _ e; omega).trans HN7.out
  have hb8 : Below q w w8 := ⟨hk8.os.trans HB7.out.os, hk8.tape.trans HB7.out.tape, hk8.output.trans HB7.out.output, Nat.le_trans HB7.out.size hk8.size, fun b hlt => (hk8.block b (by have := HZ7.out; omega) fun e => by have := HD5.out _ e; omega).trans (HB7.out.block b hlt)⟩
  have HS8 := Lib.hid hs8
  have HI8 := Lib.hid hi8
  have HN8 := Lib.hid hn8
  have HB8 := Lib.hid hb8
  clear hs8 hk8 hi8 hn8 hb8 HI7 HN7 HS7 HB7 HZ7
  go_wp2_with fail
  refine (sto_Get_ok w8 ex2_inv.stoIn HS8.out 0 (by decide) exG2 3 ex2_get).mono ?_
  rintro e9 w9 ⟨a9, c9, rfl, hi9, hb9⟩
  have hz9 : w8.heap.size ≤ w9.heap.size := hb9.size
  have hb9' := below_new w9 (.cells #[.int .i64 exG2.k, .int .i64 exG2.n, .string exG2.s, .slice a9 exG2.args.length c9] 33 (0, 0))
  have hn9' : (w9.alloc (.cells #[.int .i64 exG2.k, .int .i64 exG2.n, .string exG2.s, .slice a9 exG2.args.length c9] 33 (0, 0))).heap[w9.heap.size]? = some (.cells #[.int .i64 4, .int .i64 0, .string ⟨#[102]⟩, .slice a9 2 c9] 33 (0, 0)) := heap_alloc_new w9 _
  have HIA := Lib.hid (hi9.below hb9')
  have HNA := Lib.hid hn9'
  have HIB := Lib.hid ((HI8.out.below hb9).below hb9')
  have HNB := Lib.hid ((hb9'.block w6.heap.size (by omega)).trans ((hb9.block w6.heap.size hz8).trans HN8.out))
  have HBA := Lib.hid (HB8.out.trans ((hb9.trans (hb9'.mono hz9)).mono (by omega)))
  clear hi9 hb9 hb9' hn9' HI8 HN8 HS8 HB8
  dsimp only
  go_wp2_with fail
  generalize w9.alloc (.cells #[.int .i64 exG2.k, .int .i64 exG2.n, .string exG2.s, .slice a9 exG2.args.length c9] 33 (0, 0)) = WA at *
  refine (sto_Fresh_nil WA).mono ?_
  rintro e10 w10 ⟨rfl, rfl⟩
  obtain ⟨b1, o1, rfl, -, m1⟩ := (show IsSl WA _ (.slice a6 2 c6) [exA, exA] from HIB.out.args).at 1 (by decide)
  obtain ⟨aa1, cc1, u0, u1, u2, u3, -, -⟩ := m1.read
  obtain ⟨b2, o2, rfl, -, m2⟩ := (show IsSl WA _ (.slice a9 2 c9) [.mk 1 1 ⟨#[]⟩ [], .mk 1 1 ⟨#[]⟩ []] from HIA.out.args).at 0 (by decide)
  obtain ⟨b2', o2', e2, -, m3⟩ := (show IsSl WA _ (.slice (some ⟨b2, o2, none⟩) 2 c9) [.mk 1 1 ⟨#[]⟩ [], .mk 1 1 ⟨#[]⟩ []] from HIA.out.args).at 1 (by decide)
  simp only [Option.some.injEq, Addr.mk.injEq, and_true] at e2
  obtain ⟨rfl, rfl⟩ := e2
  obtain ⟨aa2, cc2, v0, v1, v2, v3, -, -⟩ := m2.read
  obtain ⟨aa3, cc3, y0, y1, y2, y3, -, -⟩ := m3.read
  obtain ⟨p0, p1, p2, p3⟩ := row4 HNA.out
  obtain ⟨q0, q1, q2, q3⟩ := row4 HNB.out
  simp only [exA, List.getElem_cons_succ, List.getElem_cons_zero, Tm.k, Tm.n, Tm.s, Tm.args, List.length_nil, Nat.zero_mul, Nat.one_mul, Nat.add_zero] at u0 u1 u2 u3 v0 v1 v2 v3 y0 y1 y2 y3
  clear m1 m2 m3 u0 u1 u3 v0 v2 v3 y0 y2 y3 p0 p1 p2 q0 q1 q2
  go_wp2
  go_ret
  exact ⟨rfl, by rw [HQ.out]; exact HBA.out⟩
end Go.Proofs.Ytoklbeogmcdgaaa.Tms
