
/-
  Layer 17: ShapeBack, walked over the program.
-/
import Derived.Test.YtkhchmgdaolojaaSll
import Derived.Handy
import Derived.LoopN
namespace Go.Proofs.Ytkhchmgdaolojaa.Tms
open Go Go.RowKit Go.Proofs.Ytkhchmgdaolojaa.Reg Go.Proofs.Ytkhchmgdaolojaa.Rws Go.Proofs.Ytkhchmgdaolojaa.Maps Go.Instr
set_option linter.unusedVariables false
set_option linter.unusedSimpArgs false

theorem good_check17 (L : List Pt) (h : L.length ≤ 60) : checkT (goodT L) = 0 := check_zero (good_may L) (by have := goodT_size L; omega)
/-- a variable of the law's that holds Do's answer -/
def DidRow (f : Int) (ts : List Tm) (g : Nat) (w : World) : Prop := ∃ q k q' k', w.heap[g]? = some (.cells #[.bool true, .slice q ts.length k, .slice q' ts.length k', .int .i64 0, .int .i64 0, .string ⟨#[]⟩, .slice none 0 0] 71 (0, 0)) ∧ IntSl w AnyB (.slice q ts.length k) (firsts f ts.length) ∧ IsSl w (fun b => b ≠ g) (.slice q' ts.length k') ts
theorem IntSl.anyB {w : World} {P : Nat → Prop} {v : Value} {L : List Int} (h : IntSl w P v L) : IntSl w AnyB v L := let ⟨a, c, e, h1, h2, h3⟩ := h; ⟨a, c, e, h1, h2, fun i hi => let ⟨b, o, e1, _, hl, hc⟩ := h3 i hi; ⟨b, o, e1, trivial, hl, hc⟩⟩
theorem DidRow.below {f : Int} {ts : List Tm} {g : Nat} {w w' : World} (h : DidRow f ts g w) (hb : Below w.heap.size w w') : DidRow f ts g w' :=
  let ⟨q, k, q', k', h1, h2, h3⟩ := h; ⟨q, k, q', k', row_on h1 hb, h2.below hb, h3.below hb⟩
/-- Do's answer is stored -/
theorem did_row {f : Int} {ts : List Tm} {g : Nat} {w : World} {q q' : Option Addr} {n k k' : Nat} {cs : Array Value} (hn : n = ts.length) (hr : w.heap[g]? = some (.cells cs 71 (0, 0))) (h1 : IntSl w (fun b => b ≠ g) (.slice q n k) (firsts f ts.length)) (h2 : IsSl w (fun b => b ≠ g) (.slice q' n k') ts) :
    DidRow f ts g (w.setRow g #[.bool true, .slice q n k, .slice q' n k', .int .i64 0, .int .i64 0, .string ⟨#[]⟩, .slice none 0 0]) := by
  subst hn
  refine ⟨q, k, q', k', setRow_heap w g _ _ _ _ hr, ?_, h2.imp (fun _ h => h) fun b hb _ => setRow_other _ _ _ _ hb⟩
  obtain ⟨a, c, e, k1, k2, k3⟩ := h1
  refine ⟨a, c, e, k1, k2, fun i hi => ?_⟩
  obtain ⟨b, o, e1, hp, hl, hc⟩ := k3 i hi
  exact ⟨b, o, e1, trivial, by simpa using hl, (World.cell?_of_block (a := ⟨b, o + i, none⟩) (setRow_other _ _ _ _ hp)).trans hc⟩
theorem IntSl.ne {w : World} {P : Nat → Prop} {g : Nat} {v : Value} {L : List Int} (h : IntSl w P v L) (hp : ∀ b, P b → b < w.heap.size → b ≠ g) : IntSl w (fun b => b ≠ g) v L := let ⟨a, c, e, h1, h2, h3⟩ := h; ⟨a, c, e, h1, h2, fun i hi => let ⟨b, o, e1, hq, hl, hc⟩ := h3 i hi; ⟨b, o, e1, hp b hq hl, hl, hc⟩⟩
theorem IsSl.ne {w : World} {P : Nat → Prop} {g : Nat} {v : Value} {ts : List Tm} (h : IsSl w P v ts) (hp : ∀ b, P b → b < w.heap.size → b ≠ g) : IsSl w (fun b => b ≠ g) v ts := h.lt2.imp (fun b hb => hp b hb.1 hb.2) fun _ _ _ => rfl
/-- the term, and Do's answer, in the law's memory -/
structure Bk (T : Tm) (tb : Option Addr) (tk p3 p4 : Nat) (f : Int) (ts : List Tm) (w wx : World) : Prop where
  row : wx.heap[p3]? = some (.cells #[.int .i64 T.k, .int .i64 T.n, .string T.s, .slice tb T.args.length tk] 49 (0, 0))
  tm : IsTm wx (fun b => b < p3) (.agg #[.int .i64 T.k, .int .i64 T.n, .string T.s, .slice tb T.args.length tk]) T
  did : DidRow f ts p4 wx
  bel : Below w.heap.size w wx
  lo : w.heap.size ≤ p3
  hi : p3 < p4
theorem Bk.below {T : Tm} {tb : Option Addr} {tk p3 p4 : Nat} {f : Int} {ts : List Tm} {w wx w' : World} (h : Bk T tb tk p3 p4 f ts w wx) (hb : Below wx.heap.size wx w') : Bk T tb tk p3 p4 f ts w w' :=
  ⟨row_on h.row hb, h.tm.below hb, h.did.below hb, h.bel.trans (hb.mono h.bel.size), h.lo, h.hi⟩
/-- another answer is stored over it -/
theorem Bk.store {T : Tm} {tb : Option Addr} {tk p3 p4 : Nat} {f f' : Int} {ts ts' : List Tm} {w wx : World} {cs : Array Value} (h : Bk T tb tk p3 p4 f ts w wx) (hd : DidRow f' ts' p4 (wx.setRow p4 cs)) : Bk T tb tk p3 p4 f' ts' w (wx.setRow p4 cs) :=
  ⟨(setRow_other _ _ _ _ (by have := h.hi; omega)).trans h.row, h.tm.imp (fun _ h => h) (fun b hb _ => setRow_other _ _ _ _ (by have hb' : b < p3 := hb; have := h.hi; omega)), hd, below_row h.bel (by have := h.hi; have := h.lo; omega), h.lo, h.hi⟩
/-- the first place that an answer tells -/
theorem int0 {w : World} {P : Nat → Prop} {q : Option Addr} {n k : Nat} {f : Int} (h : IntSl w P (.slice q n k) (firsts f n)) (hn : 0 < n) : ∃ b off, q = some ⟨b, off, none⟩ ∧ b < w.heap.size ∧ w.cell? ⟨b, off, none⟩ = some (.int .i64 f) := by
  obtain ⟨a, c, e, -, -, h3⟩ := h
  obtain ⟨b, o, e1, -, hl, hc⟩ := h3 0 (by rw [firsts_len]; exact hn)
  simp only [Value.slice.injEq] at e
  obtain ⟨rfl, -, -⟩ := e
  have : (firsts f n)[0]'(by rw [firsts_len]; exact hn) = f := by simp [firsts]
  rw [this] at hc
  exact ⟨b, o, e1, hl, by simpa using hc⟩
def BkRel (T : Tm) (tb : Option Addr) (tk p3 p4 : Nat) (f : Int) (ts : List Tm) (w : World) (vi : Value) (wr : World) : Prop := ∃ i : Nat, i ≤ T.args.length ∧ vi = .int .i64 i ∧ Bk T tb tk p3 p4 f ts w wr
structure BkX (T : Tm) (tb : Option Addr) (tk p3 p4 : Nat) (f : Int) (ts : List Tm) (w : World) (X : Tm) (xa : Option Addr) (xc p9 p10 : Nat) (wx : World) : Prop where
  bk : Bk T tb tk p3 p4 f ts w wx
  row2 : wx.heap[p9]? = some (.cells #[.int .i64 X.k, .int .i64 X.n, .string X.s, .slice xa X.args.length xc] 49 (0, 0))
  tm2 : IsTm wx AnyB (.agg #[.int .i64 X.k, .int .i64 X.n, .string X.s, .slice xa X.args.length xc]) X
  did2 : DidRow 2 [X] p10 wx
theorem BkX.below {T : Tm} {tb : Option Addr} {tk p3 p4 : Nat} {f : Int} {ts : List Tm} {w wx w' : World} {X : Tm} {xa : Option Addr} {xc p9 p10 : Nat} (h : BkX T tb tk p3 p4 f ts w X xa xc p9 p10 wx) (hb : Below wx.heap.size wx w') : BkX T tb tk p3 p4 f ts w X xa xc p9 p10 w' :=
  ⟨h.bk.below hb, row_on h.row2 hb, h.tm2.below hb, h.did2.below hb⟩
theorem arg_in (i : Nat) (T : Tm) (P : Nat → Prop) (w : World) (a : Option Addr) (c : Nat) (h : IsSl w P (.slice a 3 c) [intT ((i : Int) + 1), T, varT 0]) (hs : T.size ≤ 100000) (hc : checkT T = 0) (hci : checkT (intT ((i + 1 : Nat) : Int)) = 0) (hk : T.k = 4) (hi : i < T.args.length) (X : Tm) (hX : X = T.args[i]) :
    Calls Try.prog 28 #[.string (⟨#[97, 114, 103]⟩ : ByteArray), .slice a 3 c] w (DoOk 2 [X] w) := by
  have hml : T.args.length ≤ 100000 := by have h1 := len_le T.args; have h2 : sizeL T.args + 1 = T.size := (by obtain ⟨k1, n1, s1, a1⟩ := T; simp [Tm.size, Tm.args]); omega
  refine (sh_Do_arg [intT ((i : Int) + 1), T, varT 0] (intT ((i : Int) + 1)) T (varT 0) P w a c h rfl ?_ rfl rfl (by show 1 ≤ (i : Int) + 1; omega) (by show (i : Int) + 1 ≤ _; omega) (by rw [hk]; decide)).mono ?_
  · intro t ht
    simp only [List.mem_cons, List.not_mem_nil, or_false] at ht
    rcases ht with rfl | rfl | rfl
    · exact ⟨by simp [intT, Tm.size, sizeL], hci⟩
    · exact ⟨by omega, hc⟩
    · exact ⟨by simp [varT, Tm.size, sizeL], ex17_cv 0 (by decide)⟩
  · rintro e w' (⟨hlt, -, hd⟩ | ⟨hno, -⟩)
    · have e1 : (intT ((i : Int) + 1)).n.toNat - 1 = i := by show ((i : Int) + 1).toNat - 1 = i; omega
      simp only [e1] at hd
      rw [hX]
      exact hd
    · exact absurd ⟨hk, by show (i : Int) + 1 ≤ _; omega⟩ hno
theorem arg_out (i : Nat) (T : Tm) (P : Nat → Prop) (w : World) (a : Option Addr) (c : Nat) (h : IsSl w P (.slice a 3 c) [intT ((i : Int) + 1), T, varT 0]) (hs : T.size ≤ 100000) (hc : checkT T = 0) (hci : checkT (intT ((i + 1 : Nat) : Int)) = 0) (hk : T.k ≠ 1) (hi : i = T.args.length) :
    Calls Try.prog 28 #[.string (⟨#[97, 114, 103]⟩ : ByteArray), .slice a 3 c] w (DoNo w) := by
  have hml : T.args.length ≤ 100000 := by have h1 := len_le T.args; have h2 : sizeL T.args + 1 = T.size := (by obtain ⟨k1, n1, s1, a1⟩ := T; simp [Tm.size, Tm.args]); omega
  refine (sh_Do_arg [intT ((i : Int) + 1), T, varT 0] (intT ((i : Int) + 1)) T (varT 0) P w a c h rfl ?_ rfl rfl (by show 1 ≤ (i : Int) + 1; omega) (by show (i : Int) + 1 ≤ _; omega) hk).mono ?_
  · intro t ht
    simp only [List.mem_cons, List.not_mem_nil, or_false] at ht
    rcases ht with rfl | rfl | rfl
    · exact ⟨by simp [intT, Tm.size, sizeL], hci⟩
    · exact ⟨by omega, hc⟩
    · exact ⟨by simp [varT, Tm.size, sizeL], ex17_cv 0 (by decide)⟩
  · rintro e w' (⟨hlt, -, hd⟩ | ⟨-, hd⟩)
    · have e1 : (intT ((i : Int) + 1)).n.toNat - 1 = i := by show ((i : Int) + 1).toNat - 1 = i; omega
      rw [e1] at hlt
      omega
    · exact hd
set_option maxRecDepth 100000 in
set_option maxHeartbeats 16000000 in
theorem law_back0 (T Lt F M : Tm) (m : Nat) (L : List Pt) (v1 : Value) (w : World) (h1 : PtSl w v1 L) (g1 : L.length ≤ 60) (hT : goodT L = T) (hk : T.k ≠ 1) (hm : m = T.args.length)
    (hc : checkT T = 0) (hcl : checkT (Lt) = 0) (hcf : checkT F = 0) (hci : ∀ i : Nat, i ≤ 100000 → checkT (intT i) = 0) (hs : T.size ≤ 1000) (hsl : (Lt).size ≤ 10000) (hsf : F.size ≤ 10000) (hsame : sameT T T = true) (hsub : ∀ x ∈ T.args, sameT x x = true)
    (hu1 : UvC T (varT 0) 1 [Lt]) (hu2 : UvC (varT 0) (Lt) 0 [T]) (hf1 : FnC T (varT 0) (varT 1) 1 [F, intT m]) (hf2 : FnC (varT 0) F (intT m) 0 [M]) (hM1 : M.s = T.s) (hM2 : M.args.length = m) (hkk : T.k ≠ 4 → m = 0) :
    Calls Try.prog 7 #[v1] w (Says true w) := by
  obtain ⟨a1, c1, rfl, hc1, hm1⟩ := h1.form
  have H1 := Lib.hid h1
  have d1 : decide (60 < (L.length : Int)) = false := by simp; omega
  have HT0 := Lib.hid hT
  have HM0 := Lib.hid hm
  have HSS := Lib.hid hsame
  have HSB := Lib.hid hsub
  have HCC := Lib.hid (And.intro hc (And.intro hcl hcf))
  have HCI := Lib.hid hci
  have HSZ := Lib.hid (And.intro hs (And.intro hsl hsf))
  have HUV := Lib.hid (And.intro hu1 hu2)
  have HFN := Lib.hid (And.intro hf1 hf2)
  have HMM := Lib.hid (And.intro hM1 hM2)
  have HKK := Lib.hid hkk
  have bk1 : (T.k == 1) = false := by simpa using hk
  have HKT := Lib.hid hk
  have hml : m ≤ 1000 := by have h1 := len_le T.args; have h2 : sizeL T.args + 1 = T.size := (by obtain ⟨k1, n1, s1, a1⟩ := T; simp [Tm.size, Tm.args]); omega
  have hTl : T.args.length ≤ 1000 := by rw [← hm]; exact hml
  clear h1 hT hm hsame hsub hc hcl hcf hci hs hsl hsf hu1 hu2 hf1 hf2 hM1 hM2 hkk hk
  go_enter Try.func7, Try.ntmps7
  go_wp2_with fail
  refine (l17_alive _).mono ?_
  rintro e1 w1 ⟨rfl, hb1⟩
  have HB := Lib.hid hb1
  clear hb1
  go_wp2_with fail
  refine (ref_great L _ _ (H1.out.below HB.out)).mono ?_
  rintro e2 w2 ⟨rfl, rfl⟩
  go_wp2_with fail
  refine (ref_good L _ _ (by omega) (H1.out.below HB.out)).mono ?_
  rw [HT0.out]
  rintro e3 w3 ⟨v3, rfl, hi3, hb3⟩
  obtain ⟨tb, tk, rfl⟩ := hi3.form
  have hx3 := hi3.lt.imp (P' := fun b => b < w3.heap.size) (fun b h => h.2) fun _ _ _ => rfl
  have HB3 := Lib.hid (HB.out.trans (hb3.mono HB.out.size))
  have hr4 := heap_alloc_new w3 (.cells #[.int .i64 T.k, .int .i64 T.n, .string T.s, .slice tb T.args.length tk] 49 (0, 0))
  have ha4 := (Below.refl w3.heap.size w3).alloc (Nat.le_refl _) (.cells #[.int .i64 T.k, .int .i64 T.n, .string T.s, .slice tb T.args.length tk] 49 (0, 0))
  have HX4 := Lib.hid (hx3.below ha4)
  have HR4 := Lib.hid hr4
  have HB4 := Lib.hid (HB3.out.trans (ha4.mono HB3.out.size))
  have hz3 := HB3.out.size
  clear hi3 hb3 HB H1 hx3 hr4 ha4 HB3
  go_upto_region 8 with fail
  generalize w3.alloc (.cells #[.int .i64 T.k, .int .i64 T.n, .string T.s, .slice tb T.args.length tk] 49 (0, 0)) = W8 at *
  have HP3 := Lib.hid (show w3.heap.size < W8.heap.size from (Array.getElem?_eq_some_iff.1 HR4.out).1)
  generalize w3.heap.size = p3 at *
  go_cut [4, 5] from 21 to 27 (fun v4 v5 wx => ∃ p4, v4 = .pointer (some ⟨p4, 0, none⟩) ∧ v5 = .int .i64 0 ∧ Bk T tb tk p3 p4 1 [Lt] w wx)
  case first =>
    refine wp_region_rest (by kernel_rfl) ?_
    have hd := (Below.refl W8.heap.size W8).drew
    have hr3 := row_on HR4.out hd
    have HX8 := Lib.hid (HX4.out.below hd)
    have HB8 := Lib.hid (HB4.out.trans (hd.mono HB4.out.size))
    have hp3 : p3 < W8.drew.heap.size := HP3.out
    clear hd HR4 HX4 HB4 HP3
    generalize W8.drew = W0 at *
    obtain ⟨y0, y1, y2, y3⟩ := row4 hr3
    have HR8 := Lib.hid hr3
    clear hr3
    refine rest_chainP (fun u => Below W0.heap.size W0 u) 0 10 (.soft 0 (.two 1 7 (.two 2 7 (.two 3 7 (.soft 4 (.soft 5 (.soft 6 (.one 7 (.one 8 (.soft 9 .nil)))))) (.one 3 (.soft 4 (.soft 5 (.soft 6 (.one 8 (.soft 9 .nil))))))) (.one 2 (.one 3 (.soft 4 (.soft 5 (.soft 6 (.one 8 (.soft 9 .nil)))))))) (.one 1 (.one 2 (.one 3 (.soft 4 (.soft 5 (.soft 6 (.one 8 (.soft 9 .nil)))))))))) (.soft _ (.two _ _ (.two _ _ (.two _ _ (.soft _ (.soft _ (.soft _ (.one _ (.one _ (.soft _ .nil)))))) (.one _ (.soft _ (.soft _ (.soft _ (.one _ (.soft _ .nil))))))) (.one _ (.one _ (.soft _ (.soft _ (.soft _ (.one _ (.soft _ .nil)))))))) (.one _ (.one _ (.one _ (.soft _ (.soft _ (.soft _ (.one _ (.soft _ .nil)))))))))) ⟨rfl, ⟨rfl, rfl, ⟨rfl, rfl, ⟨rfl, rfl, ⟨rfl, ⟨rfl, ⟨rfl, ⟨rfl, ⟨rfl, ⟨rfl, trivial⟩⟩⟩⟩⟩⟩, ⟨rfl, ⟨rfl, ⟨rfl, ⟨rfl, ⟨rfl, ⟨rfl, trivial⟩⟩⟩⟩⟩⟩⟩, ⟨rfl, ⟨rfl, ⟨rfl, ⟨rfl, ⟨rfl, ⟨rfl, ⟨rfl, trivial⟩⟩⟩⟩⟩⟩⟩⟩, ⟨rfl, ⟨rfl, ⟨rfl, ⟨rfl, ⟨rfl, ⟨rfl, ⟨rfl, ⟨rfl, trivial⟩⟩⟩⟩⟩⟩⟩⟩⟩⟩ (by kernel_rfl) (by kernel_rfl) (by kernel_rfl) (by kernel_rfl) (.inl rfl) (Below.refl _ _) ?_
    have hb0 := Below.refl W0.heap.size W0
    refine chainP_soft (a1 := ?ma1) (by kernel_rfl) (by kernel_rfl) ?mh1 ?mr1
    case mh1 =>
      intro u hu E hE
      have c0 := (hu.cell (p := ⟨p3, 0, none⟩) hp3).trans y0
      have c1 := (hu.cell (p := ⟨p3, 1, none⟩) hp3).trans y1
      have c2 := (hu.cell (p := ⟨p3, 2, none⟩) hp3).trans y2
      have c3 := (hu.cell (p := ⟨p3, 3, none⟩) hp3).trans y3
      go_wp2
      rfl
    refine chainP_two ?_ ?_
    · intro E hE
      go_wp2_with (refine (l17_v _ _).mono ?_; rintro e x1 ⟨rfl, hbn⟩)
      have hx1 := hb0.trans (hbn.mono hb0.size)
      clear hbn
      refine ⟨hx1, ?_⟩
      refine chainP_two ?_ ?_
      · intro E hE
        go_wp2
        have hrw : IsSl (x1.alloc (.cells #[.int .i64 T.k, .int .i64 T.n, .string T.s, .slice tb T.args.length tk, .int .i64 1, .int .i64 0, .string ⟨#[]⟩, .slice none 0 0] 49 (0, 0))) AnyB (.slice (some ⟨x1.heap.size, 0, none⟩) 2 2) [T, varT 0] := row2 (y := varT 0) (a' := none) (c' := 0) (HX8.out.below hx1).any (var_is _ _ _)
        have hbn := (Below.refl x1.heap.size x1).alloc (Nat.le_refl _) (.cells #[.int .i64 T.k, .int .i64 T.n, .string T.s, .slice tb T.args.length tk, .int .i64 1, .int .i64 0, .string ⟨#[]⟩, .slice none 0 0] 49 (0, 0))
        have hx2 := hx1.trans (hbn.mono hx1.size)
        clear hbn
        refine ⟨hx2, ?_⟩
        generalize hGx2 : x1.alloc (.cells #[.int .i64 T.k, .int .i64 T.n, .string T.s, .slice tb T.args.length tk, .int .i64 1, .int .i64 0, .string ⟨#[]⟩, .slice none 0 0] 49 (0, 0)) = x2 at *
        clear hGx2
        refine chainP_two ?_ ?_
        · intro E hE
          go_wp2_with (refine (sh_Do_univ [T, varT 0] T (varT 0) 1 [Lt] AnyB _ _ _ hrw rfl (by intro t ht; simp only [List.mem_cons, List.not_mem_nil, or_false] at ht; rcases ht with rfl | rfl; (· exact ⟨by have := HSZ.out.1; omega, HCC.out.1⟩); (· exact ⟨by simp [varT, Tm.size, sizeL], ex17_cv 0 (by decide)⟩)) rfl HUV.out.1).mono ?_; rintro e x3 ⟨va, vt, rfl, hic, hsc, hbn⟩)
          obtain ⟨p1, r1, ea⟩ : ∃ q k, va = .slice q 1 k := hic.firsts
          obtain ⟨p2, r2, eb⟩ : ∃ q k, vt = .slice q 1 k := hsc.form
          subst ea eb
          clear hrw
          have HIC := Lib.hid hic.anyB
          have HSC := Lib.hid (hsc.imp (P' := AnyB) (fun _ _ => trivial) (fun _ _ _ => rfl))
          clear hic hsc
          have hx3 := hx2.trans (hbn.mono hx2.size)
          clear hbn
          refine ⟨hx3, ?_⟩
          refine chainP_softv (.tuple #[.agg #[.bool true, .slice p1 1 r1, .slice p2 1 r2, .int .i64 0, .int .i64 0, .string ⟨#[]⟩, .slice none 0 0], .int .i64 0]) (by kernel_rfl) (by kernel_rfl) ?_ ?_
          · simp only [Act.put, List.getElem?_toArray, List.getElem?_cons_succ, List.getElem?_cons_zero, Option.bind_some, List.setIfInBounds_toArray, List.set_cons_succ, List.set_cons_zero, Nat.reduceAdd]
            intro u hu E hE
            go_wp2
            exact hE
          simp only [Act.put, List.getElem?_toArray, List.getElem?_cons_succ, List.getElem?_cons_zero, Option.bind_some, List.setIfInBounds_toArray, List.set_cons_succ, List.set_cons_zero, Nat.reduceAdd]
          refine chainP_softv (.agg #[.bool true, .slice p1 1 r1, .slice p2 1 r2, .int .i64 0, .int .i64 0, .string ⟨#[]⟩, .slice none 0 0]) (by kernel_rfl) (by kernel_rfl) ?_ ?_
          · simp only [Act.put, List.getElem?_toArray, List.getElem?_cons_succ, List.getElem?_cons_zero, Option.bind_some, List.setIfInBounds_toArray, List.set_cons_succ, List.set_cons_zero, Nat.reduceAdd]
            intro u hu E hE
            go_wp2
            exact hE
          simp only [Act.put, List.getElem?_toArray, List.getElem?_cons_succ, List.getElem?_cons_zero, Option.bind_some, List.setIfInBounds_toArray, List.set_cons_succ, List.set_cons_zero, Nat.reduceAdd]
          refine chainP_softv (.int .i64 0) (by kernel_rfl) (by kernel_rfl) ?_ ?_
          · simp only [Act.put, List.getElem?_toArray, List.getElem?_cons_succ, List.getElem?_cons_zero, Option.bind_some, List.setIfInBounds_toArray, List.set_cons_succ, List.set_cons_zero, Nat.reduceAdd]
            intro u hu E hE
            go_wp2
            exact hE
          simp only [Act.put, List.getElem?_toArray, List.getElem?_cons_succ, List.getElem?_cons_zero, Option.bind_some, List.setIfInBounds_toArray, List.set_cons_succ, List.set_cons_zero, Nat.reduceAdd]
          refine chainP_one ?_
          intro E hE
          go_wp2
          have hrd := heap_alloc_new x3 (.cells #[.bool false, .slice none 0 0, .slice none 0 0, .int .i64 0, .int .i64 0, .string ⟨#[]⟩, .slice none 0 0] 71 (0, 0))
          have hbn := (Below.refl x3.heap.size x3).alloc (Nat.le_refl _) (.cells #[.bool false, .slice none 0 0, .slice none 0 0, .int .i64 0, .int .i64 0, .string ⟨#[]⟩, .slice none 0 0] 71 (0, 0))
          have hgl : W0.heap.size ≤ x3.heap.size := hx3.size
          replace HIC := Lib.hid (HIC.out.ne (g := x3.heap.size) (fun b _ hlt => by omega))
          replace HSC := Lib.hid (HSC.out.ne (g := x3.heap.size) (fun b _ hlt => by omega))
          replace HIC := Lib.hid (HIC.out.below hbn)
          replace HSC := Lib.hid (HSC.out.below hbn)
          have hx4 := hx3.trans (hbn.mono hx3.size)
          clear hbn
          refine ⟨hx4, ?_⟩
          generalize hGx4 : x3.alloc (.cells #[.bool false, .slice none 0 0, .slice none 0 0, .int .i64 0, .int .i64 0, .string ⟨#[]⟩, .slice none 0 0] 71 (0, 0)) = x4 at *
          clear hGx4
          refine chainP_one ?_
          intro E hE
          have HDR := Lib.hid (did_row (f := 1) (ts := [Lt]) rfl hrd HIC.out HSC.out)
          go_wp2_with (refine wpList_store_row rfl 71 (.tmp 4) (.tmp 26) rfl (x3.heap.size) #[.bool true, .slice p1 1 r1, .slice p2 1 r2, .int .i64 0, .int .i64 0, .string ⟨#[]⟩, .slice none 0 0] rfl rfl _ _ hrd size_did rfl (one7 _ _ _ _ _ _ _) ?_)
          have hfin := below_row (cs := #[.bool true, .slice p1 1 r1, .slice p2 1 r2, .int .i64 0, .int .i64 0, .string ⟨#[]⟩, .slice none 0 0]) hx4 hgl
          refine ⟨hfin, ?_⟩
          refine chainP_softv (.int .i64 0) (by kernel_rfl) (by kernel_rfl) ?_ ?_
          · simp only [Act.put, List.getElem?_toArray, List.getElem?_cons_succ, List.getElem?_cons_zero, Option.bind_some, List.setIfInBounds_toArray, List.set_cons_succ, List.set_cons_zero, Nat.reduceAdd]
            intro u hu E hE
            go_wp2
            exact hE
          simp only [Act.put, List.getElem?_toArray, List.getElem?_cons_succ, List.getElem?_cons_zero, Option.bind_some, List.setIfInBounds_toArray, List.set_cons_succ, List.set_cons_zero, Nat.reduceAdd]
          have HFIN := Lib.hid hfin
          clear hrd HIC HSC hfin
          refine chainP_nil (rest_end (by decide) ?_)
          go_wp2
          go_meet
          exact ⟨_, rfl, rfl, ⟨(setRow_other _ _ _ _ (by have := hgl; omega)).trans (row_on HR8.out hx4), (HX8.out.below hx4).imp (fun _ h => h) (fun b hb _ => setRow_other _ _ _ _ (by have hb' : b < p3 := hb; have := hgl; omega)), HDR.out, HB8.out.trans (HFIN.out.mono HB8.out.size), hz3, by have := hgl; omega⟩⟩
        · intro E hE
          go_wp2
          have hrd := heap_alloc_new x2 (.cells #[.bool false, .slice none 0 0, .slice none 0 0, .int .i64 0, .int .i64 0, .string ⟨#[]⟩, .slice none 0 0] 71 (0, 0))
          have hbn := (Below.refl x2.heap.size x2).alloc (Nat.le_refl _) (.cells #[.bool false, .slice none 0 0, .slice none 0 0, .int .i64 0, .int .i64 0, .string ⟨#[]⟩, .slice none 0 0] 71 (0, 0))
          have hgl : W0.heap.size ≤ x2.heap.size := hx2.size
          replace hrw := hrw.below hbn
          have hx3 := hx2.trans (hbn.mono hx2.size)
          clear hbn
          refine ⟨hx3, ?_⟩
          generalize hGx3 : x2.alloc (.cells #[.bool false, .slice none 0 0, .slice none 0 0, .int .i64 0, .int .i64 0, .string ⟨#[]⟩, .slice none 0 0] 71 (0, 0)) = x3 at *
          clear hGx3
          refine chainP_one ?_
          intro E hE
          go_wp2_with (refine (sh_Do_univ [T, varT 0] T (varT 0) 1 [Lt] AnyB _ _ _ hrw rfl (by intro t ht; simp only [List.mem_cons, List.not_mem_nil, or_false] at ht; rcases ht with rfl | rfl; (· exact ⟨by have := HSZ.out.1; omega, HCC.out.1⟩); (· exact ⟨by simp [varT, Tm.size, sizeL], ex17_cv 0 (by decide)⟩)) rfl HUV.out.1).mono ?_; rintro e x4 ⟨va, vt, rfl, hic, hsc, hbn⟩)
          obtain ⟨p1, r1, ea⟩ : ∃ q k, va = .slice q 1 k := hic.firsts
          obtain ⟨p2, r2, eb⟩ : ∃ q k, vt = .slice q 1 k := hsc.form
          subst ea eb
          clear hrw
          have hgl0 := (Array.getElem?_eq_some_iff.1 hrd).1
          have HIC := Lib.hid (hic.ne (g := x2.heap.size) (fun b hb _ => by omega))
          have HSC := Lib.hid (hsc.ne (g := x2.heap.size) (fun b hb _ => by omega))
          clear hgl0
          clear hic hsc
          replace hrd := row_on hrd hbn
          have hx4 := hx3.trans (hbn.mono hx3.size)
          clear hbn
          refine ⟨hx4, ?_⟩
          refine chainP_softv (.tuple #[.agg #[.bool true, .slice p1 1 r1, .slice p2 1 r2, .int .i64 0, .int .i64 0, .string ⟨#[]⟩, .slice none 0 0], .int .i64 0]) (by kernel_rfl) (by kernel_rfl) ?_ ?_
          · simp only [Act.put, List.getElem?_toArray, List.getElem?_cons_succ, List.getElem?_cons_zero, Option.bind_some, List.setIfInBounds_toArray, List.set_cons_succ, List.set_cons_zero, Nat.reduceAdd]
            intro u hu E hE
            go_wp2
            exact hE
          simp only [Act.put, List.getElem?_toArray, List.getElem?_cons_succ, List.getElem?_cons_zero, Option.bind_some, List.setIfInBounds_toArray, List.set_cons_succ, List.set_cons_zero, Nat.reduceAdd]
          refine chainP_softv (.agg #[.bool true, .slice p1 1 r1, .slice p2 1 r2, .int .i64 0, .int .i64 0, .string ⟨#[]⟩, .slice none 0 0]) (by kernel_rfl) (by kernel_rfl) ?_ ?_
          · simp only [Act.put, List.getElem?_toArray, List.getElem?_cons_succ, List.getElem?_cons_zero, Option.bind_some, List.setIfInBounds_toArray, List.set_cons_succ, List.set_cons_zero, Nat.reduceAdd]
            intro u hu E hE
            go_wp2
            exact hE
          simp only [Act.put, List.getElem?_toArray, List.getElem?_cons_succ, List.getElem?_cons_zero, Option.bind_some, List.setIfInBounds_toArray, List.set_cons_succ, List.set_cons_zero, Nat.reduceAdd]
          refine chainP_softv (.int .i64 0) (by kernel_rfl) (by kernel_rfl) ?_ ?_
          · simp only [Act.put, List.getElem?_toArray, List.getElem?_cons_succ, List.getElem?_cons_zero, Option.bind_some, List.setIfInBounds_toArray, List.set_cons_succ, List.set_cons_zero, Nat.reduceAdd]
            intro u hu E hE
            go_wp2
            exact hE
          simp only [Act.put, List.getElem?_toArray, List.getElem?_cons_succ, List.getElem?_cons_zero, Option.bind_some, List.setIfInBounds_toArray, List.set_cons_succ, List.set_cons_zero, Nat.reduceAdd]
          refine chainP_one ?_
          intro E hE
          have HDR := Lib.hid (did_row (f := 1) (ts := [Lt]) rfl hrd HIC.out HSC.out)
          go_wp2_with (refine wpList_store_row rfl 71 (.tmp 4) (.tmp 26) rfl (x2.heap.size) #[.bool true, .slice p1 1 r1, .slice p2 1 r2, .int .i64 0, .int .i64 0, .string ⟨#[]⟩, .slice none 0 0] rfl rfl _ _ hrd size_did rfl (one7 _ _ _ _ _ _ _) ?_)
          have hfin := below_row (cs := #[.bool true, .slice p1 1 r1, .slice p2 1 r2, .int .i64 0, .int .i64 0, .string ⟨#[]⟩, .slice none 0 0]) hx4 hgl
          refine ⟨hfin, ?_⟩
          refine chainP_softv (.int .i64 0) (by kernel_rfl) (by kernel_rfl) ?_ ?_
          · simp only [Act.put, List.getElem?_toArray, List.getElem?_cons_succ, List.getElem?_cons_zero, Option.bind_some, List.setIfInBounds_toArray, List.set_cons_succ, List.set_cons_zero, Nat.reduceAdd]
            intro u hu E hE
            go_wp2
            exact hE
          simp only [Act.put, List.getElem?_toArray, List.getElem?_cons_succ, List.getElem?_cons_zero, Option.bind_some, List.setIfInBounds_toArray, List.set_cons_succ, List.set_cons_zero, Nat.reduceAdd]
          have HFIN := Lib.hid hfin
          clear hrd HIC HSC hfin
          refine chainP_nil (rest_end (by decide) ?_)
          go_wp2
          go_meet
          exact ⟨_, rfl, rfl, ⟨(setRow_other _ _ _ _ (by have := hgl; omega)).trans (row_on HR8.out hx4), (HX8.out.below hx4).imp (fun _ h => h) (fun b hb _ => setRow_other _ _ _ _ (by have hb' : b < p3 := hb; have := hgl; omega)), HDR.out, HB8.out.trans (HFIN.out.mono HB8.out.size), hz3, by have := hgl; omega⟩⟩
      · intro E hE
        go_wp2
        have hrd := heap_alloc_new x1 (.cells #[.bool false, .slice none 0 0, .slice none 0 0, .int .i64 0, .int .i64 0, .string ⟨#[]⟩, .slice none 0 0] 71 (0, 0))
        have hbn := (Below.refl x1.heap.size x1).alloc (Nat.le_refl _) (.cells #[.bool false, .slice none 0 0, .slice none 0 0, .int .i64 0, .int .i64 0, .string ⟨#[]⟩, .slice none 0 0] 71 (0, 0))
        have hgl : W0.heap.size ≤ x1.heap.size := hx1.size
        have hx2 := hx1.trans (hbn.mono hx1.size)
        clear hbn
        refine ⟨hx2, ?_⟩
        generalize hGx2 : x1.alloc (.cells #[.bool false, .slice none 0 0, .slice none 0 0, .int .i64 0, .int .i64 0, .string ⟨#[]⟩, .slice none 0 0] 71 (0, 0)) = x2 at *
        clear hGx2
        refine chainP_one ?_
        intro E hE
        go_wp2
        have hrw : IsSl (x2.alloc (.cells #[.int .i64 T.k, .int .i64 T.n, .string T.s, .slice tb T.args.length tk, .int .i64 1, .int .i64 0, .string ⟨#[]⟩, .slice none 0 0] 49 (0, 0))) AnyB (.slice (some ⟨x2.heap.size, 0, none⟩) 2 2) [T, varT 0] := row2 (y := varT 0) (a' := none) (c' := 0) (HX8.out.below hx2).any (var_is _ _ _)
        have hbn := (Below.refl x2.heap.size x2).alloc (Nat.le_refl _) (.cells #[.int .i64 T.k, .int .i64 T.n, .string T.s, .slice tb T.args.length tk, .int .i64 1, .int .i64 0, .string ⟨#[]⟩, .slice none 0 0] 49 (0, 0))
        replace hrd := row_on hrd hbn
        have hx3 := hx2.trans (hbn.mono hx2.size)
        clear hbn
        refine ⟨hx3, ?_⟩
        generalize hGx3 : x2.alloc (.cells #[.int .i64 T.k, .int .i64 T.n, .string T.s, .slice tb T.args.length tk, .int .i64 1, .int .i64 0, .string ⟨#[]⟩, .slice none 0 0] 49 (0, 0)) = x3 at *
        clear hGx3
        refine chainP_one ?_
        intro E hE
        go_wp2_with (refine (sh_Do_univ [T, varT 0] T (varT 0) 1 [Lt] AnyB _ _ _ hrw rfl (by intro t ht; simp only [List.mem_cons, List.not_mem_nil, or_false] at ht; rcases ht with rfl | rfl; (· exact ⟨by have := HSZ.out.1; omega, HCC.out.1⟩); (· exact ⟨by simp [varT, Tm.size, sizeL], ex17_cv 0 (by decide)⟩)) rfl HUV.out.1).mono ?_; rintro e x4 ⟨va, vt, rfl, hic, hsc, hbn⟩)
        obtain ⟨p1, r1, ea⟩ : ∃ q k, va = .slice q 1 k := hic.firsts
        obtain ⟨p2, r2, eb⟩ : ∃ q k, vt = .slice q 1 k := hsc.form
        subst ea eb
        clear hrw
        have hgl0 := (Array.getElem?_eq_some_iff.1 hrd).1
        have HIC := Lib.hid (hic.ne (g := x1.heap.size) (fun b hb _ => by omega))
        have HSC := Lib.hid (hsc.ne (g := x1.heap.size) (fun b hb _ => by omega))
        clear hgl0
        clear hic hsc
        replace hrd := row_on hrd hbn
        have hx4 := hx3.trans (hbn.mono hx3.size)
        clear hbn
        refine ⟨hx4, ?_⟩
        refine chainP_softv (.tuple #[.agg #[.bool true, .slice p1 1 r1, .slice p2 1 r2, .int .i64 0, .int .i64 0, .string ⟨#[]⟩, .slice none 0 0], .int .i64 0]) (by kernel_rfl) (by kernel_rfl) ?_ ?_
        · simp only [Act.put, List.getElem?_toArray, List.getElem?_cons_succ, List.getElem?_cons_zero, Option.bind_some, List.setIfInBounds_toArray, List.set_cons_succ, List.set_cons_zero, Nat.reduceAdd]
          intro u hu E hE
          go_wp2
          exact hE
        simp only [Act.put, List.getElem?_toArray, List.getElem?_cons_succ, List.getElem?_cons_zero, Option.bind_some, List.setIfInBounds_toArray, List.set_cons_succ, List.set_cons_zero, Nat.reduceAdd]
        refine chainP_softv (.agg #[.bool true, .slice p1 1 r1, .slice p2 1 r2, .int .i64 0, .int .i64 0, .string ⟨#[]⟩, .slice none 0 0]) (by kernel_rfl) (by kernel_rfl) ?_ ?_
        · simp only [Act.put, List.getElem?_toArray, List.getElem?_cons_succ, List.getElem?_cons_zero, Option.bind_some, List.setIfInBounds_toArray, List.set_cons_succ, List.set_cons_zero, Nat.reduceAdd]
          intro u hu E hE
          go_wp2
          exact hE
        simp only [Act.put, List.getElem?_toArray, List.getElem?_cons_succ, List.getElem?_cons_zero, Option.bind_some, List.setIfInBounds_toArray, List.set_cons_succ, List.set_cons_zero, Nat.reduceAdd]
        refine chainP_softv (.int .i64 0) (by kernel_rfl) (by kernel_rfl) ?_ ?_
        · simp only [Act.put, List.getElem?_toArray, List.getElem?_cons_succ, List.getElem?_cons_zero, Option.bind_some, List.setIfInBounds_toArray, List.set_cons_succ, List.set_cons_zero, Nat.reduceAdd]
          intro u hu E hE
          go_wp2
          exact hE
        simp only [Act.put, List.getElem?_toArray, List.getElem?_cons_succ, List.getElem?_cons_zero, Option.bind_some, List.setIfInBounds_toArray, List.set_cons_succ, List.set_cons_zero, Nat.reduceAdd]
        refine chainP_one ?_
        intro E hE
        have HDR := Lib.hid (did_row (f := 1) (ts := [Lt]) rfl hrd HIC.out HSC.out)
        go_wp2_with (refine wpList_store_row rfl 71 (.tmp 4) (.tmp 26) rfl (x1.heap.size) #[.bool true, .slice p1 1 r1, .slice p2 1 r2, .int .i64 0, .int .i64 0, .string ⟨#[]⟩, .slice none 0 0] rfl rfl _ _ hrd size_did rfl (one7 _ _ _ _ _ _ _) ?_)
        have hfin := below_row (cs := #[.bool true, .slice p1 1 r1, .slice p2 1 r2, .int .i64 0, .int .i64 0, .string ⟨#[]⟩, .slice none 0 0]) hx4 hgl
        refine ⟨hfin, ?_⟩
        refine chainP_softv (.int .i64 0) (by kernel_rfl) (by kernel_rfl) ?_ ?_
        · simp only [Act.put, List.getElem?_toArray, List.getElem?_cons_succ, List.getElem?_cons_zero, Option.bind_some, List.setIfInBounds_toArray, List.set_cons_succ, List.set_cons_zero, Nat.reduceAdd]
          intro u hu E hE
          go_wp2
          exact hE
        simp only [Act.put, List.getElem?_toArray, List.getElem?_cons_succ, List.getElem?_cons_zero, Option.bind_some, List.setIfInBounds_toArray, List.set_cons_succ, List.set_cons_zero, Nat.reduceAdd]
        have HFIN := Lib.hid hfin
        clear hrd HIC HSC hfin
        refine chainP_nil (rest_end (by decide) ?_)
        go_wp2
        go_meet
        exact ⟨_, rfl, rfl, ⟨(setRow_other _ _ _ _ (by have := hgl; omega)).trans (row_on HR8.out hx4), (HX8.out.below hx4).imp (fun _ h => h) (fun b hb _ => setRow_other _ _ _ _ (by have hb' : b < p3 := hb; have := hgl; omega)), HDR.out, HB8.out.trans (HFIN.out.mono HB8.out.size), hz3, by have := hgl; omega⟩⟩
    · intro E hE
      go_wp2
      have hrd := heap_alloc_new W0 (.cells #[.bool false, .slice none 0 0, .slice none 0 0, .int .i64 0, .int .i64 0, .string ⟨#[]⟩, .slice none 0 0] 71 (0, 0))
      have hbn := (Below.refl W0.heap.size W0).alloc (Nat.le_refl _) (.cells #[.bool false, .slice none 0 0, .slice none 0 0, .int .i64 0, .int .i64 0, .string ⟨#[]⟩, .slice none 0 0] 71 (0, 0))
      have hgl : W0.heap.size ≤ W0.heap.size := hb0.size
      have hx1 := hb0.trans (hbn.mono hb0.size)
      clear hbn
      refine ⟨hx1, ?_⟩
      generalize hGx1 : W0.alloc (.cells #[.bool false, .slice none 0 0, .slice none 0 0, .int .i64 0, .int .i64 0, .string ⟨#[]⟩, .slice none 0 0] 71 (0, 0)) = x1 at *
      clear hGx1
      refine chainP_one ?_
      intro E hE
      go_wp2_with (refine (l17_v _ _).mono ?_; rintro e x2 ⟨rfl, hbn⟩)
      replace hrd := row_on hrd hbn
      have hx2 := hx1.trans (hbn.mono hx1.size)
      clear hbn
      refine ⟨hx2, ?_⟩
      refine chainP_one ?_
      intro E hE
      go_wp2
      have hrw : IsSl (x2.alloc (.cells #[.int .i64 T.k, .int .i64 T.n, .string T.s, .slice tb T.args.length tk, .int .i64 1, .int .i64 0, .string ⟨#[]⟩, .slice none 0 0] 49 (0, 0))) AnyB (.slice (some ⟨x2.heap.size, 0, none⟩) 2 2) [T, varT 0] := row2 (y := varT 0) (a' := none) (c' := 0) (HX8.out.below hx2).any (var_is _ _ _)
      have hbn := (Below.refl x2.heap.size x2).alloc (Nat.le_refl _) (.cells #[.int .i64 T.k, .int .i64 T.n, .string T.s, .slice tb T.args.length tk, .int .i64 1, .int .i64 0, .string ⟨#[]⟩, .slice none 0 0] 49 (0, 0))
      replace hrd := row_on hrd hbn
      have hx3 := hx2.trans (hbn.mono hx2.size)
      clear hbn
      refine ⟨hx3, ?_⟩
      generalize hGx3 : x2.alloc (.cells #[.int .i64 T.k, .int .i64 T.n, .string T.s, .slice tb T.args.length tk, .int .i64 1, .int .i64 0, .string ⟨#[]⟩, .slice none 0 0] 49 (0, 0)) = x3 at *
      clear hGx3
      refine chainP_one ?_
      intro E hE
      go_wp2_with (refine (sh_Do_univ [T, varT 0] T (varT 0) 1 [Lt] AnyB _ _ _ hrw rfl (by intro t ht; simp only [List.mem_cons, List.not_mem_nil, or_false] at ht; rcases ht with rfl | rfl; (· exact ⟨by have := HSZ.out.1; omega, HCC.out.1⟩); (· exact ⟨by simp [varT, Tm.size, sizeL], ex17_cv 0 (by decide)⟩)) rfl HUV.out.1).mono ?_; rintro e x4 ⟨va, vt, rfl, hic, hsc, hbn⟩)
      obtain ⟨p1, r1, ea⟩ : ∃ q k, va = .slice q 1 k := hic.firsts
      obtain ⟨p2, r2, eb⟩ : ∃ q k, vt = .slice q 1 k := hsc.form
      subst ea eb
      clear hrw
      have hgl0 := (Array.getElem?_eq_some_iff.1 hrd).1
      have HIC := Lib.hid (hic.ne (g := W0.heap.size) (fun b hb _ => by omega))
      have HSC := Lib.hid (hsc.ne (g := W0.heap.size) (fun b hb _ => by omega))
      clear hgl0
      clear hic hsc
      replace hrd := row_on hrd hbn
      have hx4 := hx3.trans (hbn.mono hx3.size)
      clear hbn
      refine ⟨hx4, ?_⟩
      refine chainP_softv (.tuple #[.agg #[.bool true, .slice p1 1 r1, .slice p2 1 r2, .int .i64 0, .int .i64 0, .string ⟨#[]⟩, .slice none 0 0], .int .i64 0]) (by kernel_rfl) (by kernel_rfl) ?_ ?_
      · simp only [Act.put, List.getElem?_toArray, List.getElem?_cons_succ, List.getElem?_cons_zero, Option.bind_some, List.setIfInBounds_toArray, List.set_cons_succ, List.set_cons_zero, Nat.reduceAdd]
        intro u hu E hE
        go_wp2
        exact hE
      simp only [Act.put, List.getElem?_toArray, List.getElem?_cons_succ, List.getElem?_cons_zero, Option.bind_some, List.setIfInBounds_toArray, List.set_cons_succ, List.set_cons_zero, Nat.reduceAdd]
      refine chainP_softv (.agg #[.bool true, .slice p1 1 r1, .slice p2 1 r2, .int .i64 0, .int .i64 0, .string ⟨#[]⟩, .slice none 0 0]) (by kernel_rfl) (by kernel_rfl) ?_ ?_
      · simp only [Act.put, List.getElem?_toArray, List.getElem?_cons_succ, List.getElem?_cons_zero, Option.bind_some, List.setIfInBounds_toArray, List.set_cons_succ, List.set_cons_zero, Nat.reduceAdd]
        intro u hu E hE
        go_wp2
        exact hE
      simp only [Act.put, List.getElem?_toArray, List.getElem?_cons_succ, List.getElem?_cons_zero, Option.bind_some, List.setIfInBounds_toArray, List.set_cons_succ, List.set_cons_zero, Nat.reduceAdd]
      refine chainP_softv (.int .i64 0) (by kernel_rfl) (by kernel_rfl) ?_ ?_
      · simp only [Act.put, List.getElem?_toArray, List.getElem?_cons_succ, List.getElem?_cons_zero, Option.bind_some, List.setIfInBounds_toArray, List.set_cons_succ, List.set_cons_zero, Nat.reduceAdd]
        intro u hu E hE
        go_wp2
        exact hE
      simp only [Act.put, List.getElem?_toArray, List.getElem?_cons_succ, List.getElem?_cons_zero, Option.bind_some, List.setIfInBounds_toArray, List.set_cons_succ, List.set_cons_zero, Nat.reduceAdd]
      refine chainP_one ?_
      intro E hE
      have HDR := Lib.hid (did_row (f := 1) (ts := [Lt]) rfl hrd HIC.out HSC.out)
      go_wp2_with (refine wpList_store_row rfl 71 (.tmp 4) (.tmp 26) rfl (W0.heap.size) #[.bool true, .slice p1 1 r1, .slice p2 1 r2, .int .i64 0, .int .i64 0, .string ⟨#[]⟩, .slice none 0 0] rfl rfl _ _ hrd size_did rfl (one7 _ _ _ _ _ _ _) ?_)
      have hfin := below_row (cs := #[.bool true, .slice p1 1 r1, .slice p2 1 r2, .int .i64 0, .int .i64 0, .string ⟨#[]⟩, .slice none 0 0]) hx4 hgl
      refine ⟨hfin, ?_⟩
      refine chainP_softv (.int .i64 0) (by kernel_rfl) (by kernel_rfl) ?_ ?_
      · simp only [Act.put, List.getElem?_toArray, List.getElem?_cons_succ, List.getElem?_cons_zero, Option.bind_some, List.setIfInBounds_toArray, List.set_cons_succ, List.set_cons_zero, Nat.reduceAdd]
        intro u hu E hE
        go_wp2
        exact hE
      simp only [Act.put, List.getElem?_toArray, List.getElem?_cons_succ, List.getElem?_cons_zero, Option.bind_some, List.setIfInBounds_toArray, List.set_cons_succ, List.set_cons_zero, Nat.reduceAdd]
      have HFIN := Lib.hid hfin
      clear hrd HIC HSC hfin
      refine chainP_nil (rest_end (by decide) ?_)
      go_wp2
      go_meet
      exact ⟨_, rfl, rfl, ⟨(setRow_other _ _ _ _ (by have := hgl; omega)).trans (row_on HR8.out hx4), (HX8.out.below hx4).imp (fun _ h => h) (fun b hb _ => setRow_other _ _ _ _ (by have hb' : b < p3 := hb; have := hgl; omega)), HDR.out, HB8.out.trans (HFIN.out.mono HB8.out.size), hz3, by have := hgl; omega⟩⟩
  case rest =>
  obtain ⟨p4, rfl, rfl, hbk⟩ := hcut
  obtain ⟨dq, dk, dt, dl, dr0, di, ds⟩ := hbk.did
  have dr : wc.heap[p4]? = some (.cells #[.bool true, .slice dq 1 dk, .slice dt 1 dl, .int .i64 0, .int .i64 0, .string ⟨#[]⟩, .slice none 0 0] 71 (0, 0)) := dr0
  obtain ⟨db, doo, ea, -⟩ := ds.at 0 (by simp)
  subst ea
  obtain ⟨dta, dtc, dx0, dx1, dx2, dx3, dit, dlt⟩ := (ds.atb 0 (by simp)).read
  simp only [List.getElem_cons_zero, Nat.zero_mul, Nat.add_zero] at dx0 dx1 dx2 dx3 dit
  obtain ⟨d0, d1, d2, d3, d4, d5, d6⟩ := row7 dr
  obtain ⟨dab, dao, ea, dal, da0⟩ := int0 di (by simp)
  subst ea
  have HBK := Lib.hid hbk
  clear hbk di ds dr dr0 dit
  go_upto_region 11 with fail
  clear dx0 dx1 dx2 dx3 d0 d1 d2 d3 d4 d5 d6 da0 dlt dal
  go_cut [5] from 48 to 57 (fun v5 wx => v5 = .int .i64 0 ∧ Bk T tb tk p3 p4 0 [T] w wx)
  case first =>
    have hbk := HBK.out
    clear HBK
    refine wp_region_rest (by kernel_rfl) ?_
    have hd := (Below.refl wc.heap.size wc).drew
    replace hbk := hbk.below hd
    clear hd
    generalize wc.drew = W0 at *
    obtain ⟨dq, dk, dt, dl, dr0, di, ds⟩ := hbk.did
    have dr : W0.heap[p4]? = some (.cells #[.bool true, .slice dq 1 dk, .slice dt 1 dl, .int .i64 0, .int .i64 0, .string ⟨#[]⟩, .slice none 0 0] 71 (0, 0)) := dr0
    obtain ⟨db, doo, ea, -⟩ := ds.at 0 (by simp)
    subst ea
    obtain ⟨dta, dtc, dx0, dx1, dx2, dx3, dit, dlt⟩ := (ds.atb 0 (by simp)).read
    simp only [List.getElem_cons_zero, Nat.zero_mul, Nat.add_zero] at dx0 dx1 dx2 dx3 dit
    obtain ⟨d0, d1, d2, d3, d4, d5, d6⟩ := row7 dr
    have HBK := Lib.hid hbk
    have HDT := Lib.hid dit
    have HDR := Lib.hid dr
    have dlr := (Array.getElem?_eq_some_iff.1 dr).1
    clear hbk di ds dr dr0 dit d0 d1 d3 d4 d5 d6
    refine rest_chainP (fun u => Below W0.heap.size W0 u) 0 5 (.soft 1 (.soft 2 (.soft 3 (.soft 4 (.one 0 .nil))))) (.soft _ (.soft _ (.soft _ (.soft _ (.one _ .nil))))) ⟨rfl, ⟨rfl, ⟨rfl, ⟨rfl, ⟨rfl, trivial⟩⟩⟩⟩⟩ (by kernel_rfl) (by kernel_rfl) (by kernel_rfl) (by kernel_rfl) (.inr (by kernel_rfl)) (Below.refl _ _) ?_
    have hb0 := Below.refl W0.heap.size W0
    refine chainP_soft (a1 := ?ma2) (by kernel_rfl) (by kernel_rfl) ?mh2 ?mr2
    case mh2 =>
      intro u hu E hE
      go_wp2
      rfl
    refine chainP_soft (a1 := ?ma3) (by kernel_rfl) (by kernel_rfl) ?mh3 ?mr3
    case mh3 =>
      intro u hu E hE
      have c0 := (hu.cell (p := ⟨p4, 2, none⟩) dlr).trans d2
      go_wp2
      rfl
    refine chainP_soft (a1 := ?ma4) (by kernel_rfl) (by kernel_rfl) ?mh4 ?mr4
    case mh4 =>
      intro u hu E hE
      go_wp2
      rfl
    refine chainP_soft (a1 := ?ma5) (by kernel_rfl) (by kernel_rfl) ?mh5 ?mr5
    case mh5 =>
      intro u hu E hE
      have c0 := (hu.cell (p := ⟨db, doo, none⟩) dlt).trans dx0
      have c1 := (hu.cell (p := ⟨db, doo + 1, none⟩) dlt).trans dx1
      have c2 := (hu.cell (p := ⟨db, doo + 2, none⟩) dlt).trans dx2
      have c3 := (hu.cell (p := ⟨db, doo + 3, none⟩) dlt).trans dx3
      go_wp2
      rfl
    refine chainP_one ?_
    intro E hE
    go_wp2_with (refine (l17_v _ _).mono ?_; rintro e x1 ⟨rfl, hbn⟩)
    have hx1 := hb0.trans (hbn.mono hb0.size)
    clear hbn
    refine ⟨hx1, ?_⟩
    clear d2 dx0 dx1 dx2 dx3
    refine chainP_nil ?_
    refine rest_lineL 5 7 [_, _] rfl (by kernel_rfl) (by decide) (by decide) (by kernel_rfl) ?_
    go_wp2_with fail
    have hal := (Below.refl x1.heap.size x1).alloc (Nat.le_refl _) (.cells #[.int .i64 1, .int .i64 0, .string ⟨#[]⟩, .slice none 0 0, .int .i64 Lt.k, .int .i64 Lt.n, .string Lt.s, .slice dta Lt.args.length dtc] 49 (0, 0))
    have hrw : IsSl (x1.alloc (.cells #[.int .i64 1, .int .i64 0, .string ⟨#[]⟩, .slice none 0 0, .int .i64 Lt.k, .int .i64 Lt.n, .string Lt.s, .slice dta Lt.args.length dtc] 49 (0, 0))) AnyB (.slice (some ⟨x1.heap.size, 0, none⟩) 2 2) [varT 0, Lt] := row2 (x := varT 0) (a := none) (c := 0) (var_is _ _ _) (HDT.out.below hx1).any
    refine (sh_Do_univ [varT 0, Lt] (varT 0) Lt 0 [T] AnyB _ _ _ hrw rfl (by intro t ht; simp only [List.mem_cons, List.not_mem_nil, or_false] at ht; rcases ht with rfl | rfl; (· exact ⟨by simp [varT, Tm.size, sizeL], ex17_cv 0 (by decide)⟩); (· exact ⟨by have := HSZ.out.2.1; omega, HCC.out.2.1⟩)) rfl HUV.out.2).mono ?_
    rintro e x9 ⟨va, vt, rfl, hic, hsc, hb9⟩
    obtain ⟨p1, r1, ea⟩ : ∃ q k, va = .slice q 1 k := hic.firsts
    obtain ⟨p2, r2, eb⟩ : ∃ q k, vt = .slice q 1 k := hsc.form
    subst ea eb
    have hx9 := hx1.trans ((hal.trans (hb9.mono hal.size)).mono hx1.size)
    have hlx := Nat.le_trans hx1.size hal.size
    have hrd := row_on HDR.out hx9
    have HIC := Lib.hid (hic.ne (g := p4) (fun b hb _ => by omega))
    have HSC := Lib.hid (hsc.ne (g := p4) (fun b hb _ => by omega))
    have hb9k := HBK.out.below hx9
    have HB9K := Lib.hid hb9k
    clear hic hsc hb9 hal hrw hx9 hlx hb9k HDR
    go_wp2
    refine then_rest ?_
    refine rest_chainP (fun _ => True) 7 11 (.soft 7 (.soft 8 (.soft 9 (.one 10 .nil)))) (.soft _ (.soft _ (.soft _ (.one _ .nil)))) ⟨rfl, ⟨rfl, ⟨rfl, ⟨rfl, trivial⟩⟩⟩⟩ (by kernel_rfl) (by kernel_rfl) (by kernel_rfl) (by kernel_rfl) (.inr (by kernel_rfl)) trivial ?_
    refine chainP_softv (.tuple #[.agg #[.bool true, .slice p1 1 r1, .slice p2 1 r2, .int .i64 0, .int .i64 0, .string ⟨#[]⟩, .slice none 0 0], .int .i64 0]) (by kernel_rfl) (by kernel_rfl) ?_ ?_
    · simp only [Act.put, List.getElem?_toArray, List.getElem?_cons_succ, List.getElem?_cons_zero, Option.bind_some, List.setIfInBounds_toArray, List.set_cons_succ, List.set_cons_zero, Nat.reduceAdd]
      intro u hu E hE
      go_wp2
      exact hE
    simp only [Act.put, List.getElem?_toArray, List.getElem?_cons_succ, List.getElem?_cons_zero, Option.bind_some, List.setIfInBounds_toArray, List.set_cons_succ, List.set_cons_zero, Nat.reduceAdd]
    refine chainP_softv (.agg #[.bool true, .slice p1 1 r1, .slice p2 1 r2, .int .i64 0, .int .i64 0, .string ⟨#[]⟩, .slice none 0 0]) (by kernel_rfl) (by kernel_rfl) ?_ ?_
    · simp only [Act.put, List.getElem?_toArray, List.getElem?_cons_succ, List.getElem?_cons_zero, Option.bind_some, List.setIfInBounds_toArray, List.set_cons_succ, List.set_cons_zero, Nat.reduceAdd]
      intro u hu E hE
      go_wp2
      exact hE
    simp only [Act.put, List.getElem?_toArray, List.getElem?_cons_succ, List.getElem?_cons_zero, Option.bind_some, List.setIfInBounds_toArray, List.set_cons_succ, List.set_cons_zero, Nat.reduceAdd]
    refine chainP_softv (.int .i64 0) (by kernel_rfl) (by kernel_rfl) ?_ ?_
    · simp only [Act.put, List.getElem?_toArray, List.getElem?_cons_succ, List.getElem?_cons_zero, Option.bind_some, List.setIfInBounds_toArray, List.set_cons_succ, List.set_cons_zero, Nat.reduceAdd]
      intro u hu E hE
      go_wp2
      exact hE
    simp only [Act.put, List.getElem?_toArray, List.getElem?_cons_succ, List.getElem?_cons_zero, Option.bind_some, List.setIfInBounds_toArray, List.set_cons_succ, List.set_cons_zero, Nat.reduceAdd]
    refine chainP_one ?_
    intro E hE
    have HDR := Lib.hid (did_row (f := 0) (ts := [T]) rfl hrd HIC.out HSC.out)
    go_wp2_with (refine wpList_store_row rfl 71 (.tmp 4) (.tmp 56) rfl p4 #[.bool true, .slice p1 1 r1, .slice p2 1 r2, .int .i64 0, .int .i64 0, .string ⟨#[]⟩, .slice none 0 0] rfl rfl _ _ hrd size_did rfl (one7 _ _ _ _ _ _ _) ?_)
    refine chainP_nil ?_
    refine rest_lineL 11 12 [_] rfl (by kernel_rfl) (by decide) (by decide) (by kernel_rfl) ?_
    go_wp2
    refine then_rest (rest_end (by decide) ?_)
    go_wp2
    go_meet
    exact ⟨rfl, HB9K.out.store HDR.out⟩
  case rest =>
  obtain ⟨rfl, hbk⟩ := hcut
  go_upto_region 12 with fail
  refine wp_region_rest (by kernel_rfl) ?_
  have hd := (Below.refl wc.heap.size wc).drew
  replace hbk := hbk.below hd
  clear hd
  generalize wc.drew = W0 at *
  obtain ⟨dq, dk, dt, dl, dr0, di, ds⟩ := hbk.did
  have dr : W0.heap[p4]? = some (.cells #[.bool true, .slice dq 1 dk, .slice dt 1 dl, .int .i64 0, .int .i64 0, .string ⟨#[]⟩, .slice none 0 0] 71 (0, 0)) := dr0
  obtain ⟨db, doo, ea, -⟩ := ds.at 0 (by simp)
  subst ea
  obtain ⟨dta, dtc, dx0, dx1, dx2, dx3, dit, dlt⟩ := (ds.atb 0 (by simp)).read
  simp only [List.getElem_cons_zero, Nat.zero_mul, Nat.add_zero] at dx0 dx1 dx2 dx3 dit
  obtain ⟨d0, d1, d2, d3, d4, d5, d6⟩ := row7 dr
  obtain ⟨dab, dao, ea, dal, da0⟩ := int0 di (by simp)
  subst ea
  obtain ⟨y0, y1, y2, y3⟩ := row4 hbk.row
  have HBK := Lib.hid hbk
  have HDT := Lib.hid dit
  have HSM := Lib.hid hbk.tm
  clear hbk di ds dr dr0 dit
  refine rest_lineL 0 20 [_, _, _, _, _, _, _, _, _, _, _, _, _, _, _, _, _, _, _, _] rfl (by kernel_rfl) (by decide) (by decide) (by kernel_rfl) ?_
  go_wp2
  refine then_rest ?_
  refine rest_chainP (fun u => u = W0) 20 26 (.soft 20 (.soft 21 (.soft 22 (.soft 23 (.soft 24 (.soft 25 .nil)))))) (.soft _ (.soft _ (.soft _ (.soft _ (.soft _ (.soft _ .nil)))))) ⟨rfl, ⟨rfl, ⟨rfl, ⟨rfl, ⟨rfl, ⟨rfl, trivial⟩⟩⟩⟩⟩⟩ (by kernel_rfl) (by kernel_rfl) (by kernel_rfl) (by kernel_rfl) (.inr (by kernel_rfl)) rfl ?_
  refine chainP_soft (a1 := ?ma6) (by kernel_rfl) (by kernel_rfl) ?mh6 ?mr6
  case mh6 =>
    intro u hu E hE
    subst hu
    go_wp2
    rfl
  refine chainP_soft (a1 := ?ma7) (by kernel_rfl) (by kernel_rfl) ?mh7 ?mr7
  case mh7 =>
    intro u hu E hE
    subst hu
    go_wp2
    rfl
  refine chainP_soft (a1 := ?ma8) (by kernel_rfl) (by kernel_rfl) ?mh8 ?mr8
  case mh8 =>
    intro u hu E hE
    subst hu
    go_wp2
    rfl
  refine chainP_soft (a1 := ?ma9) (by kernel_rfl) (by kernel_rfl) ?mh9 ?mr9
  case mh9 =>
    intro u hu E hE
    subst hu
    go_wp2
    rfl
  refine chainP_soft (a1 := ?ma10) (by kernel_rfl) (by kernel_rfl) ?mh10 ?mr10
  case mh10 =>
    intro u hu E hE
    subst hu
    go_wp2
    rfl
  refine chainP_soft (a1 := ?ma11) (by kernel_rfl) (by kernel_rfl) ?mh11 ?mr11
  case mh11 =>
    intro u hu E hE
    subst hu
    go_wp2
    rfl
  refine chainP_nil ?_
  refine rest_lineL 26 29 [_, _, _] rfl (by kernel_rfl) (by decide) (by decide) (by kernel_rfl) ?_
  go_wp2_with fail
  refine (ref_same 1000 T T _ _ _ _ _ HSZ.out.1 (by have := HSZ.out.1; omega) HDT.out HSM.out).mono ?_
  rintro e w9 ⟨rfl, hb9⟩
  rw [HSS.out]
  have hbk := HBK.out.below hb9
  clear hb9 HBK HDT HSM dx0 dx1 dx2 dx3 d0 d1 d2 d3 d4 d5 d6 da0 y0 y1 y2 y3
  go_wp2
  refine then_rest (rest_end (by decide) ?_)
  go_upto_region 14 with fail
  have HBK := Lib.hid hbk
  clear hbk
  go_cut [5] from 87 to 94 (fun v5 wx => v5 = .int .i64 0 ∧ Bk T tb tk p3 p4 1 [F, intT m] w wx)
  case first =>
    have hbk := HBK.out
    clear HBK
    refine wp_region_rest (by kernel_rfl) ?_
    have hd := (Below.refl w9.heap.size w9).drew
    replace hbk := hbk.below hd
    clear hd
    generalize w9.drew = W0 at *
    obtain ⟨y0, y1, y2, y3⟩ := row4 hbk.row
    have dlr := (Array.getElem?_eq_some_iff.1 hbk.row).1
    have HBK := Lib.hid hbk
    obtain ⟨_, _, _, _, hdr, -, -⟩ := hbk.did
    have HDR := Lib.hid hdr
    clear hbk hdr
    refine rest_chainP (fun u => Below W0.heap.size W0 u) 0 3 (.soft 0 (.one 1 (.one 2 .nil))) (.soft _ (.one _ (.one _ .nil))) ⟨rfl, ⟨rfl, ⟨rfl, trivial⟩⟩⟩ (by kernel_rfl) (by kernel_rfl) (by kernel_rfl) (by kernel_rfl) (.inr (by kernel_rfl)) (Below.refl _ _) ?_
    have hb0 := Below.refl W0.heap.size W0
    refine chainP_soft (a1 := ?ma12) (by kernel_rfl) (by kernel_rfl) ?mh12 ?mr12
    case mh12 =>
      intro u hu E hE
      have c0 := (hu.cell (p := ⟨p3, 0, none⟩) dlr).trans y0
      have c1 := (hu.cell (p := ⟨p3, 1, none⟩) dlr).trans y1
      have c2 := (hu.cell (p := ⟨p3, 2, none⟩) dlr).trans y2
      have c3 := (hu.cell (p := ⟨p3, 3, none⟩) dlr).trans y3
      go_wp2
      rfl
    refine chainP_one ?_
    intro E hE
    go_wp2_with (refine (l17_v _ _).mono ?_; rintro e x1 ⟨rfl, hbn⟩)
    have hx1 := hb0.trans (hbn.mono hb0.size)
    clear hbn
    refine ⟨hx1, ?_⟩
    refine chainP_one ?_
    intro E hE
    go_wp2_with (refine (l17_v _ _).mono ?_; rintro e x2 ⟨rfl, hbn⟩)
    have hx2 := hx1.trans (hbn.mono hx1.size)
    clear hbn
    refine ⟨hx2, ?_⟩
    clear y0 y1 y2 y3 dlr
    refine chainP_nil ?_
    refine rest_lineL 3 5 [_, _] rfl (by kernel_rfl) (by decide) (by decide) (by kernel_rfl) ?_
    go_wp2_with fail
    have hal := (Below.refl x2.heap.size x2).alloc (Nat.le_refl _) (.cells #[.int .i64 T.k, .int .i64 T.n, .string T.s, .slice tb T.args.length tk, .int .i64 1, .int .i64 0, .string ⟨#[]⟩, .slice none 0 0, .int .i64 1, .int .i64 1, .string ⟨#[]⟩, .slice none 0 0] 49 (0, 0))
    have hrw : IsSl (x2.alloc (.cells #[.int .i64 T.k, .int .i64 T.n, .string T.s, .slice tb T.args.length tk, .int .i64 1, .int .i64 0, .string ⟨#[]⟩, .slice none 0 0, .int .i64 1, .int .i64 1, .string ⟨#[]⟩, .slice none 0 0] 49 (0, 0))) AnyB (.slice (some ⟨x2.heap.size, 0, none⟩) 3 3) [T, varT 0, varT 1] := row3 (y := varT 0) (z := varT 1) (a' := none) (a'' := none) (c' := 0) (c'' := 0) (HBK.out.tm.below hx2).any (var_is _ _ _) (var_is _ _ _)
    refine (sh_Do_functor [T, varT 0, varT 1] T (varT 0) (varT 1) 1 [F, intT m] AnyB _ _ _ hrw rfl (by intro t ht; simp only [List.mem_cons, List.not_mem_nil, or_false] at ht; rcases ht with rfl | rfl | rfl; (· exact ⟨by have := HSZ.out.1; omega, HCC.out.1⟩); (· exact ⟨by simp [varT, Tm.size, sizeL], ex17_cv 0 (by decide)⟩); (· exact ⟨by simp [varT, Tm.size, sizeL], ex17_cv 1 (by decide)⟩)) rfl HFN.out.1).mono ?_
    rintro e x9 ⟨va, vt, rfl, hic, hsc, hb9⟩
    obtain ⟨p1, r1, ea⟩ : ∃ q k, va = .slice q 2 k := hic.firsts
    obtain ⟨p2, r2, eb⟩ : ∃ q k, vt = .slice q 2 k := hsc.form
    subst ea eb
    have hx9 := hx2.trans ((hal.trans (hb9.mono hal.size)).mono hx2.size)
    have hlx := Nat.le_trans hx2.size hal.size
    have hrd := row_on HDR.out hx9
    have hpl := (Array.getElem?_eq_some_iff.1 HDR.out).1
    have HIC := Lib.hid (hic.ne (g := p4) (fun b hb _ => by omega))
    have HSC := Lib.hid (hsc.ne (g := p4) (fun b hb _ => by omega))
    have hb9k := HBK.out.below hx9
    have HB9K := Lib.hid hb9k
    clear hic hsc hb9 hal hrw hx9 hlx hb9k hpl HDR
    go_wp2
    refine then_rest ?_
    refine rest_chainP (fun _ => True) 5 9 (.soft 5 (.soft 6 (.soft 7 (.one 8 .nil)))) (.soft _ (.soft _ (.soft _ (.one _ .nil)))) ⟨rfl, ⟨rfl, ⟨rfl, ⟨rfl, trivial⟩⟩⟩⟩ (by kernel_rfl) (by kernel_rfl) (by kernel_rfl) (by kernel_rfl) (.inr (by kernel_rfl)) trivial ?_
    refine chainP_softv (.tuple #[.agg #[.bool true, .slice p1 2 r1, .slice p2 2 r2, .int .i64 0, .int .i64 0, .string ⟨#[]⟩, .slice none 0 0], .int .i64 0]) (by kernel_rfl) (by kernel_rfl) ?_ ?_
    · simp only [Act.put, List.getElem?_toArray, List.getElem?_cons_succ, List.getElem?_cons_zero, Option.bind_some, List.setIfInBounds_toArray, List.set_cons_succ, List.set_cons_zero, Nat.reduceAdd]
      intro u hu E hE
      go_wp2
      exact hE
    simp only [Act.put, List.getElem?_toArray, List.getElem?_cons_succ, List.getElem?_cons_zero, Option.bind_some, List.setIfInBounds_toArray, List.set_cons_succ, List.set_cons_zero, Nat.reduceAdd]
    refine chainP_softv (.agg #[.bool true, .slice p1 2 r1, .slice p2 2 r2, .int .i64 0, .int .i64 0, .string ⟨#[]⟩, .slice none 0 0]) (by kernel_rfl) (by kernel_rfl) ?_ ?_
    · simp only [Act.put, List.getElem?_toArray, List.getElem?_cons_succ, List.getElem?_cons_zero, Option.bind_some, List.setIfInBounds_toArray, List.set_cons_succ, List.set_cons_zero, Nat.reduceAdd]
      intro u hu E hE
      go_wp2
      exact hE
    simp only [Act.put, List.getElem?_toArray, List.getElem?_cons_succ, List.getElem?_cons_zero, Option.bind_some, List.setIfInBounds_toArray, List.set_cons_succ, List.set_cons_zero, Nat.reduceAdd]
    refine chainP_softv (.int .i64 0) (by kernel_rfl) (by kernel_rfl) ?_ ?_
    · simp only [Act.put, List.getElem?_toArray, List.getElem?_cons_succ, List.getElem?_cons_zero, Option.bind_some, List.setIfInBounds_toArray, List.set_cons_succ, List.set_cons_zero, Nat.reduceAdd]
      intro u hu E hE
      go_wp2
      exact hE
    simp only [Act.put, List.getElem?_toArray, List.getElem?_cons_succ, List.getElem?_cons_zero, Option.bind_some, List.setIfInBounds_toArray, List.set_cons_succ, List.set_cons_zero, Nat.reduceAdd]
    refine chainP_one ?_
    intro E hE
    have HDR := Lib.hid (did_row (f := 1) (ts := [F, intT m]) rfl hrd HIC.out HSC.out)
    go_wp2_with (refine wpList_store_row rfl 71 (.tmp 4) (.tmp 93) rfl p4 #[.bool true, .slice p1 2 r1, .slice p2 2 r2, .int .i64 0, .int .i64 0, .string ⟨#[]⟩, .slice none 0 0] rfl rfl _ _ hrd size_did rfl (one7 _ _ _ _ _ _ _) ?_)
    refine chainP_nil ?_
    refine rest_lineL 9 10 [_] rfl (by kernel_rfl) (by decide) (by decide) (by kernel_rfl) ?_
    go_wp2
    refine then_rest (rest_end (by decide) ?_)
    go_wp2
    go_meet
    exact ⟨rfl, HB9K.out.store HDR.out⟩
  case rest =>
  obtain ⟨rfl, hbk⟩ := hcut
  have bm1 : ((m : Int) != (T.args.length : Int)) = false := by rw [HM0.out]; simp
  have bm2 : (m != T.args.length) = false := by rw [HM0.out]; simp
  go_upto_region 15 with fail
  refine wp_region_rest (by kernel_rfl) ?_
  have hd := (Below.refl wc.heap.size wc).drew
  replace hbk := hbk.below hd
  clear hd
  generalize wc.drew = W0 at *
  obtain ⟨dq, dk, dt, dl, dr0, di, ds⟩ := hbk.did
  have dr : W0.heap[p4]? = some (.cells #[.bool true, .slice dq 2 dk, .slice dt 2 dl, .int .i64 0, .int .i64 0, .string ⟨#[]⟩, .slice none 0 0] 71 (0, 0)) := dr0
  obtain ⟨db, doo, ea, -⟩ := ds.at 0 (by simp)
  subst ea
  obtain ⟨dta, dtc, dx0, dx1, dx2, dx3, dit, dlt⟩ := (ds.atb 0 (by simp)).read
  simp only [List.getElem_cons_zero, Nat.zero_mul, Nat.add_zero] at dx0 dx1 dx2 dx3 dit
  obtain ⟨d0, d1, d2, d3, d4, d5, d6⟩ := row7 dr
  obtain ⟨dea, dec, de0, de1, de2, de3, -, -⟩ := (ds.atb 1 (by simp)).read
  simp only [List.getElem_cons_zero, List.getElem_cons_succ, Nat.one_mul] at de0 de1 de2 de3
  replace de0 : W0.cell? ⟨db, doo + 4, none⟩ = some (.int .i64 2) := de0
  replace de1 : W0.cell? ⟨db, doo + 4 + 1, none⟩ = some (.int .i64 m) := de1
  replace de2 : W0.cell? ⟨db, doo + 4 + 2, none⟩ = some (.string ⟨#[]⟩) := de2
  replace de3 : W0.cell? ⟨db, doo + 4 + 3, none⟩ = some (.slice dea 0 dec) := de3
  obtain ⟨y0, y1, y2, y3⟩ := row4 hbk.row
  have HBK := Lib.hid hbk
  clear hbk di ds dr dr0 dit
  refine rest_lineL 0 8 [_, _, _, _, _, _, _, _] rfl (by kernel_rfl) (by decide) (by decide) (by kernel_rfl) ?_
  go_wp2
  refine then_rest ?_
  refine rest_chainP (fun u => u = W0) 8 17 (.soft 8 (.soft 9 (.soft 10 (.soft 11 (.soft 12 (.soft 13 (.soft 14 (.soft 15 (.soft 16 .nil))))))))) (.soft _ (.soft _ (.soft _ (.soft _ (.soft _ (.soft _ (.soft _ (.soft _ (.soft _ .nil))))))))) ⟨rfl, ⟨rfl, ⟨rfl, ⟨rfl, ⟨rfl, ⟨rfl, ⟨rfl, ⟨rfl, ⟨rfl, trivial⟩⟩⟩⟩⟩⟩⟩⟩⟩ (by kernel_rfl) (by kernel_rfl) (by kernel_rfl) (by kernel_rfl) (.inr (by kernel_rfl)) rfl ?_
  refine chainP_soft (a1 := ?ma13) (by kernel_rfl) (by kernel_rfl) ?mh13 ?mr13
  case mh13 =>
    intro u hu E hE
    subst hu
    go_wp2
    rfl
  refine chainP_soft (a1 := ?ma14) (by kernel_rfl) (by kernel_rfl) ?mh14 ?mr14
  case mh14 =>
    intro u hu E hE
    subst hu
    go_wp2
    rfl
  refine chainP_soft (a1 := ?ma15) (by kernel_rfl) (by kernel_rfl) ?mh15 ?mr15
  case mh15 =>
    intro u hu E hE
    subst hu
    go_wp2
    rfl
  refine chainP_soft (a1 := ?ma16) (by kernel_rfl) (by kernel_rfl) ?mh16 ?mr16
  case mh16 =>
    intro u hu E hE
    subst hu
    go_wp2
    rfl
  refine chainP_soft (a1 := ?ma17) (by kernel_rfl) (by kernel_rfl) ?mh17 ?mr17
  case mh17 =>
    intro u hu E hE
    subst hu
    go_wp2
    rfl
  refine chainP_soft (a1 := ?ma18) (by kernel_rfl) (by kernel_rfl) ?mh18 ?mr18
  case mh18 =>
    intro u hu E hE
    subst hu
    go_wp2
    rfl
  refine chainP_soft (a1 := ?ma19) (by kernel_rfl) (by kernel_rfl) ?mh19 ?mr19
  case mh19 =>
    intro u hu E hE
    subst hu
    go_wp2
    rfl
  refine chainP_soft (a1 := ?ma20) (by kernel_rfl) (by kernel_rfl) ?mh20 ?mr20
  case mh20 =>
    intro u hu E hE
    subst hu
    go_wp2
    rfl
  refine chainP_soft (a1 := ?ma21) (by kernel_rfl) (by kernel_rfl) ?mh21 ?mr21
  case mh21 =>
    intro u hu E hE
    subst hu
    go_wp2
    rfl
  refine chainP_nil ?_
  refine rest_lineL 17 19 [_, _] rfl (by kernel_rfl) (by decide) (by decide) (by kernel_rfl) ?_
  go_wp2
  refine then_rest (rest_end (by decide) ?_)
  clear dx0 dx1 dx2 dx3 d0 d1 d2 d3 d4 d5 d6 de0 de1 de2 de3 y0 y1 y2 y3
  go_upto_region 17 with fail
  go_cut [6, 7] from 114 to 127 (fun v6 v7 wx => ∃ p6, v6 = .pointer (some ⟨p6, 0, none⟩) ∧ v7 = .int .i64 0 ∧ Bk T tb tk p3 p4 1 [F, intT m] w wx ∧ DidRow 0 [M] p6 wx)
  case first =>
    have hbk := HBK.out
    clear HBK
    refine wp_region_rest (by kernel_rfl) ?_
    have hd := (Below.refl W0.heap.size W0).drew
    replace hbk := hbk.below hd
    clear hd dlt
    generalize W0.drew = W1 at *
    obtain ⟨dq, dk, dt, dl, dr0, di, ds⟩ := hbk.did
    have dr : W1.heap[p4]? = some (.cells #[.bool true, .slice dq 2 dk, .slice dt 2 dl, .int .i64 0, .int .i64 0, .string ⟨#[]⟩, .slice none 0 0] 71 (0, 0)) := dr0
    obtain ⟨db, doo, ea, -⟩ := ds.at 0 (by simp)
    subst ea
    obtain ⟨dta, dtc, dx0, dx1, dx2, dx3, dit, dlt⟩ := (ds.atb 0 (by simp)).read
    simp only [List.getElem_cons_zero, Nat.zero_mul, Nat.add_zero] at dx0 dx1 dx2 dx3 dit
    obtain ⟨d0, d1, d2, d3, d4, d5, d6⟩ := row7 dr
    obtain ⟨dea, dec, de0, de1, de2, de3, -, -⟩ := (ds.atb 1 (by simp)).read
    simp only [List.getElem_cons_zero, List.getElem_cons_succ, Nat.one_mul] at de0 de1 de2 de3
    replace de0 : W1.cell? ⟨db, doo + 4, none⟩ = some (.int .i64 2) := de0
    replace de1 : W1.cell? ⟨db, doo + 4 + 1, none⟩ = some (.int .i64 m) := de1
    replace de2 : W1.cell? ⟨db, doo + 4 + 2, none⟩ = some (.string ⟨#[]⟩) := de2
    replace de3 : W1.cell? ⟨db, doo + 4 + 3, none⟩ = some (.slice dea 0 dec) := de3
    have HBK := Lib.hid hbk
    have HDT := Lib.hid dit
    have dlr := (Array.getElem?_eq_some_iff.1 dr).1
    clear hbk di ds dr dr0 dit d0 d1 d3 d4 d5 d6
    refine rest_chainP (fun u => Below W1.heap.size W1 u) 0 17 (.soft 1 (.soft 2 (.soft 3 (.soft 4 (.soft 5 (.soft 6 (.soft 7 (.soft 8 (.two 0 14 (.two 9 14 (.two 10 14 (.soft 11 (.soft 12 (.soft 13 (.one 14 (.one 15 (.soft 16 .nil)))))) (.one 10 (.soft 11 (.soft 12 (.soft 13 (.one 15 (.soft 16 .nil))))))) (.one 9 (.one 10 (.soft 11 (.soft 12 (.soft 13 (.one 15 (.soft 16 .nil)))))))) (.one 0 (.one 9 (.one 10 (.soft 11 (.soft 12 (.soft 13 (.one 15 (.soft 16 .nil))))))))))))))))) (.soft _ (.soft _ (.soft _ (.soft _ (.soft _ (.soft _ (.soft _ (.soft _ (.two _ _ (.two _ _ (.two _ _ (.soft _ (.soft _ (.soft _ (.one _ (.one _ (.soft _ .nil)))))) (.one _ (.soft _ (.soft _ (.soft _ (.one _ (.soft _ .nil))))))) (.one _ (.one _ (.soft _ (.soft _ (.soft _ (.one _ (.soft _ .nil)))))))) (.one _ (.one _ (.one _ (.soft _ (.soft _ (.soft _ (.one _ (.soft _ .nil))))))))))))))))) ⟨rfl, ⟨rfl, ⟨rfl, ⟨rfl, ⟨rfl, ⟨rfl, ⟨rfl, ⟨rfl, ⟨rfl, rfl, ⟨rfl, rfl, ⟨rfl, rfl, ⟨rfl, ⟨rfl, ⟨rfl, ⟨rfl, ⟨rfl, ⟨rfl, trivial⟩⟩⟩⟩⟩⟩, ⟨rfl, ⟨rfl, ⟨rfl, ⟨rfl, ⟨rfl, ⟨rfl, trivial⟩⟩⟩⟩⟩⟩⟩, ⟨rfl, ⟨rfl, ⟨rfl, ⟨rfl, ⟨rfl, ⟨rfl, ⟨rfl, trivial⟩⟩⟩⟩⟩⟩⟩⟩, ⟨rfl, ⟨rfl, ⟨rfl, ⟨rfl, ⟨rfl, ⟨rfl, ⟨rfl, ⟨rfl, trivial⟩⟩⟩⟩⟩⟩⟩⟩⟩⟩⟩⟩⟩⟩⟩⟩⟩ (by kernel_rfl) (by kernel_rfl) (by kernel_rfl) (by kernel_rfl) (.inl rfl) (Below.refl _ _) ?_
    have hb0 := Below.refl W1.heap.size W1
    refine chainP_soft (a1 := ?ma22) (by kernel_rfl) (by kernel_rfl) ?mh22 ?mr22
    case mh22 =>
      intro u hu E hE
      go_wp2
      rfl
    refine chainP_soft (a1 := ?ma23) (by kernel_rfl) (by kernel_rfl) ?mh23 ?mr23
    case mh23 =>
      intro u hu E hE
      have c0 := (hu.cell (p := ⟨p4, 2, none⟩) dlr).trans d2
      go_wp2
      rfl
    refine chainP_soft (a1 := ?ma24) (by kernel_rfl) (by kernel_rfl) ?mh24 ?mr24
    case mh24 =>
      intro u hu E hE
      go_wp2
      rfl
    refine chainP_soft (a1 := ?ma25) (by kernel_rfl) (by kernel_rfl) ?mh25 ?mr25
    case mh25 =>
      intro u hu E hE
      have c0 := (hu.cell (p := ⟨db, doo, none⟩) dlt).trans dx0
      have c1 := (hu.cell (p := ⟨db, doo + 1, none⟩) dlt).trans dx1
      have c2 := (hu.cell (p := ⟨db, doo + 2, none⟩) dlt).trans dx2
      have c3 := (hu.cell (p := ⟨db, doo + 3, none⟩) dlt).trans dx3
      go_wp2
      rfl
    refine chainP_soft (a1 := ?ma26) (by kernel_rfl) (by kernel_rfl) ?mh26 ?mr26
    case mh26 =>
      intro u hu E hE
      go_wp2
      rfl
    refine chainP_soft (a1 := ?ma27) (by kernel_rfl) (by kernel_rfl) ?mh27 ?mr27
    case mh27 =>
      intro u hu E hE
      have c0 := (hu.cell (p := ⟨p4, 2, none⟩) dlr).trans d2
      go_wp2
      rfl
    refine chainP_soft (a1 := ?ma28) (by kernel_rfl) (by kernel_rfl) ?mh28 ?mr28
    case mh28 =>
      intro u hu E hE
      go_wp2
      rfl
    refine chainP_soft (a1 := ?ma29) (by kernel_rfl) (by kernel_rfl) ?mh29 ?mr29
    case mh29 =>
      intro u hu E hE
      have c0 := (hu.cell (p := ⟨db, doo + 4, none⟩) dlt).trans de0
      have c1 := (hu.cell (p := ⟨db, doo + 4 + 1, none⟩) dlt).trans de1
      have c2 := (hu.cell (p := ⟨db, doo + 4 + 2, none⟩) dlt).trans de2
      have c3 := (hu.cell (p := ⟨db, doo + 4 + 3, none⟩) dlt).trans de3
      go_wp2
      rfl
    refine chainP_two ?_ ?_
    · intro E hE
      go_wp2_with (refine (l17_v _ _).mono ?_; rintro e x1 ⟨rfl, hbn⟩)
      have hx1 := hb0.trans (hbn.mono hb0.size)
      clear hbn
      refine ⟨hx1, ?_⟩
      refine chainP_two ?_ ?_
      · intro E hE
        go_wp2
        have hrw : IsSl (x1.alloc (.cells #[.int .i64 1, .int .i64 0, .string ⟨#[]⟩, .slice none 0 0, .int .i64 F.k, .int .i64 F.n, .string F.s, .slice dta F.args.length dtc, .int .i64 2, .int .i64 m, .string ⟨#[]⟩, .slice dea 0 dec] 49 (0, 0))) AnyB (.slice (some ⟨x1.heap.size, 0, none⟩) 3 3) [varT 0, F, intT m] := row3 (x := varT 0) (z := intT m) (a := none) (c := 0) (a'' := dea) (c'' := dec) (var_is _ _ _) (HDT.out.below hx1).any (IsTm.mk' (t := intT m) (IsSl.nil _ _ _ _))
        have hbn := (Below.refl x1.heap.size x1).alloc (Nat.le_refl _) (.cells #[.int .i64 1, .int .i64 0, .string ⟨#[]⟩, .slice none 0 0, .int .i64 F.k, .int .i64 F.n, .string F.s, .slice dta F.args.length dtc, .int .i64 2, .int .i64 m, .string ⟨#[]⟩, .slice dea 0 dec] 49 (0, 0))
        have hx2 := hx1.trans (hbn.mono hx1.size)
        clear hbn
        refine ⟨hx2, ?_⟩
        generalize hGx2 : x1.alloc (.cells #[.int .i64 1, .int .i64 0, .string ⟨#[]⟩, .slice none 0 0, .int .i64 F.k, .int .i64 F.n, .string F.s, .slice dta F.args.length dtc, .int .i64 2, .int .i64 m, .string ⟨#[]⟩, .slice dea 0 dec] 49 (0, 0)) = x2 at *
        clear hGx2
        refine chainP_two ?_ ?_
        · intro E hE
          go_wp2_with (refine (sh_Do_functor [varT 0, F, intT m] (varT 0) F (intT m) 0 [M] AnyB _ _ _ hrw rfl (by intro t ht; simp only [List.mem_cons, List.not_mem_nil, or_false] at ht; rcases ht with rfl | rfl | rfl; (· exact ⟨by simp [varT, Tm.size, sizeL], ex17_cv 0 (by decide)⟩); (· exact ⟨by have := HSZ.out.2.2; omega, HCC.out.2.2⟩); (· exact ⟨by simp [intT, Tm.size, sizeL], HCI.out m (by omega)⟩)) rfl HFN.out.2).mono ?_; rintro e x3 ⟨va, vt, rfl, hic, hsc, hbn⟩)
          obtain ⟨p1, r1, ea⟩ : ∃ q k, va = .slice q 1 k := hic.firsts
          obtain ⟨p2, r2, eb⟩ : ∃ q k, vt = .slice q 1 k := hsc.form
          subst ea eb
          clear hrw
          have HIC := Lib.hid hic.anyB
          have HSC := Lib.hid (hsc.imp (P' := AnyB) (fun _ _ => trivial) (fun _ _ _ => rfl))
          clear hic hsc
          have hx3 := hx2.trans (hbn.mono hx2.size)
          clear hbn
          refine ⟨hx3, ?_⟩
          refine chainP_softv (.tuple #[.agg #[.bool true, .slice p1 1 r1, .slice p2 1 r2, .int .i64 0, .int .i64 0, .string ⟨#[]⟩, .slice none 0 0], .int .i64 0]) (by kernel_rfl) (by kernel_rfl) ?_ ?_
          · simp only [Act.put, List.getElem?_toArray, List.getElem?_cons_succ, List.getElem?_cons_zero, Option.bind_some, List.setIfInBounds_toArray, List.set_cons_succ, List.set_cons_zero, Nat.reduceAdd]
            intro u hu E hE
            go_wp2
            exact hE
          simp only [Act.put, List.getElem?_toArray, List.getElem?_cons_succ, List.getElem?_cons_zero, Option.bind_some, List.setIfInBounds_toArray, List.set_cons_succ, List.set_cons_zero, Nat.reduceAdd]
          refine chainP_softv (.agg #[.bool true, .slice p1 1 r1, .slice p2 1 r2, .int .i64 0, .int .i64 0, .string ⟨#[]⟩, .slice none 0 0]) (by kernel_rfl) (by kernel_rfl) ?_ ?_
          · simp only [Act.put, List.getElem?_toArray, List.getElem?_cons_succ, List.getElem?_cons_zero, Option.bind_some, List.setIfInBounds_toArray, List.set_cons_succ, List.set_cons_zero, Nat.reduceAdd]
            intro u hu E hE
            go_wp2
            exact hE
          simp only [Act.put, List.getElem?_toArray, List.getElem?_cons_succ, List.getElem?_cons_zero, Option.bind_some, List.setIfInBounds_toArray, List.set_cons_succ, List.set_cons_zero, Nat.reduceAdd]
          refine chainP_softv (.int .i64 0) (by kernel_rfl) (by kernel_rfl) ?_ ?_
          · simp only [Act.put, List.getElem?_toArray, List.getElem?_cons_succ, List.getElem?_cons_zero, Option.bind_some, List.setIfInBounds_toArray, List.set_cons_succ, List.set_cons_zero, Nat.reduceAdd]
            intro u hu E hE
            go_wp2
            exact hE
          simp only [Act.put, List.getElem?_toArray, List.getElem?_cons_succ, List.getElem?_cons_zero, Option.bind_some, List.setIfInBounds_toArray, List.set_cons_succ, List.set_cons_zero, Nat.reduceAdd]
          refine chainP_one ?_
          intro E hE
          go_wp2
          have hrd := heap_alloc_new x3 (.cells #[.bool false, .slice none 0 0, .slice none 0 0, .int .i64 0, .int .i64 0, .string ⟨#[]⟩, .slice none 0 0] 71 (0, 0))
          have hbn := (Below.refl x3.heap.size x3).alloc (Nat.le_refl _) (.cells #[.bool false, .slice none 0 0, .slice none 0 0, .int .i64 0, .int .i64 0, .string ⟨#[]⟩, .slice none 0 0] 71 (0, 0))
          have hgl : W1.heap.size ≤ x3.heap.size := hx3.size
          replace HIC := Lib.hid (HIC.out.ne (g := x3.heap.size) (fun b _ hlt => by omega))
          replace HSC := Lib.hid (HSC.out.ne (g := x3.heap.size) (fun b _ hlt => by omega))
          replace HIC := Lib.hid (HIC.out.below hbn)
          replace HSC := Lib.hid (HSC.out.below hbn)
          have hx4 := hx3.trans (hbn.mono hx3.size)
          clear hbn
          refine ⟨hx4, ?_⟩
          generalize hGx4 : x3.alloc (.cells #[.bool false, .slice none 0 0, .slice none 0 0, .int .i64 0, .int .i64 0, .string ⟨#[]⟩, .slice none 0 0] 71 (0, 0)) = x4 at *
          clear hGx4
          refine chainP_one ?_
          intro E hE
          have HDR := Lib.hid (did_row (f := 0) (ts := [M]) rfl hrd HIC.out HSC.out)
          go_wp2_with (refine wpList_store_row rfl 71 (.tmp 6) (.tmp 126) rfl (x3.heap.size) #[.bool true, .slice p1 1 r1, .slice p2 1 r2, .int .i64 0, .int .i64 0, .string ⟨#[]⟩, .slice none 0 0] rfl rfl _ _ hrd size_did rfl (one7 _ _ _ _ _ _ _) ?_)
          have hfin := below_row (cs := #[.bool true, .slice p1 1 r1, .slice p2 1 r2, .int .i64 0, .int .i64 0, .string ⟨#[]⟩, .slice none 0 0]) hx4 hgl
          refine ⟨hfin, ?_⟩
          refine chainP_softv (.int .i64 0) (by kernel_rfl) (by kernel_rfl) ?_ ?_
          · simp only [Act.put, List.getElem?_toArray, List.getElem?_cons_succ, List.getElem?_cons_zero, Option.bind_some, List.setIfInBounds_toArray, List.set_cons_succ, List.set_cons_zero, Nat.reduceAdd]
            intro u hu E hE
            go_wp2
            exact hE
          simp only [Act.put, List.getElem?_toArray, List.getElem?_cons_succ, List.getElem?_cons_zero, Option.bind_some, List.setIfInBounds_toArray, List.set_cons_succ, List.set_cons_zero, Nat.reduceAdd]
          have HFIN := Lib.hid hfin
          clear hrd HIC HSC hfin
          refine chainP_nil (rest_end (by decide) ?_)
          go_wp2
          go_meet
          exact ⟨_, rfl, rfl, HBK.out.below HFIN.out, HDR.out⟩
        · intro E hE
          go_wp2
          have hrd := heap_alloc_new x2 (.cells #[.bool false, .slice none 0 0, .slice none 0 0, .int .i64 0, .int .i64 0, .string ⟨#[]⟩, .slice none 0 0] 71 (0, 0))
          have hbn := (Below.refl x2.heap.size x2).alloc (Nat.le_refl _) (.cells #[.bool false, .slice none 0 0, .slice none 0 0, .int .i64 0, .int .i64 0, .string ⟨#[]⟩, .slice none 0 0] 71 (0, 0))
          have hgl : W1.heap.size ≤ x2.heap.size := hx2.size
          replace hrw := hrw.below hbn
          have hx3 := hx2.trans (hbn.mono hx2.size)
          clear hbn
          refine ⟨hx3, ?_⟩
          generalize hGx3 : x2.alloc (.cells #[.bool false, .slice none 0 0, .slice none 0 0, .int .i64 0, .int .i64 0, .string ⟨#[]⟩, .slice none 0 0] 71 (0, 0)) = x3 at *
          clear hGx3
          refine chainP_one ?_
          intro E hE
          go_wp2_with (refine (sh_Do_functor [varT 0, F, intT m] (varT 0) F (intT m) 0 [M] AnyB _ _ _ hrw rfl (by intro t ht; simp only [List.mem_cons, List.not_mem_nil, or_false] at ht; rcases ht with rfl | rfl | rfl; (· exact ⟨by simp [varT, Tm.size, sizeL], ex17_cv 0 (by decide)⟩); (· exact ⟨by have := HSZ.out.2.2; omega, HCC.out.2.2⟩); (· exact ⟨by simp [intT, Tm.size, sizeL], HCI.out m (by omega)⟩)) rfl HFN.out.2).mono ?_; rintro e x4 ⟨va, vt, rfl, hic, hsc, hbn⟩)
          obtain ⟨p1, r1, ea⟩ : ∃ q k, va = .slice q 1 k := hic.firsts
          obtain ⟨p2, r2, eb⟩ : ∃ q k, vt = .slice q 1 k := hsc.form
          subst ea eb
          clear hrw
          have hgl0 := (Array.getElem?_eq_some_iff.1 hrd).1
          have HIC := Lib.hid (hic.ne (g := x2.heap.size) (fun b hb _ => by omega))
          have HSC := Lib.hid (hsc.ne (g := x2.heap.size) (fun b hb _ => by omega))
          clear hgl0
          clear hic hsc
          replace hrd := row_on hrd hbn
          have hx4 := hx3.trans (hbn.mono hx3.size)
          clear hbn
          refine ⟨hx4, ?_⟩
          refine chainP_softv (.tuple #[.agg #[.bool true, .slice p1 1 r1, .slice p2 1 r2, .int .i64 0, .int .i64 0, .string ⟨#[]⟩, .slice none 0 0], .int .i64 0]) (by kernel_rfl) (by kernel_rfl) ?_ ?_
          · simp only [Act.put, List.getElem?_toArray, List.getElem?_cons_succ, List.getElem?_cons_zero, Option.bind_some, List.setIfInBounds_toArray, List.set_cons_succ, List.set_cons_zero, Nat.reduceAdd]
            intro u hu E hE
            go_wp2
            exact hE
          simp only [Act.put, List.getElem?_toArray, List.getElem?_cons_succ, List.getElem?_cons_zero, Option.bind_some, List.setIfInBounds_toArray, List.set_cons_succ, List.set_cons_zero, Nat.reduceAdd]
          refine chainP_softv (.agg #[.bool true, .slice p1 1 r1, .slice p2 1 r2, .int .i64 0, .int .i64 0, .string ⟨#[]⟩, .slice none 0 0]) (by kernel_rfl) (by kernel_rfl) ?_ ?_
          · simp only [Act.put, List.getElem?_toArray, List.getElem?_cons_succ, List.getElem?_cons_zero, Option.bind_some, List.setIfInBounds_toArray, List.set_cons_succ, List.set_cons_zero, Nat.reduceAdd]
            intro u hu E hE
            go_wp2
            exact hE
          simp only [Act.put, List.getElem?_toArray, List.getElem?_cons_succ, List.getElem?_cons_zero, Option.bind_some, List.setIfInBounds_toArray, List.set_cons_succ, List.set_cons_zero, Nat.reduceAdd]
          refine chainP_softv (.int .i64 0) (by kernel_rfl) (by kernel_rfl) ?_ ?_
          · simp only [Act.put, List.getElem?_toArray, List.getElem?_cons_succ, List.getElem?_cons_zero, Option.bind_some, List.setIfInBounds_toArray, List.set_cons_succ, List.set_cons_zero, Nat.reduceAdd]
            intro u hu E hE
            go_wp2
            exact hE
          simp only [Act.put, List.getElem?_toArray, List.getElem?_cons_succ, List.getElem?_cons_zero, Option.bind_some, List.setIfInBounds_toArray, List.set_cons_succ, List.set_cons_zero, Nat.reduceAdd]
          refine chainP_one ?_
          intro E hE
          have HDR := Lib.hid (did_row (f := 0) (ts := [M]) rfl hrd HIC.out HSC.out)
          go_wp2_with (refine wpList_store_row rfl 71 (.tmp 6) (.tmp 126) rfl (x2.heap.size) #[.bool true, .slice p1 1 r1, .slice p2 1 r2, .int .i64 0, .int .i64 0, .string ⟨#[]⟩, .slice none 0 0] rfl rfl _ _ hrd size_did rfl (one7 _ _ _ _ _ _ _) ?_)
          have hfin := below_row (cs := #[.bool true, .slice p1 1 r1, .slice p2 1 r2, .int .i64 0, .int .i64 0, .string ⟨#[]⟩, .slice none 0 0]) hx4 hgl
          refine ⟨hfin, ?_⟩
          refine chainP_softv (.int .i64 0) (by kernel_rfl) (by kernel_rfl) ?_ ?_
          · simp only [Act.put, List.getElem?_toArray, List.getElem?_cons_succ, List.getElem?_cons_zero, Option.bind_some, List.setIfInBounds_toArray, List.set_cons_succ, List.set_cons_zero, Nat.reduceAdd]
            intro u hu E hE
            go_wp2
            exact hE
          simp only [Act.put, List.getElem?_toArray, List.getElem?_cons_succ, List.getElem?_cons_zero, Option.bind_some, List.setIfInBounds_toArray, List.set_cons_succ, List.set_cons_zero, Nat.reduceAdd]
          have HFIN := Lib.hid hfin
          clear hrd HIC HSC hfin
          refine chainP_nil (rest_end (by decide) ?_)
          go_wp2
          go_meet
          exact ⟨_, rfl, rfl, HBK.out.below HFIN.out, HDR.out⟩
      · intro E hE
        go_wp2
        have hrd := heap_alloc_new x1 (.cells #[.bool false, .slice none 0 0, .slice none 0 0, .int .i64 0, .int .i64 0, .string ⟨#[]⟩, .slice none 0 0] 71 (0, 0))
        have hbn := (Below.refl x1.heap.size x1).alloc (Nat.le_refl _) (.cells #[.bool false, .slice none 0 0, .slice none 0 0, .int .i64 0, .int .i64 0, .string ⟨#[]⟩, .slice none 0 0] 71 (0, 0))
        have hgl : W1.heap.size ≤ x1.heap.size := hx1.size
        have hx2 := hx1.trans (hbn.mono hx1.size)
        clear hbn
        refine ⟨hx2, ?_⟩
        generalize hGx2 : x1.alloc (.cells #[.bool false, .slice none 0 0, .slice none 0 0, .int .i64 0, .int .i64 0, .string ⟨#[]⟩, .slice none 0 0] 71 (0, 0)) = x2 at *
        clear hGx2
        refine chainP_one ?_
        intro E hE
        go_wp2
        have hrw : IsSl (x2.alloc (.cells #[.int .i64 1, .int .i64 0, .string ⟨#[]⟩, .slice none 0 0, .int .i64 F.k, .int .i64 F.n, .string F.s, .slice dta F.args.length dtc, .int .i64 2, .int .i64 m, .string ⟨#[]⟩, .slice dea 0 dec] 49 (0, 0))) AnyB (.slice (some ⟨x2.heap.size, 0, none⟩) 3 3) [varT 0, F, intT m] := row3 (x := varT 0) (z := intT m) (a := none) (c := 0) (a'' := dea) (c'' := dec) (var_is _ _ _) (HDT.out.below hx2).any (IsTm.mk' (t := intT m) (IsSl.nil _ _ _ _))
        have hbn := (Below.refl x2.heap.size x2).alloc (Nat.le_refl _) (.cells #[.int .i64 1, .int .i64 0, .string ⟨#[]⟩, .slice none 0 0, .int .i64 F.k, .int .i64 F.n, .string F.s, .slice dta F.args.length dtc, .int .i64 2, .int .i64 m, .string ⟨#[]⟩, .slice dea 0 dec] 49 (0, 0))
        replace hrd := row_on hrd hbn
        have hx3 := hx2.trans (hbn.mono hx2.size)
        clear hbn
        refine ⟨hx3, ?_⟩
        generalize hGx3 : x2.alloc (.cells #[.int .i64 1, .int .i64 0, .string ⟨#[]⟩, .slice none 0 0, .int .i64 F.k, .int .i64 F.n, .string F.s, .slice dta F.args.length dtc, .int .i64 2, .int .i64 m, .string ⟨#[]⟩, .slice dea 0 dec] 49 (0, 0)) = x3 at *
        clear hGx3
        refine chainP_one ?_
        intro E hE
        go_wp2_with (refine (sh_Do_functor [varT 0, F, intT m] (varT 0) F (intT m) 0 [M] AnyB _ _ _ hrw rfl (by intro t ht; simp only [List.mem_cons, List.not_mem_nil, or_false] at ht; rcases ht with rfl | rfl | rfl; (· exact ⟨by simp [varT, Tm.size, sizeL], ex17_cv 0 (by decide)⟩); (· exact ⟨by have := HSZ.out.2.2; omega, HCC.out.2.2⟩); (· exact ⟨by simp [intT, Tm.size, sizeL], HCI.out m (by omega)⟩)) rfl HFN.out.2).mono ?_; rintro e x4 ⟨va, vt, rfl, hic, hsc, hbn⟩)
        obtain ⟨p1, r1, ea⟩ : ∃ q k, va = .slice q 1 k := hic.firsts
        obtain ⟨p2, r2, eb⟩ : ∃ q k, vt = .slice q 1 k := hsc.form
        subst ea eb
        clear hrw
        have hgl0 := (Array.getElem?_eq_some_iff.1 hrd).1
        have HIC := Lib.hid (hic.ne (g := x1.heap.size) (fun b hb _ => by omega))
        have HSC := Lib.hid (hsc.ne (g := x1.heap.size) (fun b hb _ => by omega))
        clear hgl0
        clear hic hsc
        replace hrd := row_on hrd hbn
        have hx4 := hx3.trans (hbn.mono hx3.size)
        clear hbn
        refine ⟨hx4, ?_⟩
        refine chainP_softv (.tuple #[.agg #[.bool true, .slice p1 1 r1, .slice p2 1 r2, .int .i64 0, .int .i64 0, .string ⟨#[]⟩, .slice none 0 0], .int .i64 0]) (by kernel_rfl) (by kernel_rfl) ?_ ?_
        · simp only [Act.put, List.getElem?_toArray, List.getElem?_cons_succ, List.getElem?_cons_zero, Option.bind_some, List.setIfInBounds_toArray, List.set_cons_succ, List.set_cons_zero, Nat.reduceAdd]
          intro u hu E hE
          go_wp2
          exact hE
        simp only [Act.put, List.getElem?_toArray, List.getElem?_cons_succ, List.getElem?_cons_zero, Option.bind_some, List.setIfInBounds_toArray, List.set_cons_succ, List.set_cons_zero, Nat.reduceAdd]
        refine chainP_softv (.agg #[.bool true, .slice p1 1 r1, .slice p2 1 r2, .int .i64 0, .int .i64 0, .string ⟨#[]⟩, .slice none 0 0]) (by kernel_rfl) (by kernel_rfl) ?_ ?_
        · simp only [Act.put, List.getElem?_toArray, List.getElem?_cons_succ, List.getElem?_cons_zero, Option.bind_some, List.setIfInBounds_toArray, List.set_cons_succ, List.set_cons_zero, Nat.reduceAdd]
          intro u hu E hE
          go_wp2
          exact hE
        simp only [Act.put, List.getElem?_toArray, List.getElem?_cons_succ, List.getElem?_cons_zero, Option.bind_some, List.setIfInBounds_toArray, List.set_cons_succ, List.set_cons_zero, Nat.reduceAdd]
        refine chainP_softv (.int .i64 0) (by kernel_rfl) (by kernel_rfl) ?_ ?_
        · simp only [Act.put, List.getElem?_toArray, List.getElem?_cons_succ, List.getElem?_cons_zero, Option.bind_some, List.setIfInBounds_toArray, List.set_cons_succ, List.set_cons_zero, Nat.reduceAdd]
          intro u hu E hE
          go_wp2
          exact hE
        simp only [Act.put, List.getElem?_toArray, List.getElem?_cons_succ, List.getElem?_cons_zero, Option.bind_some, List.setIfInBounds_toArray, List.set_cons_succ, List.set_cons_zero, Nat.reduceAdd]
        refine chainP_one ?_
        intro E hE
        have HDR := Lib.hid (did_row (f := 0) (ts := [M]) rfl hrd HIC.out HSC.out)
        go_wp2_with (refine wpList_store_row rfl 71 (.tmp 6) (.tmp 126) rfl (x1.heap.size) #[.bool true, .slice p1 1 r1, .slice p2 1 r2, .int .i64 0, .int .i64 0, .string ⟨#[]⟩, .slice none 0 0] rfl rfl _ _ hrd size_did rfl (one7 _ _ _ _ _ _ _) ?_)
        have hfin := below_row (cs := #[.bool true, .slice p1 1 r1, .slice p2 1 r2, .int .i64 0, .int .i64 0, .string ⟨#[]⟩, .slice none 0 0]) hx4 hgl
        refine ⟨hfin, ?_⟩
        refine chainP_softv (.int .i64 0) (by kernel_rfl) (by kernel_rfl) ?_ ?_
        · simp only [Act.put, List.getElem?_toArray, List.getElem?_cons_succ, List.getElem?_cons_zero, Option.bind_some, List.setIfInBounds_toArray, List.set_cons_succ, List.set_cons_zero, Nat.reduceAdd]
          intro u hu E hE
          go_wp2
          exact hE
        simp only [Act.put, List.getElem?_toArray, List.getElem?_cons_succ, List.getElem?_cons_zero, Option.bind_some, List.setIfInBounds_toArray, List.set_cons_succ, List.set_cons_zero, Nat.reduceAdd]
        have HFIN := Lib.hid hfin
        clear hrd HIC HSC hfin
        refine chainP_nil (rest_end (by decide) ?_)
        go_wp2
        go_meet
        exact ⟨_, rfl, rfl, HBK.out.below HFIN.out, HDR.out⟩
    · intro E hE
      go_wp2
      have hrd := heap_alloc_new W1 (.cells #[.bool false, .slice none 0 0, .slice none 0 0, .int .i64 0, .int .i64 0, .string ⟨#[]⟩, .slice none 0 0] 71 (0, 0))
      have hbn := (Below.refl W1.heap.size W1).alloc (Nat.le_refl _) (.cells #[.bool false, .slice none 0 0, .slice none 0 0, .int .i64 0, .int .i64 0, .string ⟨#[]⟩, .slice none 0 0] 71 (0, 0))
      have hgl : W1.heap.size ≤ W1.heap.size := hb0.size
      have hx1 := hb0.trans (hbn.mono hb0.size)
      clear hbn
      refine ⟨hx1, ?_⟩
      generalize hGx1 : W1.alloc (.cells #[.bool false, .slice none 0 0, .slice none 0 0, .int .i64 0, .int .i64 0, .string ⟨#[]⟩, .slice none 0 0] 71 (0, 0)) = x1 at *
      clear hGx1
      refine chainP_one ?_
      intro E hE
      go_wp2_with (refine (l17_v _ _).mono ?_; rintro e x2 ⟨rfl, hbn⟩)
      replace hrd := row_on hrd hbn
      have hx2 := hx1.trans (hbn.mono hx1.size)
      clear hbn
      refine ⟨hx2, ?_⟩
      refine chainP_one ?_
      intro E hE
      go_wp2
      have hrw : IsSl (x2.alloc (.cells #[.int .i64 1, .int .i64 0, .string ⟨#[]⟩, .slice none 0 0, .int .i64 F.k, .int .i64 F.n, .string F.s, .slice dta F.args.length dtc, .int .i64 2, .int .i64 m, .string ⟨#[]⟩, .slice dea 0 dec] 49 (0, 0))) AnyB (.slice (some ⟨x2.heap.size, 0, none⟩) 3 3) [varT 0, F, intT m] := row3 (x := varT 0) (z := intT m) (a := none) (c := 0) (a'' := dea) (c'' := dec) (var_is _ _ _) (HDT.out.below hx2).any (IsTm.mk' (t := intT m) (IsSl.nil _ _ _ _))
      have hbn := (Below.refl x2.heap.size x2).alloc (Nat.le_refl _) (.cells #[.int .i64 1, .int .i64 0, .string ⟨#[]⟩, .slice none 0 0, .int .i64 F.k, .int .i64 F.n, .string F.s, .slice dta F.args.length dtc, .int .i64 2, .int .i64 m, .string ⟨#[]⟩, .slice dea 0 dec] 49 (0, 0))
      replace hrd := row_on hrd hbn
      have hx3 := hx2.trans (hbn.mono hx2.size)
      clear hbn
      refine ⟨hx3, ?_⟩
      generalize hGx3 : x2.alloc (.cells #[.int .i64 1, .int .i64 0, .string ⟨#[]⟩, .slice none 0 0, .int .i64 F.k, .int .i64 F.n, .string F.s, .slice dta F.args.length dtc, .int .i64 2, .int .i64 m, .string ⟨#[]⟩, .slice dea 0 dec] 49 (0, 0)) = x3 at *
      clear hGx3
      refine chainP_one ?_
      intro E hE
      go_wp2_with (refine (sh_Do_functor [varT 0, F, intT m] (varT 0) F (intT m) 0 [M] AnyB _ _ _ hrw rfl (by intro t ht; simp only [List.mem_cons, List.not_mem_nil, or_false] at ht; rcases ht with rfl | rfl | rfl; (· exact ⟨by simp [varT, Tm.size, sizeL], ex17_cv 0 (by decide)⟩); (· exact ⟨by have := HSZ.out.2.2; omega, HCC.out.2.2⟩); (· exact ⟨by simp [intT, Tm.size, sizeL], HCI.out m (by omega)⟩)) rfl HFN.out.2).mono ?_; rintro e x4 ⟨va, vt, rfl, hic, hsc, hbn⟩)
      obtain ⟨p1, r1, ea⟩ : ∃ q k, va = .slice q 1 k := hic.firsts
      obtain ⟨p2, r2, eb⟩ : ∃ q k, vt = .slice q 1 k := hsc.form
      subst ea eb
      clear hrw
      have hgl0 := (Array.getElem?_eq_some_iff.1 hrd).1
      have HIC := Lib.hid (hic.ne (g := W1.heap.size) (fun b hb _ => by omega))
      have HSC := Lib.hid (hsc.ne (g := W1.heap.size) (fun b hb _ => by omega))
      clear hgl0
      clear hic hsc
      replace hrd := row_on hrd hbn
      have hx4 := hx3.trans (hbn.mono hx3.size)
      clear hbn
      refine ⟨hx4, ?_⟩
      refine chainP_softv (.tuple #[.agg #[.bool true, .slice p1 1 r1, .slice p2 1 r2, .int .i64 0, .int .i64 0, .string ⟨#[]⟩, .slice none 0 0], .int .i64 0]) (by kernel_rfl) (by kernel_rfl) ?_ ?_
      · simp only [Act.put, List.getElem?_toArray, List.getElem?_cons_succ, List.getElem?_cons_zero, Option.bind_some, List.setIfInBounds_toArray, List.set_cons_succ, List.set_cons_zero, Nat.reduceAdd]
        intro u hu E hE
        go_wp2
        exact hE
      simp only [Act.put, List.getElem?_toArray, List.getElem?_cons_succ, List.getElem?_cons_zero, Option.bind_some, List.setIfInBounds_toArray, List.set_cons_succ, List.set_cons_zero, Nat.reduceAdd]
      refine chainP_softv (.agg #[.bool true, .slice p1 1 r1, .slice p2 1 r2, .int .i64 0, .int .i64 0, .string ⟨#[]⟩, .slice none 0 0]) (by kernel_rfl) (by kernel_rfl) ?_ ?_
      · simp only [Act.put, List.getElem?_toArray, List.getElem?_cons_succ, List.getElem?_cons_zero, Option.bind_some, List.setIfInBounds_toArray, List.set_cons_succ, List.set_cons_zero, Nat.reduceAdd]
        intro u hu E hE
        go_wp2
        exact hE
      simp only [Act.put, List.getElem?_toArray, List.getElem?_cons_succ, List.getElem?_cons_zero, Option.bind_some, List.setIfInBounds_toArray, List.set_cons_succ, List.set_cons_zero, Nat.reduceAdd]
      refine chainP_softv (.int .i64 0) (by kernel_rfl) (by kernel_rfl) ?_ ?_
      · simp only [Act.put, List.getElem?_toArray, List.getElem?_cons_succ, List.getElem?_cons_zero, Option.bind_some, List.setIfInBounds_toArray, List.set_cons_succ, List.set_cons_zero, Nat.reduceAdd]
        intro u hu E hE
        go_wp2
        exact hE
      simp only [Act.put, List.getElem?_toArray, List.getElem?_cons_succ, List.getElem?_cons_zero, Option.bind_some, List.setIfInBounds_toArray, List.set_cons_succ, List.set_cons_zero, Nat.reduceAdd]
      refine chainP_one ?_
      intro E hE
      have HDR := Lib.hid (did_row (f := 0) (ts := [M]) rfl hrd HIC.out HSC.out)
      go_wp2_with (refine wpList_store_row rfl 71 (.tmp 6) (.tmp 126) rfl (W1.heap.size) #[.bool true, .slice p1 1 r1, .slice p2 1 r2, .int .i64 0, .int .i64 0, .string ⟨#[]⟩, .slice none 0 0] rfl rfl _ _ hrd size_did rfl (one7 _ _ _ _ _ _ _) ?_)
      have hfin := below_row (cs := #[.bool true, .slice p1 1 r1, .slice p2 1 r2, .int .i64 0, .int .i64 0, .string ⟨#[]⟩, .slice none 0 0]) hx4 hgl
      refine ⟨hfin, ?_⟩
      refine chainP_softv (.int .i64 0) (by kernel_rfl) (by kernel_rfl) ?_ ?_
      · simp only [Act.put, List.getElem?_toArray, List.getElem?_cons_succ, List.getElem?_cons_zero, Option.bind_some, List.setIfInBounds_toArray, List.set_cons_succ, List.set_cons_zero, Nat.reduceAdd]
        intro u hu E hE
        go_wp2
        exact hE
      simp only [Act.put, List.getElem?_toArray, List.getElem?_cons_succ, List.getElem?_cons_zero, Option.bind_some, List.setIfInBounds_toArray, List.set_cons_succ, List.set_cons_zero, Nat.reduceAdd]
      have HFIN := Lib.hid hfin
      clear hrd HIC HSC hfin
      refine chainP_nil (rest_end (by decide) ?_)
      go_wp2
      go_meet
      exact ⟨_, rfl, rfl, HBK.out.below HFIN.out, HDR.out⟩
  case rest =>
  obtain ⟨p6, rfl, rfl, hbk, hd6⟩ := hcut
  go_upto_region 18 with fail
  refine wp_region_rest (by kernel_rfl) ?_
  have hd := (Below.refl wc.heap.size wc).drew
  replace hbk := hbk.below hd
  replace hd6 := hd6.below hd
  clear hd
  generalize wc.drew = W0 at *
  obtain ⟨dq, dk, dt, dl, dr0, di, ds⟩ := hd6
  have dr : W0.heap[p6]? = some (.cells #[.bool true, .slice dq 1 dk, .slice dt 1 dl, .int .i64 0, .int .i64 0, .string ⟨#[]⟩, .slice none 0 0] 71 (0, 0)) := dr0
  obtain ⟨db, doo, ea, -⟩ := ds.at 0 (by simp)
  subst ea
  obtain ⟨dta, dtc, dx0, dx1, dx2, dx3, dit, dlt⟩ := (ds.atb 0 (by simp)).read
  simp only [List.getElem_cons_zero, Nat.zero_mul, Nat.add_zero] at dx0 dx1 dx2 dx3 dit
  obtain ⟨d0, d1, d2, d3, d4, d5, d6⟩ := row7 dr
  rw [HMM.out.1] at dx2
  rw [HMM.out.2] at dx3
  obtain ⟨y0, y1, y2, y3⟩ := row4 hbk.row
  have HBK := Lib.hid hbk
  clear hbk di ds dr dr0 dit
  refine rest_lineL 0 13 [_, _, _, _, _, _, _, _, _, _, _, _, _] rfl (by kernel_rfl) (by decide) (by decide) (by kernel_rfl) ?_
  go_wp2
  refine then_rest ?_
  refine rest_chainP (fun u => u = W0) 13 21 (.soft 13 (.soft 14 (.soft 15 (.soft 16 (.soft 17 (.soft 18 (.soft 19 (.soft 20 .nil)))))))) (.soft _ (.soft _ (.soft _ (.soft _ (.soft _ (.soft _ (.soft _ (.soft _ .nil)))))))) ⟨rfl, ⟨rfl, ⟨rfl, ⟨rfl, ⟨rfl, ⟨rfl, ⟨rfl, ⟨rfl, trivial⟩⟩⟩⟩⟩⟩⟩⟩ (by kernel_rfl) (by kernel_rfl) (by kernel_rfl) (by kernel_rfl) (.inr (by kernel_rfl)) rfl ?_
  refine chainP_soft (a1 := ?ma30) (by kernel_rfl) (by kernel_rfl) ?mh30 ?mr30
  case mh30 =>
    intro u hu E hE
    subst hu
    go_wp2
    rfl
  refine chainP_soft (a1 := ?ma31) (by kernel_rfl) (by kernel_rfl) ?mh31 ?mr31
  case mh31 =>
    intro u hu E hE
    subst hu
    go_wp2
    rfl
  refine chainP_soft (a1 := ?ma32) (by kernel_rfl) (by kernel_rfl) ?mh32 ?mr32
  case mh32 =>
    intro u hu E hE
    subst hu
    go_wp2
    rfl
  refine chainP_soft (a1 := ?ma33) (by kernel_rfl) (by kernel_rfl) ?mh33 ?mr33
  case mh33 =>
    intro u hu E hE
    subst hu
    go_wp2
    rfl
  refine chainP_soft (a1 := ?ma34) (by kernel_rfl) (by kernel_rfl) ?mh34 ?mr34
  case mh34 =>
    intro u hu E hE
    subst hu
    go_wp2
    rfl
  refine chainP_soft (a1 := ?ma35) (by kernel_rfl) (by kernel_rfl) ?mh35 ?mr35
  case mh35 =>
    intro u hu E hE
    subst hu
    go_wp2
    rfl
  refine chainP_soft (a1 := ?ma36) (by kernel_rfl) (by kernel_rfl) ?mh36 ?mr36
  case mh36 =>
    intro u hu E hE
    subst hu
    go_wp2
    rfl
  refine chainP_soft (a1 := ?ma37) (by kernel_rfl) (by kernel_rfl) ?mh37 ?mr37
  case mh37 =>
    intro u hu E hE
    subst hu
    go_wp2
    rfl
  refine chainP_nil ?_
  refine rest_lineL 21 23 [_, _] rfl (by kernel_rfl) (by decide) (by decide) (by kernel_rfl) ?_
  go_wp2
  refine then_rest ?_
  refine rest_chainP (fun u => u = W0) 23 33 (.soft 23 (.soft 24 (.soft 25 (.soft 26 (.soft 27 (.soft 28 (.soft 29 (.soft 30 (.soft 31 (.soft 32 .nil)))))))))) (.soft _ (.soft _ (.soft _ (.soft _ (.soft _ (.soft _ (.soft _ (.soft _ (.soft _ (.soft _ .nil)))))))))) ⟨rfl, ⟨rfl, ⟨rfl, ⟨rfl, ⟨rfl, ⟨rfl, ⟨rfl, ⟨rfl, ⟨rfl, ⟨rfl, trivial⟩⟩⟩⟩⟩⟩⟩⟩⟩⟩ (by kernel_rfl) (by kernel_rfl) (by kernel_rfl) (by kernel_rfl) (.inr (by kernel_rfl)) rfl ?_
  refine chainP_soft (a1 := ?ma38) (by kernel_rfl) (by kernel_rfl) ?mh38 ?mr38
  case mh38 =>
    intro u hu E hE
    subst hu
    go_wp2
    rfl
  refine chainP_soft (a1 := ?ma39) (by kernel_rfl) (by kernel_rfl) ?mh39 ?mr39
  case mh39 =>
    intro u hu E hE
    subst hu
    go_wp2
    rfl
  refine chainP_soft (a1 := ?ma40) (by kernel_rfl) (by kernel_rfl) ?mh40 ?mr40
  case mh40 =>
    intro u hu E hE
    subst hu
    go_wp2
    rfl
  refine chainP_soft (a1 := ?ma41) (by kernel_rfl) (by kernel_rfl) ?mh41 ?mr41
  case mh41 =>
    intro u hu E hE
    subst hu
    go_wp2
    rfl
  refine chainP_soft (a1 := ?ma42) (by kernel_rfl) (by kernel_rfl) ?mh42 ?mr42
  case mh42 =>
    intro u hu E hE
    subst hu
    go_wp2
    rfl
  refine chainP_soft (a1 := ?ma43) (by kernel_rfl) (by kernel_rfl) ?mh43 ?mr43
  case mh43 =>
    intro u hu E hE
    subst hu
    go_wp2
    rfl
  refine chainP_soft (a1 := ?ma44) (by kernel_rfl) (by kernel_rfl) ?mh44 ?mr44
  case mh44 =>
    intro u hu E hE
    subst hu
    go_wp2
    rfl
  refine chainP_soft (a1 := ?ma45) (by kernel_rfl) (by kernel_rfl) ?mh45 ?mr45
  case mh45 =>
    intro u hu E hE
    subst hu
    go_wp2
    rfl
  refine chainP_soft (a1 := ?ma46) (by kernel_rfl) (by kernel_rfl) ?mh46 ?mr46
  case mh46 =>
    intro u hu E hE
    subst hu
    go_wp2
    rfl
  refine chainP_soft (a1 := ?ma47) (by kernel_rfl) (by kernel_rfl) ?mh47 ?mr47
  case mh47 =>
    intro u hu E hE
    subst hu
    go_wp2
    rfl
  refine chainP_nil ?_
  refine rest_lineL 33 35 [_, _] rfl (by kernel_rfl) (by decide) (by decide) (by kernel_rfl) ?_
  go_wp2
  refine then_rest (rest_end (by decide) ?_)
  clear dx0 dx1 dx2 dx3 d0 d1 d2 d3 d4 d5 d6 dlt bm1 bm2
  go_upto_region 20 with fail
  clear y0 y1 y2 y3
  have hbk := HBK.out
  clear HBK
  obtain ⟨y0, y1, y2, y3⟩ := row4 hbk.row
  have HST := Lib.hid (show BkRel T tb tk p3 p4 1 [F, intT m] w (.int .i64 ((0 : Nat) : Int)) W0 from ⟨0, by omega, rfl, hbk⟩)
  clear hbk
  go_wp2
  clear y0 y1 y2 y3
  go_loopw [166] (fun v166 wr => BkRel T tb tk p3 p4 1 [F, intT m] w v166 wr) (fun v166 _ => T.args.length - (intOf v166).toNat)
  case atStart => exact HST.out
  case round =>
    clear HST
    obtain ⟨i, hi, rfl, hbk⟩ := hrel
    by_cases hin : i < T.args.length
    · have b1 : decide ((i : Int) < (T.args.length : Int)) = true := by simp; omega
      have b2 : decide (i < T.args.length) = true := by simpa using hin
      have hk4 : T.k = 4 := by
        by_cases h : T.k = 4
        · exact h
        · have := HKK.out h; have := HM0.out; omega
      have HK4 := Lib.hid hk4
      clear hk4
      obtain ⟨eb, eo, etb, -, hat⟩ := hbk.tm.args.at i hin
      subst etb
      obtain ⟨X, hX⟩ : ∃ X, X = T.args[i] := ⟨_, rfl⟩
      rw [← hX] at hat
      obtain ⟨xa, xc, x0, x1, x2, x3, hxt, hxl⟩ := hat.read
      have HXX := Lib.hid hX
      have hsx : sameT X X = true := by rw [hX]; exact HSB.out _ (List.getElem_mem _)
      have hxs : X.size ≤ 1000 := by rw [hX]; have h1 := size_mem hin; have h2 : sizeL T.args + 1 = T.size := (by obtain ⟨k1, n1, s1, a1⟩ := T; simp [Tm.size, Tm.args]); have := HSZ.out.1; omega
      have hal9 := (Below.refl wr.heap.size wr).alloc (Nat.le_refl _) (.cells #[.int .i64 X.k, .int .i64 X.n, .string X.s, .slice xa X.args.length xc] 49 (0, 0))
      have hr9 := heap_alloc_new wr (.cells #[.int .i64 X.k, .int .i64 X.n, .string X.s, .slice xa X.args.length xc] 49 (0, 0))
      have HBK := Lib.hid (hbk.below hal9)
      have HR9 := Lib.hid hr9
      have HX9 := Lib.hid (hxt.any.below hal9)
      have HSX := Lib.hid hsx
      have hp9 : p3 < wr.heap.size := (Array.getElem?_eq_some_iff.1 hbk.row).1
      clear hat hX hxt hbk hal9 hr9 hsx
      go_upto_region 23 with fail
      clear x0 x1 x2 x3 hxl
      generalize wr.alloc (.cells #[.int .i64 X.k, .int .i64 X.n, .string X.s, .slice xa X.args.length xc] 49 (0, 0)) = w9 at *
      obtain ⟨p9, hp9e⟩ : ∃ p9, p9 = wr.heap.size := ⟨_, rfl⟩
      rw [← hp9e] at HR9 ⊢
      clear hp9e
      go_cut [10, 11] from 171 to 180 (fun v10 v11 wx => ∃ p10, v10 = .pointer (some ⟨p10, 0, none⟩) ∧ v11 = .int .i64 0 ∧ BkX T (some ⟨eb, eo, none⟩) tk p3 p4 1 [F, intT m] w X xa xc p9 p10 wx)
      case first =>
        have hbk := HBK.out
        clear HBK
        refine wp_region_rest (by kernel_rfl) ?_
        have hd := (Below.refl w9.heap.size w9).drew
        replace hbk := hbk.below hd
        replace HR9 := Lib.hid (row_on HR9.out hd)
        replace HX9 := Lib.hid (HX9.out.below hd)
        clear hd
        generalize w9.drew = W1 at *
        obtain ⟨y0, y1, y2, y3⟩ := row4 hbk.row
        have dlr := (Array.getElem?_eq_some_iff.1 hbk.row).1
        have HBK := Lib.hid hbk
        clear hbk
        have hi9 : i ≤ 99999 := by have := HM0.out; omega
        refine rest_chainP (fun u => Below W1.heap.size W1 u) 0 13 (.soft 0 (.soft 1 (.soft 3 (.two 2 10 (.two 4 10 (.two 5 10 (.two 6 10 (.soft 7 (.soft 8 (.soft 9 (.one 10 (.one 11 (.soft 12 .nil)))))) (.one 6 (.soft 7 (.soft 8 (.soft 9 (.one 11 (.soft 12 .nil))))))) (.one 5 (.one 6 (.soft 7 (.soft 8 (.soft 9 (.one 11 (.soft 12 .nil)))))))) (.one 4 (.one 5 (.one 6 (.soft 7 (.soft 8 (.soft 9 (.one 11 (.soft 12 .nil))))))))) (.one 2 (.one 4 (.one 5 (.one 6 (.soft 7 (.soft 8 (.soft 9 (.one 11 (.soft 12 .nil))))))))))))) (.soft _ (.soft _ (.soft _ (.two _ _ (.two _ _ (.two _ _ (.two _ _ (.soft _ (.soft _ (.soft _ (.one _ (.one _ (.soft _ .nil)))))) (.one _ (.soft _ (.soft _ (.soft _ (.one _ (.soft _ .nil))))))) (.one _ (.one _ (.soft _ (.soft _ (.soft _ (.one _ (.soft _ .nil)))))))) (.one _ (.one _ (.one _ (.soft _ (.soft _ (.soft _ (.one _ (.soft _ .nil))))))))) (.one _ (.one _ (.one _ (.one _ (.soft _ (.soft _ (.soft _ (.one _ (.soft _ .nil))))))))))))) ⟨rfl, ⟨rfl, ⟨rfl, ⟨rfl, rfl, ⟨rfl, rfl, ⟨rfl, rfl, ⟨rfl, rfl, ⟨rfl, ⟨rfl, ⟨rfl, ⟨rfl, ⟨rfl, ⟨rfl, trivial⟩⟩⟩⟩⟩⟩, ⟨rfl, ⟨rfl, ⟨rfl, ⟨rfl, ⟨rfl, ⟨rfl, trivial⟩⟩⟩⟩⟩⟩⟩, ⟨rfl, ⟨rfl, ⟨rfl, ⟨rfl, ⟨rfl, ⟨rfl, ⟨rfl, trivial⟩⟩⟩⟩⟩⟩⟩⟩, ⟨rfl, ⟨rfl, ⟨rfl, ⟨rfl, ⟨rfl, ⟨rfl, ⟨rfl, ⟨rfl, trivial⟩⟩⟩⟩⟩⟩⟩⟩⟩, ⟨rfl, ⟨rfl, ⟨rfl, ⟨rfl, ⟨rfl, ⟨rfl, ⟨rfl, ⟨rfl, ⟨rfl, trivial⟩⟩⟩⟩⟩⟩⟩⟩⟩⟩⟩⟩⟩ (by kernel_rfl) (by kernel_rfl) (by kernel_rfl) (by kernel_rfl) (.inl rfl) (Below.refl _ _) ?_
        have hb0 := Below.refl W1.heap.size W1
        refine chainP_soft (a1 := ?ma48) (by kernel_rfl) (by kernel_rfl) ?mh48 ?mr48
        case mh48 =>
          intro u hu E hE
          go_wp2
          rfl
        refine chainP_soft (a1 := ?ma49) (by kernel_rfl) (by kernel_rfl) ?mh49 ?mr49
        case mh49 =>
          intro u hu E hE
          go_wp2
          rfl
        refine chainP_soft (a1 := ?ma50) (by kernel_rfl) (by kernel_rfl) ?mh50 ?mr50
        case mh50 =>
          intro u hu E hE
          have c0 := (hu.cell (p := ⟨p3, 0, none⟩) dlr).trans y0
          have c1 := (hu.cell (p := ⟨p3, 1, none⟩) dlr).trans y1
          have c2 := (hu.cell (p := ⟨p3, 2, none⟩) dlr).trans y2
          have c3 := (hu.cell (p := ⟨p3, 3, none⟩) dlr).trans y3
          go_wp2
          rfl
        refine chainP_two ?_ ?_
        · intro E hE
          go_wp2_with (refine (l17_i _ _).mono ?_; rintro e x1 ⟨rfl, hbn⟩)
          have hx1 := hb0.trans (hbn.mono hb0.size)
          clear hbn
          refine ⟨hx1, ?_⟩
          refine chainP_two ?_ ?_
          · intro E hE
            go_wp2_with (refine (l17_v _ _).mono ?_; rintro e x2 ⟨rfl, hbn⟩)
            have hx2 := hx1.trans (hbn.mono hx1.size)
            clear hbn
            refine ⟨hx2, ?_⟩
            refine chainP_two ?_ ?_
            · intro E hE
              go_wp2
              have hrw : IsSl (x2.alloc (.cells #[.int .i64 2, .int .i64 ((i : Int) + 1), .string ⟨#[]⟩, .slice none 0 0, .int .i64 T.k, .int .i64 T.n, .string T.s, .slice (some ⟨eb, eo, none⟩) T.args.length tk, .int .i64 1, .int .i64 0, .string ⟨#[]⟩, .slice none 0 0] 49 (0, 0))) AnyB (.slice (some ⟨x2.heap.size, 0, none⟩) 3 3) [intT ((i : Int) + 1), T, varT 0] := row3 (x := intT ((i : Int) + 1)) (z := varT 0) (a := none) (c := 0) (a'' := none) (c'' := 0) (int_is _ _ _) (HBK.out.tm.below hx2).any (var_is _ _ _)
              have hbn := (Below.refl x2.heap.size x2).alloc (Nat.le_refl _) (.cells #[.int .i64 2, .int .i64 ((i : Int) + 1), .string ⟨#[]⟩, .slice none 0 0, .int .i64 T.k, .int .i64 T.n, .string T.s, .slice (some ⟨eb, eo, none⟩) T.args.length tk, .int .i64 1, .int .i64 0, .string ⟨#[]⟩, .slice none 0 0] 49 (0, 0))
              have hx3 := hx2.trans (hbn.mono hx2.size)
              clear hbn
              refine ⟨hx3, ?_⟩
              generalize hGx3 : x2.alloc (.cells #[.int .i64 2, .int .i64 ((i : Int) + 1), .string ⟨#[]⟩, .slice none 0 0, .int .i64 T.k, .int .i64 T.n, .string T.s, .slice (some ⟨eb, eo, none⟩) T.args.length tk, .int .i64 1, .int .i64 0, .string ⟨#[]⟩, .slice none 0 0] 49 (0, 0)) = x3 at *
              clear hGx3
              refine chainP_two ?_ ?_
              · intro E hE
                go_wp2_with (refine (arg_in i T AnyB _ _ _ hrw (by have := HSZ.out.1; omega) HCC.out.1 (HCI.out (i + 1) (by omega)) HK4.out hin X HXX.out).mono ?_; rintro e x4 ⟨va, vt, rfl, hic, hsc, hbn⟩)
                obtain ⟨p1, r1, ea⟩ : ∃ q k, va = .slice q 1 k := hic.firsts
                obtain ⟨p2, r2, eb⟩ : ∃ q k, vt = .slice q 1 k := hsc.form
                subst ea eb
                clear hrw
                have HIC := Lib.hid hic.anyB
                have HSC := Lib.hid (hsc.imp (P' := AnyB) (fun _ _ => trivial) (fun _ _ _ => rfl))
                clear hic hsc
                have hx4 := hx3.trans (hbn.mono hx3.size)
                clear hbn
                refine ⟨hx4, ?_⟩
                refine chainP_softv (.tuple #[.agg #[.bool true, .slice p1 1 r1, .slice p2 1 r2, .int .i64 0, .int .i64 0, .string ⟨#[]⟩, .slice none 0 0], .int .i64 0]) (by kernel_rfl) (by kernel_rfl) ?_ ?_
                · simp only [Act.put, List.getElem?_toArray, List.getElem?_cons_succ, List.getElem?_cons_zero, Option.bind_some, List.setIfInBounds_toArray, List.set_cons_succ, List.set_cons_zero, Nat.reduceAdd]
                  intro u hu E hE
                  go_wp2
                  exact hE
                simp only [Act.put, List.getElem?_toArray, List.getElem?_cons_succ, List.getElem?_cons_zero, Option.bind_some, List.setIfInBounds_toArray, List.set_cons_succ, List.set_cons_zero, Nat.reduceAdd]
                refine chainP_softv (.agg #[.bool true, .slice p1 1 r1, .slice p2 1 r2, .int .i64 0, .int .i64 0, .string ⟨#[]⟩, .slice none 0 0]) (by kernel_rfl) (by kernel_rfl) ?_ ?_
                · simp only [Act.put, List.getElem?_toArray, List.getElem?_cons_succ, List.getElem?_cons_zero, Option.bind_some, List.setIfInBounds_toArray, List.set_cons_succ, List.set_cons_zero, Nat.reduceAdd]
                  intro u hu E hE
                  go_wp2
                  exact hE
                simp only [Act.put, List.getElem?_toArray, List.getElem?_cons_succ, List.getElem?_cons_zero, Option.bind_some, List.setIfInBounds_toArray, List.set_cons_succ, List.set_cons_zero, Nat.reduceAdd]
                refine chainP_softv (.int .i64 0) (by kernel_rfl) (by kernel_rfl) ?_ ?_
                · simp only [Act.put, List.getElem?_toArray, List.getElem?_cons_succ, List.getElem?_cons_zero, Option.bind_some, List.setIfInBounds_toArray, List.set_cons_succ, List.set_cons_zero, Nat.reduceAdd]
                  intro u hu E hE
                  go_wp2
                  exact hE
                simp only [Act.put, List.getElem?_toArray, List.getElem?_cons_succ, List.getElem?_cons_zero, Option.bind_some, List.setIfInBounds_toArray, List.set_cons_succ, List.set_cons_zero, Nat.reduceAdd]
                refine chainP_one ?_
                intro E hE
                go_wp2
                have hrd := heap_alloc_new x4 (.cells #[.bool false, .slice none 0 0, .slice none 0 0, .int .i64 0, .int .i64 0, .string ⟨#[]⟩, .slice none 0 0] 71 (0, 0))
                have hbn := (Below.refl x4.heap.size x4).alloc (Nat.le_refl _) (.cells #[.bool false, .slice none 0 0, .slice none 0 0, .int .i64 0, .int .i64 0, .string ⟨#[]⟩, .slice none 0 0] 71 (0, 0))
                have hgl : W1.heap.size ≤ x4.heap.size := hx4.size
                replace HIC := Lib.hid (HIC.out.ne (g := x4.heap.size) (fun b _ hlt => by omega))
                replace HSC := Lib.hid (HSC.out.ne (g := x4.heap.size) (fun b _ hlt => by omega))
                replace HIC := Lib.hid (HIC.out.below hbn)
                replace HSC := Lib.hid (HSC.out.below hbn)
                have hx5 := hx4.trans (hbn.mono hx4.size)
                clear hbn
                refine ⟨hx5, ?_⟩
                generalize hGx5 : x4.alloc (.cells #[.bool false, .slice none 0 0, .slice none 0 0, .int .i64 0, .int .i64 0, .string ⟨#[]⟩, .slice none 0 0] 71 (0, 0)) = x5 at *
                clear hGx5
                refine chainP_one ?_
                intro E hE
                have HDR := Lib.hid (did_row (f := 2) (ts := [X]) rfl hrd HIC.out HSC.out)
                go_wp2_with (refine wpList_store_row rfl 71 (.tmp 10) (.tmp 179) rfl (x4.heap.size) #[.bool true, .slice p1 1 r1, .slice p2 1 r2, .int .i64 0, .int .i64 0, .string ⟨#[]⟩, .slice none 0 0] rfl rfl _ _ hrd size_did rfl (one7 _ _ _ _ _ _ _) ?_)
                have hfin := below_row (cs := #[.bool true, .slice p1 1 r1, .slice p2 1 r2, .int .i64 0, .int .i64 0, .string ⟨#[]⟩, .slice none 0 0]) hx5 hgl
                refine ⟨hfin, ?_⟩
                refine chainP_softv (.int .i64 0) (by kernel_rfl) (by kernel_rfl) ?_ ?_
                · simp only [Act.put, List.getElem?_toArray, List.getElem?_cons_succ, List.getElem?_cons_zero, Option.bind_some, List.setIfInBounds_toArray, List.set_cons_succ, List.set_cons_zero, Nat.reduceAdd]
                  intro u hu E hE
                  go_wp2
                  exact hE
                simp only [Act.put, List.getElem?_toArray, List.getElem?_cons_succ, List.getElem?_cons_zero, Option.bind_some, List.setIfInBounds_toArray, List.set_cons_succ, List.set_cons_zero, Nat.reduceAdd]
                have HFIN := Lib.hid hfin
                clear hrd HIC HSC hfin
                refine chainP_nil (rest_end (by decide) ?_)
                go_wp2
                go_meet
                exact ⟨_, rfl, rfl, HBK.out.below HFIN.out, row_on HR9.out HFIN.out, HX9.out.below HFIN.out, HDR.out⟩
              · intro E hE
                go_wp2
                have hrd := heap_alloc_new x3 (.cells #[.bool false, .slice none 0 0, .slice none 0 0, .int .i64 0, .int .i64 0, .string ⟨#[]⟩, .slice none 0 0] 71 (0, 0))
                have hbn := (Below.refl x3.heap.size x3).alloc (Nat.le_refl _) (.cells #[.bool false, .slice none 0 0, .slice none 0 0, .int .i64 0, .int .i64 0, .string ⟨#[]⟩, .slice none 0 0] 71 (0, 0))
                have hgl : W1.heap.size ≤ x3.heap.size := hx3.size
                replace hrw := hrw.below hbn
                have hx4 := hx3.trans (hbn.mono hx3.size)
                clear hbn
                refine ⟨hx4, ?_⟩
                generalize hGx4 : x3.alloc (.cells #[.bool false, .slice none 0 0, .slice none 0 0, .int .i64 0, .int .i64 0, .string ⟨#[]⟩, .slice none 0 0] 71 (0, 0)) = x4 at *
                clear hGx4
                refine chainP_one ?_
                intro E hE
                go_wp2_with (refine (arg_in i T AnyB _ _ _ hrw (by have := HSZ.out.1; omega) HCC.out.1 (HCI.out (i + 1) (by omega)) HK4.out hin X HXX.out).mono ?_; rintro e x5 ⟨va, vt, rfl, hic, hsc, hbn⟩)
                obtain ⟨p1, r1, ea⟩ : ∃ q k, va = .slice q 1 k := hic.firsts
                obtain ⟨p2, r2, eb⟩ : ∃ q k, vt = .slice q 1 k := hsc.form
                subst ea eb
                clear hrw
                have hgl0 := (Array.getElem?_eq_some_iff.1 hrd).1
                have HIC := Lib.hid (hic.ne (g := x3.heap.size) (fun b hb _ => by omega))
                have HSC := Lib.hid (hsc.ne (g := x3.heap.size) (fun b hb _ => by omega))
                clear hgl0
                clear hic hsc
                replace hrd := row_on hrd hbn
                have hx5 := hx4.trans (hbn.mono hx4.size)
                clear hbn
                refine ⟨hx5, ?_⟩
                refine chainP_softv (.tuple #[.agg #[.bool true, .slice p1 1 r1, .slice p2 1 r2, .int .i64 0, .int .i64 0, .string ⟨#[]⟩, .slice none 0 0], .int .i64 0]) (by kernel_rfl) (by kernel_rfl) ?_ ?_
                · simp only [Act.put, List.getElem?_toArray, List.getElem?_cons_succ, List.getElem?_cons_zero, Option.bind_some, List.setIfInBounds_toArray, List.set_cons_succ, List.set_cons_zero, Nat.reduceAdd]
                  intro u hu E hE
                  go_wp2
                  exact hE
                simp only [Act.put, List.getElem?_toArray, List.getElem?_cons_succ, List.getElem?_cons_zero, Option.bind_some, List.setIfInBounds_toArray, List.set_cons_succ, List.set_cons_zero, Nat.reduceAdd]
                refine chainP_softv (.agg #[.bool true, .slice p1 1 r1, .slice p2 1 r2, .int .i64 0, .int .i64 0, .string ⟨#[]⟩, .slice none 0 0]) (by kernel_rfl) (by kernel_rfl) ?_ ?_
                · simp only [Act.put, List.getElem?_toArray, List.getElem?_cons_succ, List.getElem?_cons_zero, Option.bind_some, List.setIfInBounds_toArray, List.set_cons_succ, List.set_cons_zero, Nat.reduceAdd]
                  intro u hu E hE
                  go_wp2
                  exact hE
                simp only [Act.put, List.getElem?_toArray, List.getElem?_cons_succ, List.getElem?_cons_zero, Option.bind_some, List.setIfInBounds_toArray, List.set_cons_succ, List.set_cons_zero, Nat.reduceAdd]
                refine chainP_softv (.int .i64 0) (by kernel_rfl) (by kernel_rfl) ?_ ?_
                · simp only [Act.put, List.getElem?_toArray, List.getElem?_cons_succ, List.getElem?_cons_zero, Option.bind_some, List.setIfInBounds_toArray, List.set_cons_succ, List.set_cons_zero, Nat.reduceAdd]
                  intro u hu E hE
                  go_wp2
                  exact hE
                simp only [Act.put, List.getElem?_toArray, List.getElem?_cons_succ, List.getElem?_cons_zero, Option.bind_some, List.setIfInBounds_toArray, List.set_cons_succ, List.set_cons_zero, Nat.reduceAdd]
                refine chainP_one ?_
                intro E hE
                have HDR := Lib.hid (did_row (f := 2) (ts := [X]) rfl hrd HIC.out HSC.out)
                go_wp2_with (refine wpList_store_row rfl 71 (.tmp 10) (.tmp 179) rfl (x3.heap.size) #[.bool true, .slice p1 1 r1, .slice p2 1 r2, .int .i64 0, .int .i64 0, .string ⟨#[]⟩, .slice none 0 0] rfl rfl _ _ hrd size_did rfl (one7 _ _ _ _ _ _ _) ?_)
                have hfin := below_row (cs := #[.bool true, .slice p1 1 r1, .slice p2 1 r2, .int .i64 0, .int .i64 0, .string ⟨#[]⟩, .slice none 0 0]) hx5 hgl
                refine ⟨hfin, ?_⟩
                refine chainP_softv (.int .i64 0) (by kernel_rfl) (by kernel_rfl) ?_ ?_
                · simp only [Act.put, List.getElem?_toArray, List.getElem?_cons_succ, List.getElem?_cons_zero, Option.bind_some, List.setIfInBounds_toArray, List.set_cons_succ, List.set_cons_zero, Nat.reduceAdd]
                  intro u hu E hE
                  go_wp2
                  exact hE
                simp only [Act.put, List.getElem?_toArray, List.getElem?_cons_succ, List.getElem?_cons_zero, Option.bind_some, List.setIfInBounds_toArray, List.set_cons_succ, List.set_cons_zero, Nat.reduceAdd]
                have HFIN := Lib.hid hfin
                clear hrd HIC HSC hfin
                refine chainP_nil (rest_end (by decide) ?_)
                go_wp2
                go_meet
                exact ⟨_, rfl, rfl, HBK.out.below HFIN.out, row_on HR9.out HFIN.out, HX9.out.below HFIN.out, HDR.out⟩
            · intro E hE
              go_wp2
              have hrd := heap_alloc_new x2 (.cells #[.bool false, .slice none 0 0, .slice none 0 0, .int .i64 0, .int .i64 0, .string ⟨#[]⟩, .slice none 0 0] 71 (0, 0))
              have hbn := (Below.refl x2.heap.size x2).alloc (Nat.le_refl _) (.cells #[.bool false, .slice none 0 0, .slice none 0 0, .int .i64 0, .int .i64 0, .string ⟨#[]⟩, .slice none 0 0] 71 (0, 0))
              have hgl : W1.heap.size ≤ x2.heap.size := hx2.size
              have hx3 := hx2.trans (hbn.mono hx2.size)
              clear hbn
              refine ⟨hx3, ?_⟩
              generalize hGx3 : x2.alloc (.cells #[.bool false, .slice none 0 0, .slice none 0 0, .int .i64 0, .int .i64 0, .string ⟨#[]⟩, .slice none 0 0] 71 (0, 0)) = x3 at *
              clear hGx3
              refine chainP_one ?_
              intro E hE
              go_wp2
              have hrw : IsSl (x3.alloc (.cells #[.int .i64 2, .int .i64 ((i : Int) + 1), .string ⟨#[]⟩, .slice none 0 0, .int .i64 T.k, .int .i64 T.n, .string T.s, .slice (some ⟨eb, eo, none⟩) T.args.length tk, .int .i64 1, .int .i64 0, .string ⟨#[]⟩, .slice none 0 0] 49 (0, 0))) AnyB (.slice (some ⟨x3.heap.size, 0, none⟩) 3 3) [intT ((i : Int) + 1), T, varT 0] := row3 (x := intT ((i : Int) + 1)) (z := varT 0) (a := none) (c := 0) (a'' := none) (c'' := 0) (int_is _ _ _) (HBK.out.tm.below hx3).any (var_is _ _ _)
              have hbn := (Below.refl x3.heap.size x3).alloc (Nat.le_refl _) (.cells #[.int .i64 2, .int .i64 ((i : Int) + 1), .string ⟨#[]⟩, .slice none 0 0, .int .i64 T.k, .int .i64 T.n, .string T.s, .slice (some ⟨eb, eo, none⟩) T.args.length tk, .int .i64 1, .int .i64 0, .string ⟨#[]⟩, .slice none 0 0] 49 (0, 0))
              replace hrd := row_on hrd hbn
              have hx4 := hx3.trans (hbn.mono hx3.size)
              clear hbn
              refine ⟨hx4, ?_⟩
              generalize hGx4 : x3.alloc (.cells #[.int .i64 2, .int .i64 ((i : Int) + 1), .string ⟨#[]⟩, .slice none 0 0, .int .i64 T.k, .int .i64 T.n, .string T.s, .slice (some ⟨eb, eo, none⟩) T.args.length tk, .int .i64 1, .int .i64 0, .string ⟨#[]⟩, .slice none 0 0] 49 (0, 0)) = x4 at *
              clear hGx4
              refine chainP_one ?_
              intro E hE
              go_wp2_with (refine (arg_in i T AnyB _ _ _ hrw (by have := HSZ.out.1; omega) HCC.out.1 (HCI.out (i + 1) (by omega)) HK4.out hin X HXX.out).mono ?_; rintro e x5 ⟨va, vt, rfl, hic, hsc, hbn⟩)
              obtain ⟨p1, r1, ea⟩ : ∃ q k, va = .slice q 1 k := hic.firsts
              obtain ⟨p2, r2, eb⟩ : ∃ q k, vt = .slice q 1 k := hsc.form
              subst ea eb
              clear hrw
              have hgl0 := (Array.getElem?_eq_some_iff.1 hrd).1
              have HIC := Lib.hid (hic.ne (g := x2.heap.size) (fun b hb _ => by omega))
              have HSC := Lib.hid (hsc.ne (g := x2.heap.size) (fun b hb _ => by omega))
              clear hgl0
              clear hic hsc
              replace hrd := row_on hrd hbn
              have hx5 := hx4.trans (hbn.mono hx4.size)
              clear hbn
              refine ⟨hx5, ?_⟩
              refine chainP_softv (.tuple #[.agg #[.bool true, .slice p1 1 r1, .slice p2 1 r2, .int .i64 0, .int .i64 0, .string ⟨#[]⟩, .slice none 0 0], .int .i64 0]) (by kernel_rfl) (by kernel_rfl) ?_ ?_
              · simp only [Act.put, List.getElem?_toArray, List.getElem?_cons_succ, List.getElem?_cons_zero, Option.bind_some, List.setIfInBounds_toArray, List.set_cons_succ, List.set_cons_zero, Nat.reduceAdd]
                intro u hu E hE
                go_wp2
                exact hE
              simp only [Act.put, List.getElem?_toArray, List.getElem?_cons_succ, List.getElem?_cons_zero, Option.bind_some, List.setIfInBounds_toArray, List.set_cons_succ, List.set_cons_zero, Nat.reduceAdd]
              refine chainP_softv (.agg #[.bool true, .slice p1 1 r1, .slice p2 1 r2, .int .i64 0, .int .i64 0, .string ⟨#[]⟩, .slice none 0 0]) (by kernel_rfl) (by kernel_rfl) ?_ ?_
              · simp only [Act.put, List.getElem?_toArray, List.getElem?_cons_succ, List.getElem?_cons_zero, Option.bind_some, List.setIfInBounds_toArray, List.set_cons_succ, List.set_cons_zero, Nat.reduceAdd]
                intro u hu E hE
                go_wp2
                exact hE
              simp only [Act.put, List.getElem?_toArray, List.getElem?_cons_succ, List.getElem?_cons_zero, Option.bind_some, List.setIfInBounds_toArray, List.set_cons_succ, List.set_cons_zero, Nat.reduceAdd]
              refine chainP_softv (.int .i64 0) (by kernel_rfl) (by kernel_rfl) ?_ ?_
              · simp only [Act.put, List.getElem?_toArray, List.getElem?_cons_succ, List.getElem?_cons_zero, Option.bind_some, List.setIfInBounds_toArray, List.set_cons_succ, List.set_cons_zero, Nat.reduceAdd]
                intro u hu E hE
                go_wp2
                exact hE
              simp only [Act.put, List.getElem?_toArray, List.getElem?_cons_succ, List.getElem?_cons_zero, Option.bind_some, List.setIfInBounds_toArray, List.set_cons_succ, List.set_cons_zero, Nat.reduceAdd]
              refine chainP_one ?_
              intro E hE
              have HDR := Lib.hid (did_row (f := 2) (ts := [X]) rfl hrd HIC.out HSC.out)
              go_wp2_with (refine wpList_store_row rfl 71 (.tmp 10) (.tmp 179) rfl (x2.heap.size) #[.bool true, .slice p1 1 r1, .slice p2 1 r2, .int .i64 0, .int .i64 0, .string ⟨#[]⟩, .slice none 0 0] rfl rfl _ _ hrd size_did rfl (one7 _ _ _ _ _ _ _) ?_)
              have hfin := below_row (cs := #[.bool true, .slice p1 1 r1, .slice p2 1 r2, .int .i64 0, .int .i64 0, .string ⟨#[]⟩, .slice none 0 0]) hx5 hgl
              refine ⟨hfin, ?_⟩
              refine chainP_softv (.int .i64 0) (by kernel_rfl) (by kernel_rfl) ?_ ?_
              · simp only [Act.put, List.getElem?_toArray, List.getElem?_cons_succ, List.getElem?_cons_zero, Option.bind_some, List.setIfInBounds_toArray, List.set_cons_succ, List.set_cons_zero, Nat.reduceAdd]
                intro u hu E hE
                go_wp2
                exact hE
              simp only [Act.put, List.getElem?_toArray, List.getElem?_cons_succ, List.getElem?_cons_zero, Option.bind_some, List.setIfInBounds_toArray, List.set_cons_succ, List.set_cons_zero, Nat.reduceAdd]
              have HFIN := Lib.hid hfin
              clear hrd HIC HSC hfin
              refine chainP_nil (rest_end (by decide) ?_)
              go_wp2
              go_meet
              exact ⟨_, rfl, rfl, HBK.out.below HFIN.out, row_on HR9.out HFIN.out, HX9.out.below HFIN.out, HDR.out⟩
          · intro E hE
            go_wp2
            have hrd := heap_alloc_new x1 (.cells #[.bool false, .slice none 0 0, .slice none 0 0, .int .i64 0, .int .i64 0, .string ⟨#[]⟩, .slice none 0 0] 71 (0, 0))
            have hbn := (Below.refl x1.heap.size x1).alloc (Nat.le_refl _) (.cells #[.bool false, .slice none 0 0, .slice none 0 0, .int .i64 0, .int .i64 0, .string ⟨#[]⟩, .slice none 0 0] 71 (0, 0))
            have hgl : W1.heap.size ≤ x1.heap.size := hx1.size
            have hx2 := hx1.trans (hbn.mono hx1.size)
            clear hbn
            refine ⟨hx2, ?_⟩
            generalize hGx2 : x1.alloc (.cells #[.bool false, .slice none 0 0, .slice none 0 0, .int .i64 0, .int .i64 0, .string ⟨#[]⟩, .slice none 0 0] 71 (0, 0)) = x2 at *
            clear hGx2
            refine chainP_one ?_
            intro E hE
            go_wp2_with (refine (l17_v _ _).mono ?_; rintro e x3 ⟨rfl, hbn⟩)
            replace hrd := row_on hrd hbn
            have hx3 := hx2.trans (hbn.mono hx2.size)
            clear hbn
            refine ⟨hx3, ?_⟩
            refine chainP_one ?_
            intro E hE
            go_wp2
            have hrw : IsSl (x3.alloc (.cells #[.int .i64 2, .int .i64 ((i : Int) + 1), .string ⟨#[]⟩, .slice none 0 0, .int .i64 T.k, .int .i64 T.n, .string T.s, .slice (some ⟨eb, eo, none⟩) T.args.length tk, .int .i64 1, .int .i64 0, .string ⟨#[]⟩, .slice none 0 0] 49 (0, 0))) AnyB (.slice (some ⟨x3.heap.size, 0, none⟩) 3 3) [intT ((i : Int) + 1), T, varT 0] := row3 (x := intT ((i : Int) + 1)) (z := varT 0) (a := none) (c := 0) (a'' := none) (c'' := 0) (int_is _ _ _) (HBK.out.tm.below hx3).any (var_is _ _ _)
            have hbn := (Below.refl x3.heap.size x3).alloc (Nat.le_refl _) (.cells #[.int .i64 2, .int .i64 ((i : Int) + 1), .string ⟨#[]⟩, .slice none 0 0, .int .i64 T.k, .int .i64 T.n, .string T.s, .slice (some ⟨eb, eo, none⟩) T.args.length tk, .int .i64 1, .int .i64 0, .string ⟨#[]⟩, .slice none 0 0] 49 (0, 0))
            replace hrd := row_on hrd hbn
            have hx4 := hx3.trans (hbn.mono hx3.size)
            clear hbn
            refine ⟨hx4, ?_⟩
            generalize hGx4 : x3.alloc (.cells #[.int .i64 2, .int .i64 ((i : Int) + 1), .string ⟨#[]⟩, .slice none 0 0, .int .i64 T.k, .int .i64 T.n, .string T.s, .slice (some ⟨eb, eo, none⟩) T.args.length tk, .int .i64 1, .int .i64 0, .string ⟨#[]⟩, .slice none 0 0] 49 (0, 0)) = x4 at *
            clear hGx4
            refine chainP_one ?_
            intro E hE
            go_wp2_with (refine (arg_in i T AnyB _ _ _ hrw (by have := HSZ.out.1; omega) HCC.out.1 (HCI.out (i + 1) (by omega)) HK4.out hin X HXX.out).mono ?_; rintro e x5 ⟨va, vt, rfl, hic, hsc, hbn⟩)
            obtain ⟨p1, r1, ea⟩ : ∃ q k, va = .slice q 1 k := hic.firsts
            obtain ⟨p2, r2, eb⟩ : ∃ q k, vt = .slice q 1 k := hsc.form
            subst ea eb
            clear hrw
            have hgl0 := (Array.getElem?_eq_some_iff.1 hrd).1
            have HIC := Lib.hid (hic.ne (g := x1.heap.size) (fun b hb _ => by omega))
            have HSC := Lib.hid (hsc.ne (g := x1.heap.size) (fun b hb _ => by omega))
            clear hgl0
            clear hic hsc
            replace hrd := row_on hrd hbn
            have hx5 := hx4.trans (hbn.mono hx4.size)
            clear hbn
            refine ⟨hx5, ?_⟩
            refine chainP_softv (.tuple #[.agg #[.bool true, .slice p1 1 r1, .slice p2 1 r2, .int .i64 0, .int .i64 0, .string ⟨#[]⟩, .slice none 0 0], .int .i64 0]) (by kernel_rfl) (by kernel_rfl) ?_ ?_
            · simp only [Act.put, List.getElem?_toArray, List.getElem?_cons_succ, List.getElem?_cons_zero, Option.bind_some, List.setIfInBounds_toArray, List.set_cons_succ, List.set_cons_zero, Nat.reduceAdd]
              intro u hu E hE
              go_wp2
              exact hE
            simp only [Act.put, List.getElem?_toArray, List.getElem?_cons_succ, List.getElem?_cons_zero, Option.bind_some, List.setIfInBounds_toArray, List.set_cons_succ, List.set_cons_zero, Nat.reduceAdd]
            refine chainP_softv (.agg #[.bool true, .slice p1 1 r1, .slice p2 1 r2, .int .i64 0, .int .i64 0, .string ⟨#[]⟩, .slice none 0 0]) (by kernel_rfl) (by kernel_rfl) ?_ ?_
            · simp only [Act.put, List.getElem?_toArray, List.getElem?_cons_succ, List.getElem?_cons_zero, Option.bind_some, List.setIfInBounds_toArray, List.set_cons_succ, List.set_cons_zero, Nat.reduceAdd]
              intro u hu E hE
              go_wp2
              exact hE
            simp only [Act.put, List.getElem?_toArray, List.getElem?_cons_succ, List.getElem?_cons_zero, Option.bind_some, List.setIfInBounds_toArray, List.set_cons_succ, List.set_cons_zero, Nat.reduceAdd]
            refine chainP_softv (.int .i64 0) (by kernel_rfl) (by kernel_rfl) ?_ ?_
            · simp only [Act.put, List.getElem?_toArray, List.getElem?_cons_succ, List.getElem?_cons_zero, Option.bind_some, List.setIfInBounds_toArray, List.set_cons_succ, List.set_cons_zero, Nat.reduceAdd]
              intro u hu E hE
              go_wp2
              exact hE
            simp only [Act.put, List.getElem?_toArray, List.getElem?_cons_succ, List.getElem?_cons_zero, Option.bind_some, List.setIfInBounds_toArray, List.set_cons_succ, List.set_cons_zero, Nat.reduceAdd]
            refine chainP_one ?_
            intro E hE
            have HDR := Lib.hid (did_row (f := 2) (ts := [X]) rfl hrd HIC.out HSC.out)
            go_wp2_with (refine wpList_store_row rfl 71 (.tmp 10) (.tmp 179) rfl (x1.heap.size) #[.bool true, .slice p1 1 r1, .slice p2 1 r2, .int .i64 0, .int .i64 0, .string ⟨#[]⟩, .slice none 0 0] rfl rfl _ _ hrd size_did rfl (one7 _ _ _ _ _ _ _) ?_)
            have hfin := below_row (cs := #[.bool true, .slice p1 1 r1, .slice p2 1 r2, .int .i64 0, .int .i64 0, .string ⟨#[]⟩, .slice none 0 0]) hx5 hgl
            refine ⟨hfin, ?_⟩
            refine chainP_softv (.int .i64 0) (by kernel_rfl) (by kernel_rfl) ?_ ?_
            · simp only [Act.put, List.getElem?_toArray, List.getElem?_cons_succ, List.getElem?_cons_zero, Option.bind_some, List.setIfInBounds_toArray, List.set_cons_succ, List.set_cons_zero, Nat.reduceAdd]
              intro u hu E hE
              go_wp2
              exact hE
            simp only [Act.put, List.getElem?_toArray, List.getElem?_cons_succ, List.getElem?_cons_zero, Option.bind_some, List.setIfInBounds_toArray, List.set_cons_succ, List.set_cons_zero, Nat.reduceAdd]
            have HFIN := Lib.hid hfin
            clear hrd HIC HSC hfin
            refine chainP_nil (rest_end (by decide) ?_)
            go_wp2
            go_meet
            exact ⟨_, rfl, rfl, HBK.out.below HFIN.out, row_on HR9.out HFIN.out, HX9.out.below HFIN.out, HDR.out⟩
        · intro E hE
          go_wp2
          have hrd := heap_alloc_new W1 (.cells #[.bool false, .slice none 0 0, .slice none 0 0, .int .i64 0, .int .i64 0, .string ⟨#[]⟩, .slice none 0 0] 71 (0, 0))
          have hbn := (Below.refl W1.heap.size W1).alloc (Nat.le_refl _) (.cells #[.bool false, .slice none 0 0, .slice none 0 0, .int .i64 0, .int .i64 0, .string ⟨#[]⟩, .slice none 0 0] 71 (0, 0))
          have hgl : W1.heap.size ≤ W1.heap.size := hb0.size
          have hx1 := hb0.trans (hbn.mono hb0.size)
          clear hbn
          refine ⟨hx1, ?_⟩
          generalize hGx1 : W1.alloc (.cells #[.bool false, .slice none 0 0, .slice none 0 0, .int .i64 0, .int .i64 0, .string ⟨#[]⟩, .slice none 0 0] 71 (0, 0)) = x1 at *
          clear hGx1
          refine chainP_one ?_
          intro E hE
          go_wp2_with (refine (l17_i _ _).mono ?_; rintro e x2 ⟨rfl, hbn⟩)
          replace hrd := row_on hrd hbn
          have hx2 := hx1.trans (hbn.mono hx1.size)
          clear hbn
          refine ⟨hx2, ?_⟩
          refine chainP_one ?_
          intro E hE
          go_wp2_with (refine (l17_v _ _).mono ?_; rintro e x3 ⟨rfl, hbn⟩)
          replace hrd := row_on hrd hbn
          have hx3 := hx2.trans (hbn.mono hx2.size)
          clear hbn
          refine ⟨hx3, ?_⟩
          refine chainP_one ?_
          intro E hE
          go_wp2
          have hrw : IsSl (x3.alloc (.cells #[.int .i64 2, .int .i64 ((i : Int) + 1), .string ⟨#[]⟩, .slice none 0 0, .int .i64 T.k, .int .i64 T.n, .string T.s, .slice (some ⟨eb, eo, none⟩) T.args.length tk, .int .i64 1, .int .i64 0, .string ⟨#[]⟩, .slice none 0 0] 49 (0, 0))) AnyB (.slice (some ⟨x3.heap.size, 0, none⟩) 3 3) [intT ((i : Int) + 1), T, varT 0] := row3 (x := intT ((i : Int) + 1)) (z := varT 0) (a := none) (c := 0) (a'' := none) (c'' := 0) (int_is _ _ _) (HBK.out.tm.below hx3).any (var_is _ _ _)
          have hbn := (Below.refl x3.heap.size x3).alloc (Nat.le_refl _) (.cells #[.int .i64 2, .int .i64 ((i : Int) + 1), .string ⟨#[]⟩, .slice none 0 0, .int .i64 T.k, .int .i64 T.n, .string T.s, .slice (some ⟨eb, eo, none⟩) T.args.length tk, .int .i64 1, .int .i64 0, .string ⟨#[]⟩, .slice none 0 0] 49 (0, 0))
          replace hrd := row_on hrd hbn
          have hx4 := hx3.trans (hbn.mono hx3.size)
          clear hbn
          refine ⟨hx4, ?_⟩
          generalize hGx4 : x3.alloc (.cells #[.int .i64 2, .int .i64 ((i : Int) + 1), .string ⟨#[]⟩, .slice none 0 0, .int .i64 T.k, .int .i64 T.n, .string T.s, .slice (some ⟨eb, eo, none⟩) T.args.length tk, .int .i64 1, .int .i64 0, .string ⟨#[]⟩, .slice none 0 0] 49 (0, 0)) = x4 at *
          clear hGx4
          refine chainP_one ?_
          intro E hE
          go_wp2_with (refine (arg_in i T AnyB _ _ _ hrw (by have := HSZ.out.1; omega) HCC.out.1 (HCI.out (i + 1) (by omega)) HK4.out hin X HXX.out).mono ?_; rintro e x5 ⟨va, vt, rfl, hic, hsc, hbn⟩)
          obtain ⟨p1, r1, ea⟩ : ∃ q k, va = .slice q 1 k := hic.firsts
          obtain ⟨p2, r2, eb⟩ : ∃ q k, vt = .slice q 1 k := hsc.form
          subst ea eb
          clear hrw
          have hgl0 := (Array.getElem?_eq_some_iff.1 hrd).1
          have HIC := Lib.hid (hic.ne (g := W1.heap.size) (fun b hb _ => by omega))
          have HSC := Lib.hid (hsc.ne (g := W1.heap.size) (fun b hb _ => by omega))
          clear hgl0
          clear hic hsc
          replace hrd := row_on hrd hbn
          have hx5 := hx4.trans (hbn.mono hx4.size)
          clear hbn
          refine ⟨hx5, ?_⟩
          refine chainP_softv (.tuple #[.agg #[.bool true, .slice p1 1 r1, .slice p2 1 r2, .int .i64 0, .int .i64 0, .string ⟨#[]⟩, .slice none 0 0], .int .i64 0]) (by kernel_rfl) (by kernel_rfl) ?_ ?_
          · simp only [Act.put, List.getElem?_toArray, List.getElem?_cons_succ, List.getElem?_cons_zero, Option.bind_some, List.setIfInBounds_toArray, List.set_cons_succ, List.set_cons_zero, Nat.reduceAdd]
            intro u hu E hE
            go_wp2
            exact hE
          simp only [Act.put, List.getElem?_toArray, List.getElem?_cons_succ, List.getElem?_cons_zero, Option.bind_some, List.setIfInBounds_toArray, List.set_cons_succ, List.set_cons_zero, Nat.reduceAdd]
          refine chainP_softv (.agg #[.bool true, .slice p1 1 r1, .slice p2 1 r2, .int .i64 0, .int .i64 0, .string ⟨#[]⟩, .slice none 0 0]) (by kernel_rfl) (by kernel_rfl) ?_ ?_
          · simp only [Act.put, List.getElem?_toArray, List.getElem?_cons_succ, List.getElem?_cons_zero, Option.bind_some, List.setIfInBounds_toArray, List.set_cons_succ, List.set_cons_zero, Nat.reduceAdd]
            intro u hu E hE
            go_wp2
            exact hE
          simp only [Act.put, List.getElem?_toArray, List.getElem?_cons_succ, List.getElem?_cons_zero, Option.bind_some, List.setIfInBounds_toArray, List.set_cons_succ, List.set_cons_zero, Nat.reduceAdd]
          refine chainP_softv (.int .i64 0) (by kernel_rfl) (by kernel_rfl) ?_ ?_
          · simp only [Act.put, List.getElem?_toArray, List.getElem?_cons_succ, List.getElem?_cons_zero, Option.bind_some, List.setIfInBounds_toArray, List.set_cons_succ, List.set_cons_zero, Nat.reduceAdd]
            intro u hu E hE
            go_wp2
            exact hE
          simp only [Act.put, List.getElem?_toArray, List.getElem?_cons_succ, List.getElem?_cons_zero, Option.bind_some, List.setIfInBounds_toArray, List.set_cons_succ, List.set_cons_zero, Nat.reduceAdd]
          refine chainP_one ?_
          intro E hE
          have HDR := Lib.hid (did_row (f := 2) (ts := [X]) rfl hrd HIC.out HSC.out)
          go_wp2_with (refine wpList_store_row rfl 71 (.tmp 10) (.tmp 179) rfl (W1.heap.size) #[.bool true, .slice p1 1 r1, .slice p2 1 r2, .int .i64 0, .int .i64 0, .string ⟨#[]⟩, .slice none 0 0] rfl rfl _ _ hrd size_did rfl (one7 _ _ _ _ _ _ _) ?_)
          have hfin := below_row (cs := #[.bool true, .slice p1 1 r1, .slice p2 1 r2, .int .i64 0, .int .i64 0, .string ⟨#[]⟩, .slice none 0 0]) hx5 hgl
          refine ⟨hfin, ?_⟩
          refine chainP_softv (.int .i64 0) (by kernel_rfl) (by kernel_rfl) ?_ ?_
          · simp only [Act.put, List.getElem?_toArray, List.getElem?_cons_succ, List.getElem?_cons_zero, Option.bind_some, List.setIfInBounds_toArray, List.set_cons_succ, List.set_cons_zero, Nat.reduceAdd]
            intro u hu E hE
            go_wp2
            exact hE
          simp only [Act.put, List.getElem?_toArray, List.getElem?_cons_succ, List.getElem?_cons_zero, Option.bind_some, List.setIfInBounds_toArray, List.set_cons_succ, List.set_cons_zero, Nat.reduceAdd]
          have HFIN := Lib.hid hfin
          clear hrd HIC HSC hfin
          refine chainP_nil (rest_end (by decide) ?_)
          go_wp2
          go_meet
          exact ⟨_, rfl, rfl, HBK.out.below HFIN.out, row_on HR9.out HFIN.out, HX9.out.below HFIN.out, HDR.out⟩
      case rest =>
      obtain ⟨p10, rfl, rfl, hbx⟩ := hcut
      go_upto_region 24 with fail
      refine wp_region_rest (by kernel_rfl) ?_
      replace hbx := hbx.below (Below.refl wc.heap.size wc).drew
      generalize wc.drew = W0 at *
      obtain ⟨dq, dk, dt, dl, dr0, di, ds⟩ := hbx.did2
      have dr : W0.heap[p10]? = some (.cells #[.bool true, .slice dq 1 dk, .slice dt 1 dl, .int .i64 0, .int .i64 0, .string ⟨#[]⟩, .slice none 0 0] 71 (0, 0)) := dr0
      obtain ⟨db, doo, ea, -⟩ := ds.at 0 (by simp)
      subst ea
      obtain ⟨dta, dtc, dx0, dx1, dx2, dx3, dit, dlt⟩ := (ds.atb 0 (by simp)).read
      simp only [List.getElem_cons_zero, Nat.zero_mul, Nat.add_zero] at dx0 dx1 dx2 dx3 dit
      obtain ⟨d0, d1, d2, d3, d4, d5, d6⟩ := row7 dr
      obtain ⟨y0, y1, y2, y3⟩ := row4 hbx.row2
      have HBX := Lib.hid hbx
      have HDT := Lib.hid dit
      clear hbx di ds dr dr0 dit
      refine rest_lineL 0 7 [_, _, _, _, _, _, _] rfl (by kernel_rfl) (by decide) (by decide) (by kernel_rfl) ?_
      go_wp2
      refine then_rest ?_
      refine rest_chainP (fun u => u = W0) 7 13 (.soft 7 (.soft 8 (.soft 9 (.soft 10 (.soft 11 (.soft 12 .nil)))))) (.soft _ (.soft _ (.soft _ (.soft _ (.soft _ (.soft _ .nil)))))) ⟨rfl, ⟨rfl, ⟨rfl, ⟨rfl, ⟨rfl, ⟨rfl, trivial⟩⟩⟩⟩⟩⟩ (by kernel_rfl) (by kernel_rfl) (by kernel_rfl) (by kernel_rfl) (.inr (by kernel_rfl)) rfl ?_
      refine chainP_soft (a1 := ?ma51) (by kernel_rfl) (by kernel_rfl) ?mh51 ?mr51
      case mh51 =>
        intro u hu E hE
        subst hu
        go_wp2
        rfl
      refine chainP_soft (a1 := ?ma52) (by kernel_rfl) (by kernel_rfl) ?mh52 ?mr52
      case mh52 =>
        intro u hu E hE
        subst hu
        go_wp2
        rfl
      refine chainP_soft (a1 := ?ma53) (by kernel_rfl) (by kernel_rfl) ?mh53 ?mr53
      case mh53 =>
        intro u hu E hE
        subst hu
        go_wp2
        rfl
      refine chainP_soft (a1 := ?ma54) (by kernel_rfl) (by kernel_rfl) ?mh54 ?mr54
      case mh54 =>
        intro u hu E hE
        subst hu
        go_wp2
        rfl
      refine chainP_soft (a1 := ?ma55) (by kernel_rfl) (by kernel_rfl) ?mh55 ?mr55
      case mh55 =>
        intro u hu E hE
        subst hu
        go_wp2
        rfl
      refine chainP_soft (a1 := ?ma56) (by kernel_rfl) (by kernel_rfl) ?mh56 ?mr56
      case mh56 =>
        intro u hu E hE
        subst hu
        go_wp2
        rfl
      refine chainP_nil ?_
      refine rest_lineL 13 16 [_, _, _] rfl (by kernel_rfl) (by decide) (by decide) (by kernel_rfl) ?_
      go_wp2_with fail
      refine (ref_same 1000 X X _ _ _ _ _ hxs (by omega) HDT.out HBX.out.tm2).mono ?_
      rintro e wz ⟨rfl, hbz⟩
      rw [HSX.out]
      have hbk := HBX.out.bk.below hbz
      have HRL := Lib.hid (show BkRel T (some ⟨eb, eo, none⟩) tk p3 p4 1 [F, intT m] w (.int .i64 ((i + 1 : Nat) : Int)) wz from ⟨i + 1, by omega, rfl, hbk⟩)
      clear hbz hbk HBX HDT dx0 dx1 dx2 dx3 d0 d1 d2 d3 d4 d5 d6 y0 y1 y2 y3
      go_wp2
      refine then_rest (rest_end (by decide) ?_)
      go_wp2
      go_roundw
      case measure => simp [intOf]; omega
      case rel => first | exact HRL.out | (trace_state; sorry)
    · have b1 : decide ((i : Int) < (T.args.length : Int)) = false := by simp; omega
      have b2 : decide (i < T.args.length) = false := by simpa using hin
      obtain ⟨n9, hn9⟩ : ∃ n9 : Nat, n9 = T.args.length := ⟨_, rfl⟩
      have HN9 := Lib.hid hn9
      have HBK := Lib.hid hbk
      clear hbk hn9
      go_upto_region 27 with fail
      go_cut [5] from 198 to 209 (fun v5 wx => v5 = .int .i64 0 ∧ wx.cell? ⟨p4, 0, none⟩ = some (.bool false) ∧ Below w.heap.size w wx)
      case first =>
        have hbk := HBK.out
        clear HBK
        refine wp_region_rest (by kernel_rfl) ?_
        have hd := (Below.refl wr.heap.size wr).drew
        replace hbk := hbk.below hd
        clear hd
        generalize wr.drew = W1 at *
        obtain ⟨y0, y1, y2, y3⟩ := row4 hbk.row
        have dlr := (Array.getElem?_eq_some_iff.1 hbk.row).1
        obtain ⟨_, _, _, _, hdr, -, -⟩ := hbk.did
        have HDR := Lib.hid hdr
        have HBK := Lib.hid hbk
        clear hbk hdr
        refine rest_chainP (fun u => Below W1.heap.size W1 u) 0 7 (.soft 0 (.soft 1 (.soft 2 (.soft 3 (.soft 5 (.one 4 (.one 6 .nil))))))) (.soft _ (.soft _ (.soft _ (.soft _ (.soft _ (.one _ (.one _ .nil))))))) ⟨rfl, ⟨rfl, ⟨rfl, ⟨rfl, ⟨rfl, ⟨rfl, ⟨rfl, trivial⟩⟩⟩⟩⟩⟩⟩ (by kernel_rfl) (by kernel_rfl) (by kernel_rfl) (by kernel_rfl) (.inr (by kernel_rfl)) (Below.refl _ _) ?_
        have hb0 := Below.refl W1.heap.size W1
        refine chainP_soft (a1 := ?ma57) (by kernel_rfl) (by kernel_rfl) ?mh57 ?mr57
        case mh57 =>
          intro u hu E hE
          go_wp2
          rfl
        refine chainP_soft (a1 := ?ma58) (by kernel_rfl) (by kernel_rfl) ?mh58 ?mr58
        case mh58 =>
          intro u hu E hE
          have c0 := (hu.cell (p := ⟨p3, 3, none⟩) dlr).trans y3
          go_wp2
          rfl
        refine chainP_soft (a1 := ?ma59) (by kernel_rfl) (by kernel_rfl) ?mh59 ?mr59
        case mh59 =>
          intro u hu E hE
          go_wp2
          rfl
        refine chainP_soft (a1 := ?ma60) (by kernel_rfl) (by kernel_rfl) ?mh60 ?mr60
        case mh60 =>
          intro u hu E hE
          go_wp2
          rfl
        refine chainP_soft (a1 := ?ma61) (by kernel_rfl) (by kernel_rfl) ?mh61 ?mr61
        case mh61 =>
          intro u hu E hE
          have c0 := (hu.cell (p := ⟨p3, 0, none⟩) dlr).trans y0
          have c1 := (hu.cell (p := ⟨p3, 1, none⟩) dlr).trans y1
          have c2 := (hu.cell (p := ⟨p3, 2, none⟩) dlr).trans y2
          have c3 := (hu.cell (p := ⟨p3, 3, none⟩) dlr).trans y3
          go_wp2
          rfl
        refine chainP_one ?_
        intro E hE
        go_wp2_with (refine (l17_i _ _).mono ?_; rintro e x1 ⟨rfl, hbn⟩)
        have hx1 := hb0.trans (hbn.mono hb0.size)
        clear hbn
        refine ⟨hx1, ?_⟩
        refine chainP_one ?_
        intro E hE
        go_wp2_with (refine (l17_v _ _).mono ?_; rintro e x2 ⟨rfl, hbn⟩)
        have hx2 := hx1.trans (hbn.mono hx1.size)
        clear hbn
        refine ⟨hx2, ?_⟩
        clear y0 y1 y2 y3 dlr
        refine chainP_nil ?_
        refine rest_lineL 7 9 [_, _] rfl (by kernel_rfl) (by decide) (by decide) (by kernel_rfl) ?_
        go_wp2_with fail
        have hal := (Below.refl x2.heap.size x2).alloc (Nat.le_refl _) (.cells #[.int .i64 2, .int .i64 ((T.args.length : Int) + 1), .string ⟨#[]⟩, .slice none 0 0, .int .i64 T.k, .int .i64 T.n, .string T.s, .slice tb T.args.length tk, .int .i64 1, .int .i64 0, .string ⟨#[]⟩, .slice none 0 0] 49 (0, 0))
        have hrw : IsSl (x2.alloc (.cells #[.int .i64 2, .int .i64 ((T.args.length : Int) + 1), .string ⟨#[]⟩, .slice none 0 0, .int .i64 T.k, .int .i64 T.n, .string T.s, .slice tb T.args.length tk, .int .i64 1, .int .i64 0, .string ⟨#[]⟩, .slice none 0 0] 49 (0, 0))) AnyB (.slice (some ⟨x2.heap.size, 0, none⟩) 3 3) [intT ((T.args.length : Int) + 1), T, varT 0] := row3 (x := intT ((T.args.length : Int) + 1)) (z := varT 0) (a := none) (c := 0) (a'' := none) (c'' := 0) (int_is _ _ _) (HBK.out.tm.below hx2).any (var_is _ _ _)
        refine (arg_out T.args.length T AnyB _ _ _ hrw (by have := HSZ.out.1; omega) HCC.out.1 (HCI.out (T.args.length + 1) (by omega)) HKT.out rfl).mono ?_
        rintro e x9 ⟨k5, n5, s5, q5, m5, c5, rfl, hb9⟩
        have hx9 := hx2.trans ((hal.trans (hb9.mono hal.size)).mono hx2.size)
        have hrd := row_on HDR.out hx9
        have hb9k := HBK.out.below hx9
        have HB9K := Lib.hid (And.intro hb9k.bel (And.intro hb9k.lo hb9k.hi))
        clear hb9 hal hrw hx9 hb9k HDR HBK
        go_wp2
        refine then_rest ?_
        refine rest_chainP (fun _ => True) 9 13 (.soft 9 (.soft 10 (.soft 11 (.one 12 .nil)))) (.soft _ (.soft _ (.soft _ (.one _ .nil)))) ⟨rfl, ⟨rfl, ⟨rfl, ⟨rfl, trivial⟩⟩⟩⟩ (by kernel_rfl) (by kernel_rfl) (by kernel_rfl) (by kernel_rfl) (.inr (by kernel_rfl)) trivial ?_
        refine chainP_softv (.tuple #[.agg #[.bool false, .slice none 0 0, .slice none 0 0, .int .i64 k5, .int .i64 n5, .string s5, .slice q5 m5 c5], .int .i64 0]) (by kernel_rfl) (by kernel_rfl) ?_ ?_
        · simp only [Act.put, List.getElem?_toArray, List.getElem?_cons_succ, List.getElem?_cons_zero, Option.bind_some, List.setIfInBounds_toArray, List.set_cons_succ, List.set_cons_zero, Nat.reduceAdd]
          intro u hu E hE
          go_wp2
          exact hE
        simp only [Act.put, List.getElem?_toArray, List.getElem?_cons_succ, List.getElem?_cons_zero, Option.bind_some, List.setIfInBounds_toArray, List.set_cons_succ, List.set_cons_zero, Nat.reduceAdd]
        refine chainP_softv (.agg #[.bool false, .slice none 0 0, .slice none 0 0, .int .i64 k5, .int .i64 n5, .string s5, .slice q5 m5 c5]) (by kernel_rfl) (by kernel_rfl) ?_ ?_
        · simp only [Act.put, List.getElem?_toArray, List.getElem?_cons_succ, List.getElem?_cons_zero, Option.bind_some, List.setIfInBounds_toArray, List.set_cons_succ, List.set_cons_zero, Nat.reduceAdd]
          intro u hu E hE
          go_wp2
          exact hE
        simp only [Act.put, List.getElem?_toArray, List.getElem?_cons_succ, List.getElem?_cons_zero, Option.bind_some, List.setIfInBounds_toArray, List.set_cons_succ, List.set_cons_zero, Nat.reduceAdd]
        refine chainP_softv (.int .i64 0) (by kernel_rfl) (by kernel_rfl) ?_ ?_
        · simp only [Act.put, List.getElem?_toArray, List.getElem?_cons_succ, List.getElem?_cons_zero, Option.bind_some, List.setIfInBounds_toArray, List.set_cons_succ, List.set_cons_zero, Nat.reduceAdd]
          intro u hu E hE
          go_wp2
          exact hE
        simp only [Act.put, List.getElem?_toArray, List.getElem?_cons_succ, List.getElem?_cons_zero, Option.bind_some, List.setIfInBounds_toArray, List.set_cons_succ, List.set_cons_zero, Nat.reduceAdd]
        refine chainP_one ?_
        intro E hE
        have HDR := Lib.hid (setRow_heap x9 p4 _ (#[.bool false, .slice none 0 0, .slice none 0 0, .int .i64 k5, .int .i64 n5, .string s5, .slice q5 m5 c5] : Array Value) _ _ hrd)
        go_wp2_with (refine wpList_store_row rfl 71 (.tmp 4) (.tmp 208) rfl p4 #[.bool false, .slice none 0 0, .slice none 0 0, .int .i64 k5, .int .i64 n5, .string s5, .slice q5 m5 c5] rfl rfl _ _ hrd size_did rfl (by simp [Value.oneCell']) ?_)
        refine chainP_nil ?_
        refine rest_lineL 13 14 [_] rfl (by kernel_rfl) (by decide) (by decide) (by kernel_rfl) ?_
        go_wp2
        refine then_rest (rest_end (by decide) ?_)
        go_wp2
        go_meet
        exact ⟨rfl, cell_of_row _ _ 0 _ _ _ HDR.out, below_row HB9K.out.1 (by have := HB9K.out.2; omega)⟩
      case rest =>
      obtain ⟨rfl, hce, hbe⟩ := hcut
      have HBE := Lib.hid hbe
      clear hbe
      go_wp2
      go_ret
      exact ⟨rfl, HBE.out⟩
mutual
theorem same_refl : ∀ t : Tm, sameT t t = true
  | .mk k n s a => by simp [sameT, same_reflL a]
theorem same_reflL : ∀ l : List Tm, sameL l l = true
  | [] => by simp [sameL]
  | t :: l => by simp [sameL, same_refl t, same_reflL l]
end
theorem may_list (e : Tm) (he : mayT e = true) : ∀ ts : List Tm, (∀ t ∈ ts, mayT t = true) → mayT (listT ts e) = true
  | [], _ => by simpa [listT] using he
  | t :: ts, h => by
    have h1 := h t (List.mem_cons_self ..)
    have h2 := may_list e he ts fun t ht => h t (List.mem_cons_of_mem _ ht)
    simp only [listT, compT, mayT, mayTL, h1, h2, Bool.and_true, Bool.and_eq_true, and_true]
    show mayB 4 0 dotS 2 = true
    decide
theorem may_nil : mayT nilT = true := by decide +kernel
theorem may_parts {t : Tm} (h : mayT t = true) : (t.k = 4 → t.n = 0 ∧ 1 ≤ t.args.length ∧ t.args.length ≤ 255) ∧ (t.k = 2 ∨ t.k = 3 → t.args = []) := by
  obtain ⟨k, n, s, a⟩ := t
  simp only [mayT, Bool.and_eq_true] at h
  refine ⟨fun h4 => ?_, fun h23 => ?_⟩
  · have h4' : k = 4 := h4
    subst h4'
    have := h.1
    simp only [mayB] at this
    simp at this
    exact ⟨this.1, this.2.2.1, this.2.2.2⟩
  · have hl : a.length = 0 := by
      rcases h23 with h2 | h2
      · have h2' : k = 2 := h2
        subst h2'
        have := h.1
        simp only [mayB] at this
        simp at this
        exact by simpa using this.2
      · have h2' : k = 3 := h2
        subst h2'
        have := h.1
        simp only [mayB] at this
        simp at this
        simpa using this.2.2
    exact List.eq_nil_of_length_eq_zero hl
theorem ck_int (i : Nat) : checkT (intT i) = 0 := check_zero (by simp [intT, mayT, mayB, mayTL]) (by simp [intT, Tm.size, sizeL])
set_option maxRecDepth 100000 in
theorem law_back (L : List Pt) (v1 : Value) (w : World) (h1 : PtSl w v1 L) : Calls Try.prog 7 #[v1] w (Says true w) := by
  by_cases g1 : 60 < L.length
  · obtain ⟨a1, c1, rfl, hc1, hm1⟩ := h1.form
    have H1 := Lib.hid h1
    clear h1
    have d1 : decide (60 < (L.length : Int)) = true := by simp; omega
    go_enter Try.func7, Try.ntmps7
    go_wp2_with (first
      | (go_at_call 27; refine (l17_alive _).mono ?_; rintro e1 w1 ⟨rfl, hb1⟩; have HB := Lib.hid hb1; clear hb1)
      | (refine (ref_great L _ _ (H1.out.below HB.out)).mono ?_; rintro e2 w2 ⟨rfl, rfl⟩))
    go_ret
    exact ⟨rfl, HB.out⟩
  have hmay := good_may L
  have hck := good_check17 L (by omega)
  have hgs : (goodT L).size ≤ 500 := by have := goodT_size L; omega
  obtain ⟨hp4, hp23⟩ := may_parts hmay
  have hrefl : ∀ x : Tm, sameT x x = true := same_refl
  rcases may_kind hmay with hk | hk | hk | hk
  · obtain ⟨a1, c1, rfl, hc1, hm1⟩ := h1.form
    have H1 := Lib.hid h1
    have HK := Lib.hid hk
    clear h1 hmay hck hgs hp4 hp23 hrefl hk
    have d1 : decide (60 < (L.length : Int)) = false := by simp; omega
    go_enter Try.func7, Try.ntmps7
    go_wp2_with fail
    refine (l17_alive _).mono ?_
    rintro e1 w1 ⟨rfl, hb1⟩
    have HB := Lib.hid hb1
    clear hb1
    go_wp2_with fail
    refine (ref_great L _ _ (H1.out.below HB.out)).mono ?_
    rintro e2 w2 ⟨rfl, rfl⟩
    go_wp2_with fail
    refine (ref_good L _ _ (by omega) (H1.out.below HB.out)).mono ?_
    rintro e3 w3 ⟨v3, rfl, hi3, hb3⟩
    obtain ⟨tb, tk, rfl⟩ := hi3.form
    rw [HK.out]
    have HBF := Lib.hid (HB.out.trans ((hb3.trans ((Below.refl w3.heap.size w3).alloc (Nat.le_refl _) (.cells #[.int .i64 1, .int .i64 (goodT L).n, .string (goodT L).s, .slice tb (goodT L).args.length tk] 49 (0, 0)) |>.mono hb3.size)).mono HB.out.size))
    clear hi3 hb3 HB H1
    go_wp2
    go_ret
    exact ⟨rfl, HBF.out⟩
  · have ha := hp23 (.inl hk)
    exact law_back0 (goodT L) (listT [goodT L] nilT) (goodT L) (goodT L) 0 L v1 w h1 (by omega) rfl (by rw [hk]; decide) (by rw [ha]; rfl) hck (check_zero (may_list _ may_nil _ (by simpa using hmay)) (by have := listT_size nilT [goodT L]; simp only [sizeL, nilT, atomT, Tm.size, List.length_cons, List.length_nil] at this ⊢; omega)) hck (fun i _ => ck_int i) (by omega) (by have := listT_size nilT [goodT L]; simp only [sizeL, nilT, atomT, Tm.size, List.length_cons, List.length_nil] at this ⊢; omega) (by omega) (hrefl _) (fun x _ => hrefl x)
      (.inr (.inl ⟨.inl hk, rfl, rfl⟩)) (.inr (.inr (.inl ⟨goodT L, rfl, rfl, .inl hk, rfl, rfl⟩))) (.inr (.inl ⟨.inl hk, rfl, rfl⟩)) (.inr (.inr (.inl ⟨rfl, .inl hk, rfl, rfl, rfl, rfl⟩))) rfl (by rw [ha]; rfl) (fun _ => rfl)
  · have ha := hp23 (.inr hk)
    exact law_back0 (goodT L) (listT [goodT L] nilT) (goodT L) (goodT L) 0 L v1 w h1 (by omega) rfl (by rw [hk]; decide) (by rw [ha]; rfl) hck (check_zero (may_list _ may_nil _ (by simpa using hmay)) (by have := listT_size nilT [goodT L]; simp only [sizeL, nilT, atomT, Tm.size, List.length_cons, List.length_nil] at this ⊢; omega)) hck (fun i _ => ck_int i) (by omega) (by have := listT_size nilT [goodT L]; simp only [sizeL, nilT, atomT, Tm.size, List.length_cons, List.length_nil] at this ⊢; omega) (by omega) (hrefl _) (fun x _ => hrefl x)
      (.inr (.inl ⟨.inr hk, rfl, rfl⟩)) (.inr (.inr (.inl ⟨goodT L, rfl, rfl, .inr hk, rfl, rfl⟩))) (.inr (.inl ⟨.inr hk, rfl, rfl⟩)) (.inr (.inr (.inl ⟨rfl, .inr hk, rfl, rfl, rfl, rfl⟩))) rfl (by rw [ha]; rfl) (fun _ => rfl)
  · obtain ⟨hn, hl1, hl2⟩ := hp4 hk
    have hs1 := may_s hmay hk
    have hT : goodT L = compT (goodT L).s (goodT L).args := by
      generalize goodT L = T at *
      obtain ⟨k, n, s, a⟩ := T
      have h4 : k = 4 := hk
      have h0 : n = 0 := hn
      subst h4 h0
      rfl
    have hcfm : mayT (atomT (goodT L).s) = true := by simp [atomT, mayT, mayB, mayTL, hs1]
    have hss : sizeL (goodT L).args + 1 = (goodT L).size := by generalize goodT L = T; obtain ⟨k1, n1, s1, a1⟩ := T; simp [Tm.size, Tm.args]
    have hll := len_le (goodT L).args
    have hsz := listT_size nilT (atomT (goodT L).s :: (goodT L).args)
    simp only [sizeL, nilT, atomT, Tm.size, List.length_cons] at hsz
    refine law_back0 (goodT L) (listT (atomT (goodT L).s :: (goodT L).args) nilT) (atomT (goodT L).s) (compT (goodT L).s (newV (goodT L).args.length)) (goodT L).args.length L v1 w h1 (by omega) rfl (by rw [hk]; decide) rfl hck (check_zero (may_list _ may_nil _ ?_) (by simp only [nilT, atomT]; omega)) (check_zero hcfm (by simp [atomT, Tm.size, sizeL])) (fun i _ => ck_int i) (by omega) (by simp only [nilT, atomT]; omega) (by simp [atomT, Tm.size, sizeL]) (hrefl _) (fun x _ => hrefl x)
      (.inl ⟨hk, hl1, rfl, rfl⟩) (.inr (.inr (.inr ⟨atomT (goodT L).s, (goodT L).args, rfl, rfl, rfl, hl1, hl2, rfl, ?_⟩))) (.inl ⟨hk, rfl, rfl⟩) (.inr (.inr (.inr ⟨(goodT L).args.length, rfl, rfl, rfl, rfl, hl1, hl2, rfl, rfl⟩))) rfl (newV_len _) (fun h => absurd hk h)
    · intro t ht
      rcases List.mem_cons.1 ht with rfl | ht
      · exact hcfm
      · exact may_arg hmay ht
    · exact congrArg (fun t => [t]) hT
end Go.Proofs.Ytkhchmgdaolojaa.Tms

