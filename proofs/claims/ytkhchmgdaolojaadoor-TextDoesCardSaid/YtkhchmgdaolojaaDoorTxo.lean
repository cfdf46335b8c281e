
/-
  The statements of layer 16: a, v, alive, walked over the program.
-/
import Derived.Test.YtkhchmgdaolojaaDoorTxn
import Derived.Test.YtkhchmgdaolojaaDoorRls
import Derived.Handy
namespace Go.Proofs.YtkhchmgdaolojaaDoor.Tms
open Go Go.RowKit Go.Proofs.YtkhchmgdaolojaaDoor.Reg Go.Proofs.YtkhchmgdaolojaaDoor.Rws Go.Proofs.YtkhchmgdaolojaaDoor.Maps Go.Instr
set_option linter.unusedVariables false
set_option linter.unusedSimpArgs false

theorem l16_v (n : Int) (w : World) : Calls Tryd.prog 17 #[.int .i64 n] w fun e w' => e = .returned (varV n) ∧ Below w.heap.size w w' := by
  go_enter Tryd.func17, Tryd.ntmps17
  go_wp2
  exact bodyPost_ret (v := varV n) (by simp [results, Tryd.results17, go_sem]) rfl ⟨rfl, (Below.refl _ _).alloc (Nat.le_refl _) _⟩
theorem l16_a (s : ByteArray) (w : World) : Calls Tryd.prog 16 #[.string s] w fun e w' => e = .returned (atomV s) ∧ Below w.heap.size w w' := by
  go_enter Tryd.func16, Tryd.ntmps16
  go_wp2
  exact bodyPost_ret (v := atomV s) (by simp [results, Tryd.results16, go_sem]) rfl ⟨rfl, (Below.refl _ _).alloc (Nat.le_refl _) _⟩
/-- an argument made one, in a variable of the law's -/
def DIs (f : Int) (t : Tm) (g : Nat) (W : World) : Prop := ∃ q k q' k', W.heap[g]? = some (.cells #[.bool true, .slice q 1 k, .slice q' 1 k', .int .i64 0, .int .i64 0, .string ⟨#[]⟩, .slice none 0 0] 35 (0, 0)) ∧ IntSl W AnyB (.slice q 1 k) [f] ∧ IsSl W (fun b => b ≠ g) (.slice q' 1 k') [t]
theorem DIs.below {f : Int} {t : Tm} {g : Nat} {w w' : World} (h : DIs f t g w) (hb : Below w.heap.size w w') : DIs f t g w' :=
  let ⟨q, k, q', k', h1, h2, h3⟩ := h; ⟨q, k, q', k', row_on h1 hb, h2.below hb, h3.below hb⟩
theorem DoP.is {f : Int} {t : Tm} {P : Nat → Prop} {w w' : World} {e : Ending} (h : DoP (.is f t) P w e w') : ∃ q k q' k', e = .returned (.tuple #[.agg #[.bool true, .slice q 1 k, .slice q' 1 k', .int .i64 0, .int .i64 0, .string ⟨#[]⟩, .slice none 0 0], .int .i64 0]) ∧ IntSl w' (fun b => P b ∧ b < w.heap.size ∨ w.heap.size + 1 ≤ b) (.slice q 1 k) [f] ∧ IsSl w' (fun b => P b ∧ b < w.heap.size ∨ w.heap.size + 1 ≤ b) (.slice q' 1 k') [t] ∧ Below w.heap.size w w' := by
  obtain ⟨v, rfl, ⟨q, k, q', k', rfl, h1, h2⟩, hb⟩ := h
  exact ⟨q, k, q', k', rfl, h1, h2, hb⟩
theorem IntSl.any16 {w : World} {P : Nat → Prop} {v : Value} {L : List Int} (h : IntSl w P v L) : IntSl w AnyB v L := let ⟨a, c, e, h1, h2, h3⟩ := h; ⟨a, c, e, h1, h2, fun i hi => let ⟨b, o, e1, _, hl, hc⟩ := h3 i hi; ⟨b, o, e1, trivial, hl, hc⟩⟩
theorem IntSl.ne16 {w : World} {P : Nat → Prop} {g : Nat} {v : Value} {L : List Int} (h : IntSl w P v L) (hp : ∀ b, P b → b < w.heap.size → b ≠ g) : IntSl w (fun b => b ≠ g) v L := let ⟨a, c, e, h1, h2, h3⟩ := h; ⟨a, c, e, h1, h2, fun i hi => let ⟨b, o, e1, hq, hl, hc⟩ := h3 i hi; ⟨b, o, e1, hp b hq hl, hl, hc⟩⟩
theorem IsSl.ne16 {w : World} {P : Nat → Prop} {g : Nat} {v : Value} {ts : List Tm} (h : IsSl w P v ts) (hp : ∀ b, P b → b < w.heap.size → b ≠ g) : IsSl w (fun b => b ≠ g) v ts := h.lt2.imp (fun b hb => hp b hb.1 hb.2) fun _ _ _ => rfl
/-- Do's answer in a new variable -/
theorem dis_new {f : Int} {t : Tm} {P P' : Nat → Prop} {w : World} {q q' : Option Addr} {k k' : Nat} (h1 : IntSl w P (.slice q 1 k) [f]) (h2 : IsSl w P' (.slice q' 1 k') [t]) : DIs f t w.heap.size (w.alloc (.cells #[.bool true, .slice q 1 k, .slice q' 1 k', .int .i64 0, .int .i64 0, .string ⟨#[]⟩, .slice none 0 0] 35 (0, 0))) := by
  have hb := (Below.refl w.heap.size w).alloc (Nat.le_refl _) (.cells #[.bool true, .slice q 1 k, .slice q' 1 k', .int .i64 0, .int .i64 0, .string ⟨#[]⟩, .slice none 0 0] 35 (0, 0))
  exact ⟨q, k, q', k', heap_alloc_new w _, (h1.below hb).any16, (h2.ne16 (g := w.heap.size) (fun b _ hl => by omega)).below hb⟩
/-- Do's answer, stored in a variable that was there -/
theorem dis_store {f : Int} {t : Tm} {g : Nat} {w : World} {q q' : Option Addr} {k k' : Nat} {cs : Array Value} (hr : w.heap[g]? = some (.cells cs 35 (0, 0))) (h1 : IntSl w (fun b => b ≠ g) (.slice q 1 k) [f]) (h2 : IsSl w (fun b => b ≠ g) (.slice q' 1 k') [t]) :
    DIs f t g (w.setRow g #[.bool true, .slice q 1 k, .slice q' 1 k', .int .i64 0, .int .i64 0, .string ⟨#[]⟩, .slice none 0 0]) :=
  ⟨q, k, q', k', setRow_heap w g _ _ _ _ hr, (h1.imp (fun _ h => h) (by simp) (fun b hb _ => setRow_other _ _ _ _ hb)).any16, h2.imp (fun _ h => h) fun b hb _ => setRow_other _ _ _ _ hb⟩
theorem DIs.open {f : Int} {t : Tm} {g : Nat} {w : World} (h : DIs f t g w) : ∃ ib io k tb oo k' ta tc, w.heap[g]? = some (.cells #[.bool true, .slice (some ⟨ib, io, none⟩) 1 k, .slice (some ⟨tb, oo, none⟩) 1 k', .int .i64 0, .int .i64 0, .string ⟨#[]⟩, .slice none 0 0] 35 (0, 0)) ∧ ib < w.heap.size ∧ w.cell? ⟨ib, io, none⟩ = some (.int .i64 f) ∧
    w.cell? ⟨tb, oo, none⟩ = some (.int .i64 t.k) ∧ w.cell? ⟨tb, oo + 1, none⟩ = some (.int .i64 t.n) ∧ w.cell? ⟨tb, oo + 2, none⟩ = some (.string t.s) ∧ w.cell? ⟨tb, oo + 3, none⟩ = some (.slice ta t.args.length tc) ∧ IsTm w (fun b => b ≠ g) (.agg #[.int .i64 t.k, .int .i64 t.n, .string t.s, .slice ta t.args.length tc]) t ∧ tb < w.heap.size := by
  obtain ⟨q, k, q', k', h1, ⟨a, c, e, -, -, h2⟩, h3⟩ := h
  obtain ⟨ib, io, ea, -, hl, hc⟩ := h2 0 (by simp)
  simp only [Value.slice.injEq] at e
  obtain ⟨rfl, -, -⟩ := e
  subst ea
  obtain ⟨tb, oo, eb, -⟩ := h3.at 0 (by simp)
  subst eb
  obtain ⟨ta, tc, x0, x1, x2, x3, it, lt⟩ := (h3.atb 0 (by simp)).read
  simp only [List.getElem_cons_zero, Nat.zero_mul, Nat.add_zero] at x0 x1 x2 x3 it
  exact ⟨ib, io, k, tb, oo, k', ta, tc, h1, hl, by simpa using hc, x0, x1, x2, x3, it, lt⟩
theorem row2P {w : World} {P : Nat → Prop} {x y : Tm} {a a' : Option Addr} {c c' : Nat} (hx : IsTm w P (.agg #[.int .i64 x.k, .int .i64 x.n, .string x.s, .slice a x.args.length c]) x) (hy : IsTm w P (.agg #[.int .i64 y.k, .int .i64 y.n, .string y.s, .slice a' y.args.length c']) y) (hP : P w.heap.size) :
    IsSl (w.alloc (.cells #[.int .i64 x.k, .int .i64 x.n, .string x.s, .slice a x.args.length c, .int .i64 y.k, .int .i64 y.n, .string y.s, .slice a' y.args.length c'] 28 (0, 0))) P (.slice (some ⟨w.heap.size, 0, none⟩) 2 2) [x, y] := by
  have hb : Below w.heap.size w (w.alloc (.cells #[.int .i64 x.k, .int .i64 x.n, .string x.s, .slice a x.args.length c, .int .i64 y.k, .int .i64 y.n, .string y.s, .slice a' y.args.length c'] 28 (0, 0))) := (Below.refl _ _).alloc (Nat.le_refl _) _
  have h := heap_alloc_new w (.cells #[.int .i64 x.k, .int .i64 x.n, .string x.s, .slice a x.args.length c, .int .i64 y.k, .int .i64 y.n, .string y.s, .slice a' y.args.length c'] 28 (0, 0))
  exact sl_of_cells (cs := [.int .i64 x.k, .int .i64 x.n, .string x.s, .slice a x.args.length c, .int .i64 y.k, .int .i64 y.n, .string y.s, .slice a' y.args.length c']) h (CellsOf.cons (hx.below hb) (CellsOf.cons (hy.below hb) trivial)) rfl hP
theorem l16_len : lengthD (atomT (⟨#[97, 98, 99]⟩ : ByteArray)) (varT 0) = .is 1 (intT 3) := rfl
theorem l16_chars : spellD false (varT 0) (listT [atomT (⟨#[97]⟩ : ByteArray), atomT (⟨#[98]⟩ : ByteArray)] nilT) = .is 0 (atomT (⟨#[97, 98]⟩ : ByteArray)) := by kernel_rfl
theorem l16_ck : checkT (listT [atomT (⟨#[97]⟩ : ByteArray), atomT (⟨#[98]⟩ : ByteArray)] nilT) = 0 := by decide +kernel
set_option maxRecDepth 100000 in
set_option maxHeartbeats 4000000 in
theorem l16_alive (w : World) (ht : Num.Tab w) : Calls Tryd.prog 7 #[] w (Says true w) := by
  have HTB := Lib.hid ht
  clear ht
  go_enter Tryd.func7, Tryd.ntmps7
  go_wp2_with fail
  refine (l16_a _ _).mono ?_
  rintro e w1 ⟨rfl, hb1⟩
  have HB1 := Lib.hid hb1
  clear hb1
  go_wp2_with fail
  refine (l16_v _ _).mono ?_
  rintro e w2 ⟨rfl, hb2⟩
  have HB2 := Lib.hid (HB1.out.trans (hb2.mono HB1.out.size))
  clear hb2
  go_wp2_with fail
  have ha3 : Below w2.heap.size w2 (w2.alloc (.cells #[.int .i64 3, .int .i64 0, .string (⟨#[97, 98, 99]⟩ : ByteArray), .slice none 0 0, .int .i64 1, .int .i64 0, .string ⟨#[]⟩, .slice none 0 0] 28 (0, 0))) := (Below.refl _ _).alloc (Nat.le_refl _) _
  have hr3 : IsSl (w2.alloc (.cells #[.int .i64 3, .int .i64 0, .string (⟨#[97, 98, 99]⟩ : ByteArray), .slice none 0 0, .int .i64 1, .int .i64 0, .string ⟨#[]⟩, .slice none 0 0] 28 (0, 0))) AnyB (.slice (some ⟨w2.heap.size, 0, none⟩) 2 2) [atomT (⟨#[97, 98, 99]⟩ : ByteArray), varT 0] := row2 (x := atomT (⟨#[97, 98, 99]⟩ : ByteArray)) (y := varT 0) (a := none) (a' := none) (c := 0) (c' := 0) (atom_is _ _ _) (var_is _ _ _)
  generalize (w2.alloc (.cells #[.int .i64 3, .int .i64 0, .string (⟨#[97, 98, 99]⟩ : ByteArray), .slice none 0 0, .int .i64 1, .int .i64 0, .string ⟨#[]⟩, .slice none 0 0] 28 (0, 0))) = u3 at *
  have HB3 := Lib.hid (HB2.out.trans (ha3.mono HB2.out.size))
  clear ha3
  refine (tx_Do_length [atomT (⟨#[97, 98, 99]⟩ : ByteArray), varT 0] (atomT (⟨#[97, 98, 99]⟩ : ByteArray)) (varT 0) AnyB u3 _ _ hr3 rfl (by intro t ht; simp only [List.mem_cons, List.not_mem_nil, or_false] at ht; rcases ht with rfl | rfl; (· exact ⟨by decide, by decide +kernel⟩); (· exact ⟨by decide, by decide +kernel⟩)) (by decide) (by decide) (by decide) (by decide) (HTB.out.on HB3.out)).mono ?_
  rintro e w4 hd
  rw [l16_len] at hd
  obtain ⟨q1, k1, q2, k2, rfl, hi, hs, hb4⟩ := hd.is
  have HB4 := Lib.hid (HB3.out.trans (hb4.mono HB3.out.size))
  have hds := dis_new hi hs
  have ha5 := (Below.refl w4.heap.size w4).alloc (Nat.le_refl _) (.cells #[.bool true, .slice q1 1 k1, .slice q2 1 k2, .int .i64 0, .int .i64 0, .string ⟨#[]⟩, .slice none 0 0] 35 (0, 0))
  have HD1 := Lib.hid hds
  have HB5 := Lib.hid (HB4.out.trans (ha5.mono HB4.out.size))
  clear hi hs hb4 hds ha5 hd hr3
  go_wp2_with fail
  generalize w4.alloc (.cells #[.bool true, .slice q1 1 k1, .slice q2 1 k2, .int .i64 0, .int .i64 0, .string ⟨#[]⟩, .slice none 0 0] 35 (0, 0)) = u5 at *
  obtain ⟨g1, hg1⟩ : ∃ g, g = w4.heap.size := ⟨_, rfl⟩
  rw [← hg1] at HD1 ⊢
  clear hg1
  refine (l16_a _ _).mono ?_
  rintro e w6 ⟨rfl, hb6⟩
  have HB6 := Lib.hid (HB5.out.trans (hb6.mono HB5.out.size))
  have HD6 := Lib.hid (HD1.out.below hb6)
  clear hb6 HD1
  go_wp2_with fail
  refine (l16_a _ _).mono ?_
  rintro e w7 ⟨rfl, hb7⟩
  have HB7 := Lib.hid (HB6.out.trans (hb7.mono HB6.out.size))
  have HD7 := Lib.hid (HD6.out.below hb7)
  clear hb7 HD6
  go_wp2_with fail
  have ha8 : Below w7.heap.size w7 (w7.alloc (.cells #[.int .i64 3, .int .i64 0, .string (⟨#[97]⟩ : ByteArray), .slice none 0 0, .int .i64 3, .int .i64 0, .string (⟨#[98]⟩ : ByteArray), .slice none 0 0] 28 (0, 0))) := (Below.refl _ _).alloc (Nat.le_refl _) _
  have hr8 : IsSl (w7.alloc (.cells #[.int .i64 3, .int .i64 0, .string (⟨#[97]⟩ : ByteArray), .slice none 0 0, .int .i64 3, .int .i64 0, .string (⟨#[98]⟩ : ByteArray), .slice none 0 0] 28 (0, 0))) AnyB (.slice (some ⟨w7.heap.size, 0, none⟩) 2 2) [atomT (⟨#[97]⟩ : ByteArray), atomT (⟨#[98]⟩ : ByteArray)] := row2 (x := atomT (⟨#[97]⟩ : ByteArray)) (y := atomT (⟨#[98]⟩ : ByteArray)) (a := none) (a' := none) (c := 0) (c' := 0) (atom_is _ _ _) (atom_is _ _ _)
  generalize (w7.alloc (.cells #[.int .i64 3, .int .i64 0, .string (⟨#[97]⟩ : ByteArray), .slice none 0 0, .int .i64 3, .int .i64 0, .string (⟨#[98]⟩ : ByteArray), .slice none 0 0] 28 (0, 0))) = u8 at *
  have HB8 := Lib.hid (HB7.out.trans (ha8.mono HB7.out.size))
  have HD8 := Lib.hid (HD7.out.below ha8)
  clear ha8 HD7
  refine (l16_a _ _).mono ?_
  rintro e w9 ⟨rfl, hb9⟩
  have HB9 := Lib.hid (HB8.out.trans (hb9.mono HB8.out.size))
  have HD9 := Lib.hid (HD8.out.below hb9)
  have HR9 := Lib.hid (hr8.below hb9)
  clear hb9 HD8 hr8
  go_wp2_with fail
  refine (ref_List [atomT (⟨#[97]⟩ : ByteArray), atomT (⟨#[98]⟩ : ByteArray)] nilT _ _ AnyB AnyB _ (by decide) HR9.out (atom_is _ _ _)).mono ?_
  rintro e w10 ⟨v10, rfl, hi10, hb10⟩
  obtain ⟨la, lc, e1⟩ := hi10.form
  have e1' : v10 = .agg #[.int .i64 4, .int .i64 0, .string ⟨#[46]⟩, .slice la 2 lc] := e1
  clear e1
  subst e1'
  have ha11 := (Below.refl w10.heap.size w10).alloc (Nat.le_refl _) (.cells #[.int .i64 4, .int .i64 0, .string ⟨#[46]⟩, .slice la 2 lc] 28 (0, 0))
  have hd11 := (Below.refl (w10.alloc (.cells #[.int .i64 4, .int .i64 0, .string ⟨#[46]⟩, .slice la 2 lc] 28 (0, 0))).heap.size (w10.alloc (.cells #[.int .i64 4, .int .i64 0, .string ⟨#[46]⟩, .slice la 2 lc] 28 (0, 0)))).drew
  have hb11 := ha11.trans (hd11.mono ha11.size)
  have HR11 := Lib.hid (row_on (heap_alloc_new w10 (.cells #[.int .i64 4, .int .i64 0, .string ⟨#[46]⟩, .slice la 2 lc] 28 (0, 0))) hd11)
  have HI11 := Lib.hid (hi10.lt.below hb11)
  have HB11 := Lib.hid (HB9.out.trans ((hb10.trans (hb11.mono hb10.size)).mono HB9.out.size))
  have HD11 := Lib.hid ((HD9.out.below hb10).below hb11)
  have HG := Lib.hid (show w10.heap.size < (w10.alloc (.cells #[.int .i64 4, .int .i64 0, .string ⟨#[46]⟩, .slice la 2 lc] 28 (0, 0))).drew.heap.size from (Array.getElem?_eq_some_iff.1 HR11.out).1)
  clear ha11 hd11 hb11 hi10 hb10 HD9 HR9
  go_upto_region 3 with fail
  go_cut [4, 5] from 20 to 26 (fun v4 v5 wx => ∃ g4, v4 = .pointer (some ⟨g4, 0, none⟩) ∧ v5 = .int .i64 0 ∧ DIs 0 (atomT (⟨#[97, 98]⟩ : ByteArray)) g4 wx ∧ DIs 1 (intT 3) g1 wx ∧ Below w.heap.size w wx)
  case first =>
    refine wp_region_rest (by kernel_rfl) ?_
    generalize (w10.alloc (.cells #[.int .i64 4, .int .i64 0, .string ⟨#[46]⟩, .slice la 2 lc] 28 (0, 0))).drew = W0 at *
    obtain ⟨y0, y1, y2, y3⟩ := row4 HR11.out
    have hlt := HG.out
    clear HR11 HG
    refine rest_chainP (fun u => Below W0.heap.size W0 u) 0 10 (.soft 1 (.two 0 7 (.two 2 7 (.two 3 7 (.soft 4 (.soft 5 (.soft 6 (.one 7 (.one 8 (.soft 9 .nil)))))) (.one 3 (.soft 4 (.soft 5 (.soft 6 (.one 8 (.soft 9 .nil))))))) (.one 2 (.one 3 (.soft 4 (.soft 5 (.soft 6 (.one 8 (.soft 9 .nil)))))))) (.one 0 (.one 2 (.one 3 (.soft 4 (.soft 5 (.soft 6 (.one 8 (.soft 9 .nil)))))))))) (.soft _ (.two _ _ (.two _ _ (.two _ _ (.soft _ (.soft _ (.soft _ (.one _ (.one _ (.soft _ .nil)))))) (.one _ (.soft _ (.soft _ (.soft _ (.one _ (.soft _ .nil))))))) (.one _ (.one _ (.soft _ (.soft _ (.soft _ (.one _ (.soft _ .nil)))))))) (.one _ (.one _ (.one _ (.soft _ (.soft _ (.soft _ (.one _ (.soft _ .nil)))))))))) ⟨rfl, ⟨rfl, rfl, ⟨rfl, rfl, ⟨rfl, rfl, ⟨rfl, ⟨rfl, ⟨rfl, ⟨rfl, ⟨rfl, ⟨rfl, trivial⟩⟩⟩⟩⟩⟩, ⟨rfl, ⟨rfl, ⟨rfl, ⟨rfl, ⟨rfl, ⟨rfl, trivial⟩⟩⟩⟩⟩⟩⟩, ⟨rfl, ⟨rfl, ⟨rfl, ⟨rfl, ⟨rfl, ⟨rfl, ⟨rfl, trivial⟩⟩⟩⟩⟩⟩⟩⟩, ⟨rfl, ⟨rfl, ⟨rfl, ⟨rfl, ⟨rfl, ⟨rfl, ⟨rfl, ⟨rfl, trivial⟩⟩⟩⟩⟩⟩⟩⟩⟩⟩ (by kernel_rfl) (by kernel_rfl) (by kernel_rfl) (by kernel_rfl) (.inl rfl) (Below.refl _ _) ?_
    have hb0 := Below.refl W0.heap.size W0
    refine chainP_soft (a1 := ?ma1) (by kernel_rfl) (by kernel_rfl) ?mh1 ?mr1
    case mh1 =>
      intro u hu E hE
      have c0 := (hu.cell (p := ⟨w10.heap.size, 0, none⟩) hlt).trans y0
      have c1 := (hu.cell (p := ⟨w10.heap.size, 1, none⟩) hlt).trans y1
      have c2 := (hu.cell (p := ⟨w10.heap.size, 2, none⟩) hlt).trans y2
      have c3 := (hu.cell (p := ⟨w10.heap.size, 3, none⟩) hlt).trans y3
      go_wp2
      rfl
    refine chainP_two ?_ ?_
    · intro E hE
      go_wp2_with (refine (l16_v _ _).mono ?_; rintro e x1 ⟨rfl, hbn⟩)
      have hx1 := hb0.trans (hbn.mono hb0.size)
      clear hbn
      refine ⟨hx1, ?_⟩
      refine chainP_two ?_ ?_
      · intro E hE
        go_wp2
        have hrw : IsSl (x1.alloc (.cells #[.int .i64 1, .int .i64 0, .string ⟨#[]⟩, .slice none 0 0, .int .i64 4, .int .i64 0, .string ⟨#[46]⟩, .slice la 2 lc] 28 (0, 0))) (fun b => b < w10.heap.size ∨ b = x1.heap.size) (.slice (some ⟨x1.heap.size, 0, none⟩) 2 2) [varT 0, (listT [atomT (⟨#[97]⟩ : ByteArray), atomT (⟨#[98]⟩ : ByteArray)] nilT)] := row2P (x := varT 0) (y := (listT [atomT (⟨#[97]⟩ : ByteArray), atomT (⟨#[98]⟩ : ByteArray)] nilT)) (a := none) (c := 0) (var_is _ _ _) ((HI11.out.below hx1).imp (fun b hb => Or.inl hb.2) fun _ _ _ => rfl) (Or.inr rfl)
        have hbn := (Below.refl x1.heap.size x1).alloc (Nat.le_refl _) (.cells #[.int .i64 1, .int .i64 0, .string ⟨#[]⟩, .slice none 0 0, .int .i64 4, .int .i64 0, .string ⟨#[46]⟩, .slice la 2 lc] 28 (0, 0))
        have hrl := (Array.getElem?_eq_some_iff.1 (heap_alloc_new x1 (.cells #[.int .i64 1, .int .i64 0, .string ⟨#[]⟩, .slice none 0 0, .int .i64 4, .int .i64 0, .string ⟨#[46]⟩, .slice la 2 lc] 28 (0, 0)))).1
        have hx2 := hx1.trans (hbn.mono hx1.size)
        clear hbn
        refine ⟨hx2, ?_⟩
        generalize hGx2 : x1.alloc (.cells #[.int .i64 1, .int .i64 0, .string ⟨#[]⟩, .slice none 0 0, .int .i64 4, .int .i64 0, .string ⟨#[46]⟩, .slice la 2 lc] 28 (0, 0)) = x2 at *
        clear hGx2
        refine chainP_two ?_ ?_
        · intro E hE
          go_wp2_with (refine (tx_Do_chars [varT 0, (listT [atomT (⟨#[97]⟩ : ByteArray), atomT (⟨#[98]⟩ : ByteArray)] nilT)] (varT 0) (listT [atomT (⟨#[97]⟩ : ByteArray), atomT (⟨#[98]⟩ : ByteArray)] nilT) _ _ _ _ hrw rfl (by intro t ht; simp only [List.mem_cons, List.not_mem_nil, or_false] at ht; rcases ht with rfl | rfl; (· exact ⟨by decide, by decide +kernel⟩); (· exact ⟨by decide +kernel, l16_ck⟩)) (by decide) (by decide) (by decide) (by decide) (HTB.out.on (HB11.out.trans (hx2.mono HB11.out.size)))).mono ?_; rintro e x3 hdp; rw [l16_chars] at hdp; obtain ⟨p1, r1, p2, r2, rfl, hic, hsc, hbn⟩ := hdp.is)
          clear hrw hdp
          have HIC := Lib.hid hic.any16
          have HSC := Lib.hid (hsc.imp (P' := AnyB) (fun _ _ => trivial) (fun _ _ _ => rfl))
          clear hrl
          clear hic hsc
          have hx3 := hx2.trans (hbn.mono hx2.size)
          clear hbn
          refine ⟨hx3, ?_⟩
          refine chainP_softv (.tuple #[.agg #[.bool true, .slice p1 1 r1, .slice p2 1 r2, .int .i64 0, .int .i64 0, .string ⟨#[]⟩, .slice none 0 0], .int .i64 0]) (by kernel_rfl) (by kernel_rfl) ?_ ?_
          · simp only [Act.put, List.getElem?_toArray, List.getElem?_cons_succ, List.getElem?_cons_zero, Option.bind_some, List.setIfInBounds_toArray, List.set_cons_succ, List.set_cons_zero, Nat.reduceAdd]
            intro u hu E hE
            go_wp2
            exact hE
          simp only [Act.put, List.getElem?_toArray, List.getElem?_cons_succ, List.getElem?_cons_zero, Option.bind_some, List.setIfInBounds_toArray, List.set_cons_succ, List.set_cons_zero, Nat.reduceAdd]
          refine chainP_softv (.agg #[.bool true, .slice p1 1 r1, .slice p2 1 r2, .int .i64 0, .int .i64 0, .string ⟨#[]⟩, .slice none 0 0]) (by kernel_rfl) (by kernel_rfl) ?_ ?_
          · simp only [Act.put, List.getElem?_toArray, List.getElem?_cons_succ, List.getElem?_cons_zero, Option.bind_some, List.setIfInBounds_toArray, List.set_cons_succ, List.set_cons_zero, Nat.reduceAdd]
            intro u hu E hE
            go_wp2
            exact hE
          simp only [Act.put, List.getElem?_toArray, List.getElem?_cons_succ, List.getElem?_cons_zero, Option.bind_some, List.setIfInBounds_toArray, List.set_cons_succ, List.set_cons_zero, Nat.reduceAdd]
          refine chainP_softv (.int .i64 0) (by kernel_rfl) (by kernel_rfl) ?_ ?_
          · simp only [Act.put, List.getElem?_toArray, List.getElem?_cons_succ, List.getElem?_cons_zero, Option.bind_some, List.setIfInBounds_toArray, List.set_cons_succ, List.set_cons_zero, Nat.reduceAdd]
            intro u hu E hE
            go_wp2
            exact hE
          simp only [Act.put, List.getElem?_toArray, List.getElem?_cons_succ, List.getElem?_cons_zero, Option.bind_some, List.setIfInBounds_toArray, List.set_cons_succ, List.set_cons_zero, Nat.reduceAdd]
          refine chainP_one ?_
          intro E hE
          go_wp2
          have hrd := heap_alloc_new x3 (.cells #[.bool false, .slice none 0 0, .slice none 0 0, .int .i64 0, .int .i64 0, .string ⟨#[]⟩, .slice none 0 0] 35 (0, 0))
          have hbn := (Below.refl x3.heap.size x3).alloc (Nat.le_refl _) (.cells #[.bool false, .slice none 0 0, .slice none 0 0, .int .i64 0, .int .i64 0, .string ⟨#[]⟩, .slice none 0 0] 35 (0, 0))
          have hgl : W0.heap.size ≤ x3.heap.size := hx3.size
          replace HIC := Lib.hid (HIC.out.ne16 (g := x3.heap.size) (fun b _ hlt => by omega))
          replace HSC := Lib.hid (HSC.out.ne16 (g := x3.heap.size) (fun b _ hlt => by omega))
          replace HIC := Lib.hid (HIC.out.below hbn)
          replace HSC := Lib.hid (HSC.out.below hbn)
          have hx4 := hx3.trans (hbn.mono hx3.size)
          clear hbn
          refine ⟨hx4, ?_⟩
          generalize hGx4 : x3.alloc (.cells #[.bool false, .slice none 0 0, .slice none 0 0, .int .i64 0, .int .i64 0, .string ⟨#[]⟩, .slice none 0 0] 35 (0, 0)) = x4 at *
          clear hGx4
          refine chainP_one ?_
          intro E hE
          have HDR := Lib.hid (dis_store (f := 0) (t := (atomT (⟨#[97, 98]⟩ : ByteArray))) hrd HIC.out HSC.out)
          go_wp2_with (refine wpList_store_row rfl 35 (.tmp 4) (.tmp 25) rfl (x3.heap.size) #[.bool true, .slice p1 1 r1, .slice p2 1 r2, .int .i64 0, .int .i64 0, .string ⟨#[]⟩, .slice none 0 0] rfl rfl _ _ hrd size_did rfl (by simp [Value.oneCell']) ?_)
          have hfin := below_row (cs := #[.bool true, .slice p1 1 r1, .slice p2 1 r2, .int .i64 0, .int .i64 0, .string ⟨#[]⟩, .slice none 0 0]) hx4 hgl
          refine ⟨hfin, ?_⟩
          refine chainP_softv (.int .i64 0) (by kernel_rfl) (by kernel_rfl) ?_ ?_
          · simp only [Act.put, List.getElem?_toArray, List.getElem?_cons_succ, List.getElem?_cons_zero, Option.bind_some, List.setIfInBounds_toArray, List.set_cons_succ, List.set_cons_zero, Nat.reduceAdd]
            intro u hu E hE
            go_wp2
            exact hE
          simp only [Act.put, List.getElem?_toArray, List.getElem?_cons_succ, List.getElem?_cons_zero, Option.bind_some, List.setIfInBounds_toArray, List.set_cons_succ, List.set_cons_zero, Nat.reduceAdd]
          have HFIN := Lib.hid hfin
          clear hrd HIC HSC hfin
          refine chainP_nil (rest_end (by decide) ?_)
          go_wp2
          go_meet
          exact ⟨_, rfl, rfl, HDR.out, HD11.out.below HFIN.out, HB11.out.trans (HFIN.out.mono HB11.out.size)⟩
        · intro E hE
          go_wp2
          have hrd := heap_alloc_new x2 (.cells #[.bool false, .slice none 0 0, .slice none 0 0, .int .i64 0, .int .i64 0, .string ⟨#[]⟩, .slice none 0 0] 35 (0, 0))
          have hbn := (Below.refl x2.heap.size x2).alloc (Nat.le_refl _) (.cells #[.bool false, .slice none 0 0, .slice none 0 0, .int .i64 0, .int .i64 0, .string ⟨#[]⟩, .slice none 0 0] 35 (0, 0))
          have hgl : W0.heap.size ≤ x2.heap.size := hx2.size
          have hgr : x1.heap.size ≠ x2.heap.size := by omega
          replace hrw := hrw.below hbn
          replace hrl := Nat.lt_of_lt_of_le hrl hbn.size
          have hx3 := hx2.trans (hbn.mono hx2.size)
          clear hbn
          refine ⟨hx3, ?_⟩
          generalize hGx3 : x2.alloc (.cells #[.bool false, .slice none 0 0, .slice none 0 0, .int .i64 0, .int .i64 0, .string ⟨#[]⟩, .slice none 0 0] 35 (0, 0)) = x3 at *
          clear hGx3
          refine chainP_one ?_
          intro E hE
          go_wp2_with (refine (tx_Do_chars [varT 0, (listT [atomT (⟨#[97]⟩ : ByteArray), atomT (⟨#[98]⟩ : ByteArray)] nilT)] (varT 0) (listT [atomT (⟨#[97]⟩ : ByteArray), atomT (⟨#[98]⟩ : ByteArray)] nilT) _ _ _ _ hrw rfl (by intro t ht; simp only [List.mem_cons, List.not_mem_nil, or_false] at ht; rcases ht with rfl | rfl; (· exact ⟨by decide, by decide +kernel⟩); (· exact ⟨by decide +kernel, l16_ck⟩)) (by decide) (by decide) (by decide) (by decide) (HTB.out.on (HB11.out.trans (hx3.mono HB11.out.size)))).mono ?_; rintro e x4 hdp; rw [l16_chars] at hdp; obtain ⟨p1, r1, p2, r2, rfl, hic, hsc, hbn⟩ := hdp.is)
          clear hrw hdp
          have hgl0 := (Array.getElem?_eq_some_iff.1 hrd).1
          have HIC := Lib.hid (hic.ne16 (g := x2.heap.size) (fun b hb _ => by rcases hb with ⟨hb | hb, hb2⟩ | hb <;> omega))
          have HSC := Lib.hid (hsc.ne16 (g := x2.heap.size) (fun b hb _ => by rcases hb with ⟨hb | hb, hb2⟩ | hb <;> omega))
          clear hgl0 hgr hrl
          clear hic hsc
          replace hrd := row_on hrd hbn
          have hx4 := hx3.trans (hbn.mono hx3.size)
          clear hbn
          refine ⟨hx4, ?_⟩
          refine chainP_softv (.tuple #[.agg #[.bool true, .slice p1 1 r1, .slice p2 1 r2, .int .i64 0, .int .i64 0, .string ⟨#[]⟩, .slice none 0 0], .int .i64 0]) (by kernel_rfl) (by kernel_rfl) ?_ ?_
          · simp only [Act.put, List.getElem?_toArray, List.getElem?_cons_succ, List.getElem?_cons_zero, Option.bind_some, List.setIfInBounds_toArray, List.set_cons_succ, List.set_cons_zero, Nat.reduceAdd]
            intro u hu E hE
            go_wp2
            exact hE
          simp only [Act.put, List.getElem?_toArray, List.getElem?_cons_succ, List.getElem?_cons_zero, Option.bind_some, List.setIfInBounds_toArray, List.set_cons_succ, List.set_cons_zero, Nat.reduceAdd]
          refine chainP_softv (.agg #[.bool true, .slice p1 1 r1, .slice p2 1 r2, .int .i64 0, .int .i64 0, .string ⟨#[]⟩, .slice none 0 0]) (by kernel_rfl) (by kernel_rfl) ?_ ?_
          · simp only [Act.put, List.getElem?_toArray, List.getElem?_cons_succ, List.getElem?_cons_zero, Option.bind_some, List.setIfInBounds_toArray, List.set_cons_succ, List.set_cons_zero, Nat.reduceAdd]
            intro u hu E hE
            go_wp2
            exact hE
          simp only [Act.put, List.getElem?_toArray, List.getElem?_cons_succ, List.getElem?_cons_zero, Option.bind_some, List.setIfInBounds_toArray, List.set_cons_succ, List.set_cons_zero, Nat.reduceAdd]
          refine chainP_softv (.int .i64 0) (by kernel_rfl) (by kernel_rfl) ?_ ?_
          · simp only [Act.put, List.getElem?_toArray, List.getElem?_cons_succ, List.getElem?_cons_zero, Option.bind_some, List.setIfInBounds_toArray, List.set_cons_succ, List.set_cons_zero, Nat.reduceAdd]
            intro u hu E hE
            go_wp2
            exact hE
          simp only [Act.put, List.getElem?_toArray, List.getElem?_cons_succ, List.getElem?_cons_zero, Option.bind_some, List.setIfInBounds_toArray, List.set_cons_succ, List.set_cons_zero, Nat.reduceAdd]
          refine chainP_one ?_
          intro E hE
          have HDR := Lib.hid (dis_store (f := 0) (t := (atomT (⟨#[97, 98]⟩ : ByteArray))) hrd HIC.out HSC.out)
          go_wp2_with (refine wpList_store_row rfl 35 (.tmp 4) (.tmp 25) rfl (x2.heap.size) #[.bool true, .slice p1 1 r1, .slice p2 1 r2, .int .i64 0, .int .i64 0, .string ⟨#[]⟩, .slice none 0 0] rfl rfl _ _ hrd size_did rfl (by simp [Value.oneCell']) ?_)
          have hfin := below_row (cs := #[.bool true, .slice p1 1 r1, .slice p2 1 r2, .int .i64 0, .int .i64 0, .string ⟨#[]⟩, .slice none 0 0]) hx4 hgl
          refine ⟨hfin, ?_⟩
          refine chainP_softv (.int .i64 0) (by kernel_rfl) (by kernel_rfl) ?_ ?_
          · simp only [Act.put, List.getElem?_toArray, List.getElem?_cons_succ, List.getElem?_cons_zero, Option.bind_some, List.setIfInBounds_toArray, List.set_cons_succ, List.set_cons_zero, Nat.reduceAdd]
            intro u hu E hE
            go_wp2
            exact hE
          simp only [Act.put, List.getElem?_toArray, List.getElem?_cons_succ, List.getElem?_cons_zero, Option.bind_some, List.setIfInBounds_toArray, List.set_cons_succ, List.set_cons_zero, Nat.reduceAdd]
          have HFIN := Lib.hid hfin
          clear hrd HIC HSC hfin
          refine chainP_nil (rest_end (by decide) ?_)
          go_wp2
          go_meet
          exact ⟨_, rfl, rfl, HDR.out, HD11.out.below HFIN.out, HB11.out.trans (HFIN.out.mono HB11.out.size)⟩
      · intro E hE
        go_wp2
        have hrd := heap_alloc_new x1 (.cells #[.bool false, .slice none 0 0, .slice none 0 0, .int .i64 0, .int .i64 0, .string ⟨#[]⟩, .slice none 0 0] 35 (0, 0))
        have hbn := (Below.refl x1.heap.size x1).alloc (Nat.le_refl _) (.cells #[.bool false, .slice none 0 0, .slice none 0 0, .int .i64 0, .int .i64 0, .string ⟨#[]⟩, .slice none 0 0] 35 (0, 0))
        have hgl : W0.heap.size ≤ x1.heap.size := hx1.size
        have hx2 := hx1.trans (hbn.mono hx1.size)
        clear hbn
        refine ⟨hx2, ?_⟩
        generalize hGx2 : x1.alloc (.cells #[.bool false, .slice none 0 0, .slice none 0 0, .int .i64 0, .int .i64 0, .string ⟨#[]⟩, .slice none 0 0] 35 (0, 0)) = x2 at *
        clear hGx2
        refine chainP_one ?_
        intro E hE
        go_wp2
        have hrw : IsSl (x2.alloc (.cells #[.int .i64 1, .int .i64 0, .string ⟨#[]⟩, .slice none 0 0, .int .i64 4, .int .i64 0, .string ⟨#[46]⟩, .slice la 2 lc] 28 (0, 0))) (fun b => b < w10.heap.size ∨ b = x2.heap.size) (.slice (some ⟨x2.heap.size, 0, none⟩) 2 2) [varT 0, (listT [atomT (⟨#[97]⟩ : ByteArray), atomT (⟨#[98]⟩ : ByteArray)] nilT)] := row2P (x := varT 0) (y := (listT [atomT (⟨#[97]⟩ : ByteArray), atomT (⟨#[98]⟩ : ByteArray)] nilT)) (a := none) (c := 0) (var_is _ _ _) ((HI11.out.below hx2).imp (fun b hb => Or.inl hb.2) fun _ _ _ => rfl) (Or.inr rfl)
        have hbn := (Below.refl x2.heap.size x2).alloc (Nat.le_refl _) (.cells #[.int .i64 1, .int .i64 0, .string ⟨#[]⟩, .slice none 0 0, .int .i64 4, .int .i64 0, .string ⟨#[46]⟩, .slice la 2 lc] 28 (0, 0))
        have hrl := (Array.getElem?_eq_some_iff.1 (heap_alloc_new x2 (.cells #[.int .i64 1, .int .i64 0, .string ⟨#[]⟩, .slice none 0 0, .int .i64 4, .int .i64 0, .string ⟨#[46]⟩, .slice la 2 lc] 28 (0, 0)))).1
        have hgr : x2.heap.size ≠ x1.heap.size := by have := (Array.getElem?_eq_some_iff.1 hrd).1; omega
        replace hrd := row_on hrd hbn
        have hx3 := hx2.trans (hbn.mono hx2.size)
        clear hbn
        refine ⟨hx3, ?_⟩
        generalize hGx3 : x2.alloc (.cells #[.int .i64 1, .int .i64 0, .string ⟨#[]⟩, .slice none 0 0, .int .i64 4, .int .i64 0, .string ⟨#[46]⟩, .slice la 2 lc] 28 (0, 0)) = x3 at *
        clear hGx3
        refine chainP_one ?_
        intro E hE
        go_wp2_with (refine (tx_Do_chars [varT 0, (listT [atomT (⟨#[97]⟩ : ByteArray), atomT (⟨#[98]⟩ : ByteArray)] nilT)] (varT 0) (listT [atomT (⟨#[97]⟩ : ByteArray), atomT (⟨#[98]⟩ : ByteArray)] nilT) _ _ _ _ hrw rfl (by intro t ht; simp only [List.mem_cons, List.not_mem_nil, or_false] at ht; rcases ht with rfl | rfl; (· exact ⟨by decide, by decide +kernel⟩); (· exact ⟨by decide +kernel, l16_ck⟩)) (by decide) (by decide) (by decide) (by decide) (HTB.out.on (HB11.out.trans (hx3.mono HB11.out.size)))).mono ?_; rintro e x4 hdp; rw [l16_chars] at hdp; obtain ⟨p1, r1, p2, r2, rfl, hic, hsc, hbn⟩ := hdp.is)
        clear hrw hdp
        have hgl0 := (Array.getElem?_eq_some_iff.1 hrd).1
        have HIC := Lib.hid (hic.ne16 (g := x1.heap.size) (fun b hb _ => by rcases hb with ⟨hb | hb, hb2⟩ | hb <;> omega))
        have HSC := Lib.hid (hsc.ne16 (g := x1.heap.size) (fun b hb _ => by rcases hb with ⟨hb | hb, hb2⟩ | hb <;> omega))
        clear hgl0 hgr hrl
        clear hic hsc
        replace hrd := row_on hrd hbn
        have hx4 := hx3.trans (hbn.mono hx3.size)
        clear hbn
        refine ⟨hx4, ?_⟩
        refine chainP_softv (.tuple #[.agg #[.bool true, .slice p1 1 r1, .slice p2 1 r2, .int .i64 0, .int .i64 0, .string ⟨#[]⟩, .slice none 0 0], .int .i64 0]) (by kernel_rfl) (by kernel_rfl) ?_ ?_
        · simp only [Act.put, List.getElem?_toArray, List.getElem?_cons_succ, List.getElem?_cons_zero, Option.bind_some, List.setIfInBounds_toArray, List.set_cons_succ, List.set_cons_zero, Nat.reduceAdd]
          intro u hu E hE
          go_wp2
          exact hE
        simp only [Act.put, List.getElem?_toArray, List.getElem?_cons_succ, List.getElem?_cons_zero, Option.bind_some, List.setIfInBounds_toArray, List.set_cons_succ, List.set_cons_zero, Nat.reduceAdd]
        refine chainP_softv (.agg #[.bool true, .slice p1 1 r1, .slice p2 1 r2, .int .i64 0, .int .i64 0, .string ⟨#[]⟩, .slice none 0 0]) (by kernel_rfl) (by kernel_rfl) ?_ ?_
        · simp only [Act.put, List.getElem?_toArray, List.getElem?_cons_succ, List.getElem?_cons_zero, Option.bind_some, List.setIfInBounds_toArray, List.set_cons_succ, List.set_cons_zero, Nat.reduceAdd]
          intro u hu E hE
          go_wp2
          exact hE
        simp only [Act.put, List.getElem?_toArray, List.getElem?_cons_succ, List.getElem?_cons_zero, Option.bind_some, List.setIfInBounds_toArray, List.set_cons_succ, List.set_cons_zero, Nat.reduceAdd]
        refine chainP_softv (.int .i64 0) (by kernel_rfl) (by kernel_rfl) ?_ ?_
        · simp only [Act.put, List.getElem?_toArray, List.getElem?_cons_succ, List.getElem?_cons_zero, Option.bind_some, List.setIfInBounds_toArray, List.set_cons_succ, List.set_cons_zero, Nat.reduceAdd]
          intro u hu E hE
          go_wp2
          exact hE
        simp only [Act.put, List.getElem?_toArray, List.getElem?_cons_succ, List.getElem?_cons_zero, Option.bind_some, List.setIfInBounds_toArray, List.set_cons_succ, List.set_cons_zero, Nat.reduceAdd]
        refine chainP_one ?_
        intro E hE
        have HDR := Lib.hid (dis_store (f := 0) (t := (atomT (⟨#[97, 98]⟩ : ByteArray))) hrd HIC.out HSC.out)
        go_wp2_with (refine wpList_store_row rfl 35 (.tmp 4) (.tmp 25) rfl (x1.heap.size) #[.bool true, .slice p1 1 r1, .slice p2 1 r2, .int .i64 0, .int .i64 0, .string ⟨#[]⟩, .slice none 0 0] rfl rfl _ _ hrd size_did rfl (by simp [Value.oneCell']) ?_)
        have hfin := below_row (cs := #[.bool true, .slice p1 1 r1, .slice p2 1 r2, .int .i64 0, .int .i64 0, .string ⟨#[]⟩, .slice none 0 0]) hx4 hgl
        refine ⟨hfin, ?_⟩
        refine chainP_softv (.int .i64 0) (by kernel_rfl) (by kernel_rfl) ?_ ?_
        · simp only [Act.put, List.getElem?_toArray, List.getElem?_cons_succ, List.getElem?_cons_zero, Option.bind_some, List.setIfInBounds_toArray, List.set_cons_succ, List.set_cons_zero, Nat.reduceAdd]
          intro u hu E hE
          go_wp2
          exact hE
        simp only [Act.put, List.getElem?_toArray, List.getElem?_cons_succ, List.getElem?_cons_zero, Option.bind_some, List.setIfInBounds_toArray, List.set_cons_succ, List.set_cons_zero, Nat.reduceAdd]
        have HFIN := Lib.hid hfin
        clear hrd HIC HSC hfin
        refine chainP_nil (rest_end (by decide) ?_)
        go_wp2
        go_meet
        exact ⟨_, rfl, rfl, HDR.out, HD11.out.below HFIN.out, HB11.out.trans (HFIN.out.mono HB11.out.size)⟩
    · intro E hE
      go_wp2
      have hrd := heap_alloc_new W0 (.cells #[.bool false, .slice none 0 0, .slice none 0 0, .int .i64 0, .int .i64 0, .string ⟨#[]⟩, .slice none 0 0] 35 (0, 0))
      have hbn := (Below.refl W0.heap.size W0).alloc (Nat.le_refl _) (.cells #[.bool false, .slice none 0 0, .slice none 0 0, .int .i64 0, .int .i64 0, .string ⟨#[]⟩, .slice none 0 0] 35 (0, 0))
      have hgl : W0.heap.size ≤ W0.heap.size := hb0.size
      have hx1 := hb0.trans (hbn.mono hb0.size)
      clear hbn
      refine ⟨hx1, ?_⟩
      generalize hGx1 : W0.alloc (.cells #[.bool false, .slice none 0 0, .slice none 0 0, .int .i64 0, .int .i64 0, .string ⟨#[]⟩, .slice none 0 0] 35 (0, 0)) = x1 at *
      clear hGx1
      refine chainP_one ?_
      intro E hE
      go_wp2_with (refine (l16_v _ _).mono ?_; rintro e x2 ⟨rfl, hbn⟩)
      replace hrd := row_on hrd hbn
      have hx2 := hx1.trans (hbn.mono hx1.size)
      clear hbn
      refine ⟨hx2, ?_⟩
      refine chainP_one ?_
      intro E hE
      go_wp2
      have hrw : IsSl (x2.alloc (.cells #[.int .i64 1, .int .i64 0, .string ⟨#[]⟩, .slice none 0 0, .int .i64 4, .int .i64 0, .string ⟨#[46]⟩, .slice la 2 lc] 28 (0, 0))) (fun b => b < w10.heap.size ∨ b = x2.heap.size) (.slice (some ⟨x2.heap.size, 0, none⟩) 2 2) [varT 0, (listT [atomT (⟨#[97]⟩ : ByteArray), atomT (⟨#[98]⟩ : ByteArray)] nilT)] := row2P (x := varT 0) (y := (listT [atomT (⟨#[97]⟩ : ByteArray), atomT (⟨#[98]⟩ : ByteArray)] nilT)) (a := none) (c := 0) (var_is _ _ _) ((HI11.out.below hx2).imp (fun b hb => Or.inl hb.2) fun _ _ _ => rfl) (Or.inr rfl)
      have hbn := (Below.refl x2.heap.size x2).alloc (Nat.le_refl _) (.cells #[.int .i64 1, .int .i64 0, .string ⟨#[]⟩, .slice none 0 0, .int .i64 4, .int .i64 0, .string ⟨#[46]⟩, .slice la 2 lc] 28 (0, 0))
      have hrl := (Array.getElem?_eq_some_iff.1 (heap_alloc_new x2 (.cells #[.int .i64 1, .int .i64 0, .string ⟨#[]⟩, .slice none 0 0, .int .i64 4, .int .i64 0, .string ⟨#[46]⟩, .slice la 2 lc] 28 (0, 0)))).1
      have hgr : x2.heap.size ≠ W0.heap.size := by have := (Array.getElem?_eq_some_iff.1 hrd).1; omega
      replace hrd := row_on hrd hbn
      have hx3 := hx2.trans (hbn.mono hx2.size)
      clear hbn
      refine ⟨hx3, ?_⟩
      generalize hGx3 : x2.alloc (.cells #[.int .i64 1, .int .i64 0, .string ⟨#[]⟩, .slice none 0 0, .int .i64 4, .int .i64 0, .string ⟨#[46]⟩, .slice la 2 lc] 28 (0, 0)) = x3 at *
      clear hGx3
      refine chainP_one ?_
      intro E hE
      go_wp2_with (refine (tx_Do_chars [varT 0, (listT [atomT (⟨#[97]⟩ : ByteArray), atomT (⟨#[98]⟩ : ByteArray)] nilT)] (varT 0) (listT [atomT (⟨#[97]⟩ : ByteArray), atomT (⟨#[98]⟩ : ByteArray)] nilT) _ _ _ _ hrw rfl (by intro t ht; simp only [List.mem_cons, List.not_mem_nil, or_false] at ht; rcases ht with rfl | rfl; (· exact ⟨by decide, by decide +kernel⟩); (· exact ⟨by decide +kernel, l16_ck⟩)) (by decide) (by decide) (by decide) (by decide) (HTB.out.on (HB11.out.trans (hx3.mono HB11.out.size)))).mono ?_; rintro e x4 hdp; rw [l16_chars] at hdp; obtain ⟨p1, r1, p2, r2, rfl, hic, hsc, hbn⟩ := hdp.is)
      clear hrw hdp
      have hgl0 := (Array.getElem?_eq_some_iff.1 hrd).1
      have HIC := Lib.hid (hic.ne16 (g := W0.heap.size) (fun b hb _ => by rcases hb with ⟨hb | hb, hb2⟩ | hb <;> omega))
      have HSC := Lib.hid (hsc.ne16 (g := W0.heap.size) (fun b hb _ => by rcases hb with ⟨hb | hb, hb2⟩ | hb <;> omega))
      clear hgl0 hgr hrl
      clear hic hsc
      replace hrd := row_on hrd hbn
      have hx4 := hx3.trans (hbn.mono hx3.size)
      clear hbn
      refine ⟨hx4, ?_⟩
      refine chainP_softv (.tuple #[.agg #[.bool true, .slice p1 1 r1, .slice p2 1 r2, .int .i64 0, .int .i64 0, .string ⟨#[]⟩, .slice none 0 0], .int .i64 0]) (by kernel_rfl) (by kernel_rfl) ?_ ?_
      · simp only [Act.put, List.getElem?_toArray, List.getElem?_cons_succ, List.getElem?_cons_zero, Option.bind_some, List.setIfInBounds_toArray, List.set_cons_succ, List.set_cons_zero, Nat.reduceAdd]
        intro u hu E hE
        go_wp2
        exact hE
      simp only [Act.put, List.getElem?_toArray, List.getElem?_cons_succ, List.getElem?_cons_zero, Option.bind_some, List.setIfInBounds_toArray, List.set_cons_succ, List.set_cons_zero, Nat.reduceAdd]
      refine chainP_softv (.agg #[.bool true, .slice p1 1 r1, .slice p2 1 r2, .int .i64 0, .int .i64 0, .string ⟨#[]⟩, .slice none 0 0]) (by kernel_rfl) (by kernel_rfl) ?_ ?_
      · simp only [Act.put, List.getElem?_toArray, List.getElem?_cons_succ, List.getElem?_cons_zero, Option.bind_some, List.setIfInBounds_toArray, List.set_cons_succ, List.set_cons_zero, Nat.reduceAdd]
        intro u hu E hE
        go_wp2
        exact hE
      simp only [Act.put, List.getElem?_toArray, List.getElem?_cons_succ, List.getElem?_cons_zero, Option.bind_some, List.setIfInBounds_toArray, List.set_cons_succ, List.set_cons_zero, Nat.reduceAdd]
      refine chainP_softv (.int .i64 0) (by kernel_rfl) (by kernel_rfl) ?_ ?_
      · simp only [Act.put, List.getElem?_toArray, List.getElem?_cons_succ, List.getElem?_cons_zero, Option.bind_some, List.setIfInBounds_toArray, List.set_cons_succ, List.set_cons_zero, Nat.reduceAdd]
        intro u hu E hE
        go_wp2
        exact hE
      simp only [Act.put, List.getElem?_toArray, List.getElem?_cons_succ, List.getElem?_cons_zero, Option.bind_some, List.setIfInBounds_toArray, List.set_cons_succ, List.set_cons_zero, Nat.reduceAdd]
      refine chainP_one ?_
      intro E hE
      have HDR := Lib.hid (dis_store (f := 0) (t := (atomT (⟨#[97, 98]⟩ : ByteArray))) hrd HIC.out HSC.out)
      go_wp2_with (refine wpList_store_row rfl 35 (.tmp 4) (.tmp 25) rfl (W0.heap.size) #[.bool true, .slice p1 1 r1, .slice p2 1 r2, .int .i64 0, .int .i64 0, .string ⟨#[]⟩, .slice none 0 0] rfl rfl _ _ hrd size_did rfl (by simp [Value.oneCell']) ?_)
      have hfin := below_row (cs := #[.bool true, .slice p1 1 r1, .slice p2 1 r2, .int .i64 0, .int .i64 0, .string ⟨#[]⟩, .slice none 0 0]) hx4 hgl
      refine ⟨hfin, ?_⟩
      refine chainP_softv (.int .i64 0) (by kernel_rfl) (by kernel_rfl) ?_ ?_
      · simp only [Act.put, List.getElem?_toArray, List.getElem?_cons_succ, List.getElem?_cons_zero, Option.bind_some, List.setIfInBounds_toArray, List.set_cons_succ, List.set_cons_zero, Nat.reduceAdd]
        intro u hu E hE
        go_wp2
        exact hE
      simp only [Act.put, List.getElem?_toArray, List.getElem?_cons_succ, List.getElem?_cons_zero, Option.bind_some, List.setIfInBounds_toArray, List.set_cons_succ, List.set_cons_zero, Nat.reduceAdd]
      have HFIN := Lib.hid hfin
      clear hrd HIC HSC hfin
      refine chainP_nil (rest_end (by decide) ?_)
      go_wp2
      go_meet
      exact ⟨_, rfl, rfl, HDR.out, HD11.out.below HFIN.out, HB11.out.trans (HFIN.out.mono HB11.out.size)⟩
  case rest =>
    obtain ⟨g4, rfl, rfl, hd4, hd1, hbc⟩ := hcut
    have HD4 := Lib.hid hd4
    have HD1 := Lib.hid hd1
    have HBC := Lib.hid hbc
    clear hd4 hd1 hbc HG HB11 HR11 HI11 HD11
    go_wp2_with fail
    refine (tx_Do_none (⟨#[102, 111, 111]⟩ : ByteArray) none 0 0 _ (by decide)).mono ?_
    rintro e x1 ⟨rfl, hb1⟩
    have ha2 := (Below.refl x1.heap.size x1).alloc (Nat.le_refl _) (.cells #[.bool false, .slice none 0 0, .slice none 0 0, .int .i64 0, .int .i64 0, .string ⟨#[]⟩, .slice none 0 0] 35 (0, 0))
    have hb2 := hb1.trans (ha2.mono hb1.size)
    have HB2 := Lib.hid (HBC.out.trans (hb2.mono HBC.out.size))
    obtain ⟨ib, io, ik, tb, oo, tk, ta, tc, r1, il, i0, t0, t1, t2, t3, -, tl⟩ := (HD1.out.below hb2).open
    obtain ⟨jb, jo, jk, ub, uo, uk, ua, uc, r4, jl, j0, s0, s1, s2, s3, -, ul⟩ := (HD4.out.below hb2).open
    obtain ⟨b0, b1, b2, b3, b4, b5, b6⟩ := row7 r1
    obtain ⟨d0, d1, d2, d3, d4, d5, d6⟩ := row7 r4
    replace t1 : (x1.alloc (.cells #[.bool false, .slice none 0 0, .slice none 0 0, .int .i64 0, .int .i64 0, .string ⟨#[]⟩, .slice none 0 0] 35 (0, 0))).cell? ⟨tb, oo + 1, none⟩ = some (.int .i64 3) := t1
    replace s2 : (x1.alloc (.cells #[.bool false, .slice none 0 0, .slice none 0 0, .int .i64 0, .int .i64 0, .string ⟨#[]⟩, .slice none 0 0] 35 (0, 0))).cell? ⟨ub, uo + 2, none⟩ = some (.string ⟨#[97, 98]⟩) := s2
    clear ha2 hb1 hb2 HD1 HD4 HBC t0 t2 t3 s0 s1 s3 r1 r4
    go_wp2
    go_ret
    exact ⟨rfl, HB2.out⟩
end Go.Proofs.YtkhchmgdaolojaaDoor.Tms
