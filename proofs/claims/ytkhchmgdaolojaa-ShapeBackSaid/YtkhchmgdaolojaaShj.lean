
/-
  Layer 17: univ of a call, walked.
-/
import Derived.Test.YtkhchmgdaolojaaShh
import Derived.Test.YtkhchmgdaolojaaPtn
import Derived.Test.YtkhchmgdaolojaaTml
import Derived.Test.YtkhchmgdaolojaaItm
namespace Go.Proofs.Ytkhchmgdaolojaa.Tms
open Go Go.RowKit Go.Proofs.Ytkhchmgdaolojaa.Reg Go.Proofs.Ytkhchmgdaolojaa.Rws Go.Proofs.Ytkhchmgdaolojaa.Maps Go.Instr
set_option linter.unusedVariables false
set_option linter.unusedSimpArgs false

/-- a slice of terms, as rows of cells -/
theorem each_sl {w : World} {P : Nat → Prop} {b off : Nat} : ∀ {ts : List Tm} (o : Nat), (∀ i (hi : i < ts.length), TmAt w P b (o + i * 4) ts[i]) → ∃ yss, Each tmKind w P yss ts ∧ ∀ j u, yss.flatten[j]? = some u → w.cell? ⟨b, o + j, none⟩ = some u
  | [], o, _ => ⟨[], trivial, by simp⟩
  | t :: ts, o, h => by
    obtain ⟨yss, h1, h2⟩ := each_sl (b := b) (off := off) (ts := ts) (o + 4) (fun i hi => by have := h (i + 1) (by simpa using hi); simpa [Nat.add_assoc, Nat.add_mul, Nat.add_comm 4] using this)
    have h0 := h 0 (by simp)
    simp only [Nat.zero_mul, Nat.add_zero, List.getElem_cons_zero] at h0
    obtain ⟨a, c, x0, x1, x2, x3, hit, -⟩ := h0.read
    refine ⟨[.int .i64 t.k, .int .i64 t.n, .string t.s, .slice a t.args.length c] :: yss, ⟨hit.cells, h1⟩, ?_⟩
    intro j v hj
    match j with
    | 0 => simp at hj; subst hj; exact x0
    | 1 => simp at hj; subst hj; exact x1
    | 2 => simp at hj; subst hj; exact x2
    | 3 => simp at hj; subst hj; exact x3
    | j + 4 =>
      have := h2 j v (by simpa using hj)
      rw [show o + (j + 4) = o + 4 + j by omega]
      exact this
/-- a row of an atom, kept -/
theorem own_atom (W : World) (P : Nat → Prop) (s : ByteArray) : Own tmKind (W.alloc (.cells #[.int .i64 3, .int .i64 0, .string s, .slice none 0 0] 49 (0, 0))) W.heap.size P (.slice (some ⟨W.heap.size, 0, none⟩) 1 1) [atomT s] := by
  refine ⟨[[.int .i64 3, .int .i64 0, .string s, .slice none 0 0]], ⟨rfl, .inr ⟨W.heap.size, 1, _, rfl, Nat.le_refl _, heap_alloc_new W _, Nat.le_refl _, by decide, rfl, rfl⟩⟩, ?_, trivial⟩
  exact (IsTm.cells (t := atomT s) (atom_is _ _ s))
set_option maxRecDepth 100000 in
theorem sh_empty (w : World) (P : Nat → Prop) (v : Value) (h : IsTm w P v (atomT (⟨#[91, 93]⟩ : ByteArray))) : Calls Try.prog 104 #[v] w (fun e w' => e = .returned (.bool true) ∧ Below w.heap.size w w') := by
  obtain ⟨a, cap, e⟩ := h.form
  have e' : v = .agg #[.int .i64 3, .int .i64 0, .string (⟨#[91, 93]⟩ : ByteArray), .slice a 0 cap] := e
  subst e'
  have hb : Below w.heap.size w (w.alloc (.cells #[.int .i64 3, .int .i64 0, .string (⟨#[91, 93]⟩ : ByteArray), .slice a 0 cap] 49 (0, 0))) := (Below.refl _ _).alloc (Nat.le_refl _) _
  have HB := Lib.hid hb
  obtain ⟨y0, y1, y2, y3⟩ := row4 (heap_alloc_new w (.cells #[.int .i64 3, .int .i64 0, .string (⟨#[91, 93]⟩ : ByteArray), .slice a 0 cap] 49 (0, 0)))
  clear hb h e
  go_enter Try.func104, Try.ntmps104
  go_wp2
  go_ret
  exact ⟨rfl, HB.out⟩
def nilT : Tm := atomT (⟨#[91, 93]⟩ : ByteArray)
/-- what =.. tells, where nothing is wrong -/
def UvC (a b : Tm) (f : Int) (ts : List Tm) : Prop :=
  (a.k = 4 ∧ 0 < a.args.length ∧ f = 1 ∧ ts = [listT (atomT a.s :: a.args) nilT]) ∨ ((a.k = 2 ∨ a.k = 3) ∧ f = 1 ∧ ts = [listT [a] nilT]) ∨
  (∃ t0, a.k = 1 ∧ b = listT [t0] nilT ∧ (t0.k = 2 ∨ t0.k = 3) ∧ f = 0 ∧ ts = [t0]) ∨
  (∃ t0 us, a.k = 1 ∧ b = listT (t0 :: us) nilT ∧ t0.k = 3 ∧ 0 < us.length ∧ us.length ≤ 255 ∧ f = 0 ∧ ts = [compT t0.s us])
set_option maxRecDepth 100000 in
set_option maxHeartbeats 4000000 in
theorem sh_univ (s : ByteArray) (x y : Tm) (f : Int) (ts : List Tm) (P : Nat → Prop) (w : World) (a : Option Addr) (c : Nat) (h : IsSl w P (.slice a 2 c) [x, y]) (hM : x.size ≤ 100000000) (hM' : y.size ≤ 100000000) (hfn : UvC x y f ts) :
    Calls Try.prog 90 #[.agg #[.string s, .slice a 2 c]] w (DidOk f ts w) := by
  have HFN := Lib.hid hfn
  clear hfn
  obtain ⟨w1, w2, w3, w4⟩ := two w (.cells #[.string s, .slice a 2 c] 140 (0, 0)) (.cells #[.bool false, .slice none 0 0, .slice none 0 0, .int .i64 0, .int .i64 0, .string ⟨#[]⟩, .slice none 0 0] 71 (0, 0))
  have x0 := cell_of_row _ _ 0 _ _ _ w1
  have x1 := cell_of_row _ _ 1 _ _ _ w1
  have HR := Lib.hid w2
  have HC := Lib.hid w1
  have HB := Lib.hid w4
  have HZ := Lib.hid w3
  have H := Lib.hid (h.lt.below w4)
  obtain ⟨b, off, e1, -⟩ := H.out.at 0 (by simp)
  subst e1
  clear h w1 w2 w3 w4
  go_enter Try.func90, Try.ntmps90
  go_upto_region 1 with fail
  generalize ((w.alloc (.cells #[.string s, .slice (some ⟨b, off, none⟩) 2 c] 140 (0, 0))).alloc (.cells #[.bool false, .slice none 0 0, .slice none 0 0, .int .i64 0, .int .i64 0, .string ⟨#[]⟩, .slice none 0 0] 71 (0, 0))) = W1 at *
  go_cut [3, 4] (fun v3 v4 wx => Args2 x y w.heap.size W1 v3 v4 wx)
  case first =>
    refine wp_region_rest (by kernel_rfl) ?_
    have hd := (Below.refl W1.heap.size W1).drew
    have hs2 : W1.drew.heap.size = w.heap.size + 2 := HZ.out
    have h0 := H.out.below hd
    have hc2 := (hd.block _ (Array.getElem?_eq_some_iff.1 HC.out).1).trans HC.out
    have HD := Lib.hid hd
    have hlt2 : w.heap.size < W1.drew.heap.size := by rw [hs2]; omega
    clear hs2
    clear x0 x1 HR HC HB H hd
    generalize W1.drew = W2 at *
    have x0 := cell_of_row _ _ 0 _ _ _ hc2
    have x1 := cell_of_row _ _ 1 _ _ _ hc2
    clear hc2
    obtain ⟨qa, qc, y0, y1, y2, y3, hit, hl1⟩ := (h0.atb 0 (by simp)).read
    obtain ⟨za, zc, z0, z1, z2, z3, hit', hl2⟩ := (h0.atb 1 (by simp)).read
    simp only [List.getElem_cons_zero, List.getElem_cons_succ, Nat.zero_mul, Nat.add_zero, Nat.one_mul] at y0 y1 y2 y3 z0 z1 z2 z3 hit hit'
    have HI1 := Lib.hid (hit.args.imp (P' := fun b => b < w.heap.size) (fun b hb => hb.2) (fun _ _ _ => rfl))
    have HI2 := Lib.hid (hit'.args.imp (P' := fun b => b < w.heap.size) (fun b hb => hb.2) (fun _ _ _ => rfl))
    clear hit hit' h0
    refine rest_chainP (fun u => Below W2.heap.size W2 u) 0 12 (.soft 0 (.soft 1 (.soft 2 (.soft 3 (.soft 4 (.soft 5 (.soft 6 (.soft 7 (.two 8 9 (.one 9 (.one 10 (.one 11 .nil))) (.one 8 (.one 10 (.one 11 .nil)))))))))))) (.soft _ (.soft _ (.soft _ (.soft _ (.soft _ (.soft _ (.soft _ (.soft _ (.two _ _ (.one _ (.one _ (.one _ .nil))) (.one _ (.one _ (.one _ .nil)))))))))))) ⟨rfl, ⟨rfl, ⟨rfl, ⟨rfl, ⟨rfl, ⟨rfl, ⟨rfl, ⟨rfl, ⟨rfl, rfl, ⟨rfl, ⟨rfl, ⟨rfl, trivial⟩⟩⟩, ⟨rfl, ⟨rfl, ⟨rfl, trivial⟩⟩⟩⟩⟩⟩⟩⟩⟩⟩⟩⟩ (by kernel_rfl) (by kernel_rfl) (by kernel_rfl) (by kernel_rfl) (.inl rfl) (Below.refl _ _) ?_
    refine chainP_soft (a1 := ?ma1) (by kernel_rfl) (by kernel_rfl) ?mh1 ?mr1
    case mh1 =>
      intro u hu E hE
      go_wp2
      rfl
    refine chainP_soft (a1 := ?ma2) (by kernel_rfl) (by kernel_rfl) ?mh2 ?mr2
    case mh2 =>
      intro u hu E hE
      have c0 := (hu.cell (p := ⟨w.heap.size, 1, none⟩) hlt2).trans x1
      go_wp2
      rfl
    refine chainP_soft (a1 := ?ma3) (by kernel_rfl) (by kernel_rfl) ?mh3 ?mr3
    case mh3 =>
      intro u hu E hE
      go_wp2
      rfl
    refine chainP_soft (a1 := ?ma4) (by kernel_rfl) (by kernel_rfl) ?mh4 ?mr4
    case mh4 =>
      intro u hu E hE
      have c0 := (hu.cell (p := ⟨b, off, none⟩) hl1).trans y0
      have c1 := (hu.cell (p := ⟨b, off + 1, none⟩) hl1).trans y1
      have c2 := (hu.cell (p := ⟨b, off + 2, none⟩) hl1).trans y2
      have c3 := (hu.cell (p := ⟨b, off + 3, none⟩) hl1).trans y3
      go_wp2
      rfl
    refine chainP_soft (a1 := ?ma5) (by kernel_rfl) (by kernel_rfl) ?mh5 ?mr5
    case mh5 =>
      intro u hu E hE
      go_wp2
      rfl
    refine chainP_soft (a1 := ?ma6) (by kernel_rfl) (by kernel_rfl) ?mh6 ?mr6
    case mh6 =>
      intro u hu E hE
      have c0 := (hu.cell (p := ⟨w.heap.size, 1, none⟩) hlt2).trans x1
      go_wp2
      rfl
    refine chainP_soft (a1 := ?ma7) (by kernel_rfl) (by kernel_rfl) ?mh7 ?mr7
    case mh7 =>
      intro u hu E hE
      go_wp2
      rfl
    refine chainP_soft (a1 := ?ma8) (by kernel_rfl) (by kernel_rfl) ?mh8 ?mr8
    case mh8 =>
      intro u hu E hE
      have c0 := (hu.cell (p := ⟨b, off + 4, none⟩) hl1).trans z0
      have c1 := (hu.cell (p := ⟨b, off + 4 + 1, none⟩) hl1).trans z1
      have c2 := (hu.cell (p := ⟨b, off + 4 + 2, none⟩) hl1).trans z2
      have c3 := (hu.cell (p := ⟨b, off + 4 + 3, none⟩) hl1).trans z3
      go_wp2
      rfl
    refine chainP_two ?_ ?_
    · intro E hE
      go_wp2
      refine ⟨(Below.refl W2.heap.size W2).alloc (Nat.le_refl _) _, ?_⟩
      refine chainP_one ?_
      intro E hE
      go_wp2
      have hk := two W2 (.cells #[.int .i64 0, .int .i64 0, .string ⟨#[]⟩, .slice none 0 0] 49 (0, 0)) (.cells #[.int .i64 0, .int .i64 0, .string ⟨#[]⟩, .slice none 0 0] 49 (0, 0))
      have HK := Lib.hid hk
      refine ⟨hk.2.2.2, ?_⟩
      clear hk
      refine chainP_one ?_
      intro E hE
      go_wp2_with (refine wpList_store_row rfl 49 (.tmp 3) (.tmp 11) rfl W2.heap.size #[.int .i64 x.k, .int .i64 x.n, .string x.s, .slice qa x.args.length qc] rfl rfl _ _ HK.out.1 size_term rfl (one4 _ _ _ _ _ _) ?_)
      refine ⟨below_row HK.out.2.2.2 (by omega), ?_⟩
      refine chainP_one ?_
      intro E hE
      go_wp2_with (refine wpList_store_row rfl 49 (.tmp 4) (.tmp 15) rfl (W2.heap.size + 1) #[.int .i64 y.k, .int .i64 y.n, .string y.s, .slice za y.args.length zc] rfl rfl _ _ ((setRow_other _ _ _ _ (by omega)).trans HK.out.2.1) size_term rfl (one4 _ _ _ _ _ _) ?_)
      refine ⟨below_row (below_row HK.out.2.2.2 (by omega)) (by omega), ?_⟩
      have HFIN := Lib.hid (args_two (g := W2.heap.size) (g' := (W2.heap.size + 1)) HK.out.2.2.2 (by omega) (by omega) (by omega) (Nat.le_of_lt hlt2) HK.out.1 HK.out.2.1 (HI1.out.below HK.out.2.2.2) (HI2.out.below HK.out.2.2.2))
      clear HK
      refine chainP_nil (rest_end (by decide) ?_)
      go_wp2
      go_meet
      exact Args2.lift HD.out HFIN.out
    · intro E hE
      go_wp2
      refine ⟨(Below.refl W2.heap.size W2).alloc (Nat.le_refl _) _, ?_⟩
      refine chainP_one ?_
      intro E hE
      go_wp2
      have hk := two W2 (.cells #[.int .i64 0, .int .i64 0, .string ⟨#[]⟩, .slice none 0 0] 49 (0, 0)) (.cells #[.int .i64 0, .int .i64 0, .string ⟨#[]⟩, .slice none 0 0] 49 (0, 0))
      have HK := Lib.hid hk
      refine ⟨hk.2.2.2, ?_⟩
      clear hk
      refine chainP_one ?_
      intro E hE
      go_wp2_with (refine wpList_store_row rfl 49 (.tmp 3) (.tmp 11) rfl (W2.heap.size + 1) #[.int .i64 x.k, .int .i64 x.n, .string x.s, .slice qa x.args.length qc] rfl rfl _ _ HK.out.2.1 size_term rfl (one4 _ _ _ _ _ _) ?_)
      refine ⟨below_row HK.out.2.2.2 (by omega), ?_⟩
      refine chainP_one ?_
      intro E hE
      go_wp2_with (refine wpList_store_row rfl 49 (.tmp 4) (.tmp 15) rfl W2.heap.size #[.int .i64 y.k, .int .i64 y.n, .string y.s, .slice za y.args.length zc] rfl rfl _ _ ((setRow_other _ _ _ _ (by omega)).trans HK.out.1) size_term rfl (one4 _ _ _ _ _ _) ?_)
      refine ⟨below_row (below_row HK.out.2.2.2 (by omega)) (by omega), ?_⟩
      have HFIN := Lib.hid (args_two (g := (W2.heap.size + 1)) (g' := W2.heap.size) HK.out.2.2.2 (by omega) (by omega) (by omega) (Nat.le_of_lt hlt2) HK.out.2.1 HK.out.1 (HI1.out.below HK.out.2.2.2) (HI2.out.below HK.out.2.2.2))
      clear HK
      refine chainP_nil (rest_end (by decide) ?_)
      go_wp2
      go_meet
      exact Args2.lift HD.out HFIN.out
  case rest =>
    obtain ⟨b3, b4, rfl, rfl, ⟨a3, c3, r3, i3⟩, ⟨a4, c4, r4, i4⟩, hbc⟩ := hcut
    have HR3 := Lib.hid (row_on HR.out hbc)
    have hb3 := HB.out.trans (hbc.mono HB.out.size)
    have hs3 : w.heap.size + 2 ≤ wc.heap.size := by have := HZ.out; have := hbc.size; omega
    have HB3 := Lib.hid hb3
    have HX := Lib.hid (show IsTm wc (fun b => b < w.heap.size) (.agg #[.int .i64 x.k, .int .i64 x.n, .string x.s, .slice a3 x.args.length c3]) x from IsTm.mk' i3)
    have HY := Lib.hid (show IsTm wc (fun b => b < w.heap.size) (.agg #[.int .i64 y.k, .int .i64 y.n, .string y.s, .slice a4 y.args.length c4]) y from IsTm.mk' i4)
    have R3 := Lib.hid r3
    have R4 := Lib.hid r4
    clear i3 i4 HR HC HZ H HB hbc x0 x1 hb3 r3 r4
    have hfn := HFN.out
    clear HFN
    rcases hfn with ⟨hk, hn, hf, ht⟩ | ⟨hk, hf, ht⟩ | ⟨T, ha, hb, hk, hf, ht⟩ | ⟨T, us, ha, hb, hk, hu, hu2, hf, ht⟩
    all_goals
      have HE := Lib.hid (And.intro hf ht)
      clear hf ht
    · obtain ⟨sx, hsx⟩ : ∃ sx, sx = x.s := ⟨_, rfl⟩
      obtain ⟨m, hm⟩ : ∃ m, m = x.args.length := ⟨_, rfl⟩
      rw [← hsx] at HE
      have HXA := Lib.hid HX.out.args
      have r3 := R3.out
      obtain ⟨ab, ao, ea, -⟩ := HXA.out.at 0 hn
      subst ea
      rw [hk, ← hsx, ← hm] at r3
      replace R3 := Lib.hid r3
      obtain ⟨y0, y1, y2, y3⟩ := row4 r3
      have HXL := Lib.hid hm
      clear r3 hsx hm hk
      go_upto_region 4 with fail
      clear y0 y1 y2 y3
      refine wp_region_rest (by kernel_rfl) ?_
      have hd := (Below.refl wc.heap.size wc).drew
      have HR4 := Lib.hid (row_on HR3.out hd)
      have HB4 := Lib.hid (HB3.out.trans (hd.mono HB3.out.size))
      have r3 := row_on R3.out hd
      have HX4 := Lib.hid (HX.out.below hd)
      have HXA4 := Lib.hid (HXA.out.below hd)
      clear HXA
      have hs4 : w.heap.size + 2 ≤ wc.drew.heap.size := by have := hd.size; omega
      clear hd HX HY R3 R4 HR3 HB3 hs3
      generalize wc.drew = W2 at *
      obtain ⟨y0, y1, y2, y3⟩ := row4 r3
      clear r3
      refine rest_chain 0 6 [(false, [0, 1, 4, 5]), (true, [2]), (true, [3])] [(false, [_, _, _, _]), (true, [_]), (true, [_])] rfl (by kernel_rfl) (by kernel_rfl) rfl (by kernel_rfl) (by kernel_rfl) (.inr (by kernel_rfl)) ?_
      refine chain_soft ?_
      intro E hE
      go_wp2
      clear y0 y1 y2 y3
      refine chain_one ?_
      intro E hE
      go_wp2_with (refine (sh_atom _ _).mono ?_; rintro e5 w5 ⟨rfl, hb5⟩; have HB5 := Lib.hid hb5; clear hb5)
      refine ⟨HB5.out, ?_⟩
      refine chain_one ?_
      intro E hE
      go_wp2
      have HO6 := Lib.hid (own_atom w5 (fun b => b < w.heap.size) sx)
      refine ⟨(Below.refl w5.heap.size w5).alloc (Nat.le_refl _) _, ?_⟩
      refine chain_nil ?_
      refine rest_lineL 6 8 [_, _] rfl (by kernel_rfl) (by decide) (by decide) (by kernel_rfl) ?_
      have hbx : Below W2.heap.size W2 (w5.alloc (.cells #[.int .i64 3, .int .i64 0, .string sx, .slice none 0 0] 49 (0, 0))) := HB5.out.trans (((Below.refl w5.heap.size w5).alloc (Nat.le_refl _) _).mono HB5.out.size)
      have hs6 := hbx.size
      have hs7 := HB5.out.size
      obtain ⟨yss, hy1, hy2⟩ := each_sl (b := ab) (off := ao) ao (fun i hi => (HXA4.out.below hbx).atb i hi)
      have hxl := len_le x.args
      have hxs : sizeL x.args < x.size := by cases x; simp [Tm.size, Tm.args]
      refine wpList_putN (K := tmKind) rfl (.tmp 23) (.tmp 25) _ rfl Try.underlying47 info_tm rfl w5.heap.size (fun b => b < w.heap.size) (.slice (some ⟨w5.heap.size, 0, none⟩) 1 1) [atomT sx] yss x.args ⟨ab, ao, none⟩ c3 rfl HO6.out (by rw [← HXL.out]; rfl) (fun j u hu => by rw [Addr.add_lit]; exact hy2 j u hu) hn (hy1.mono (fun b1 hb => ⟨hb, fun e => by have hb' : b1 < w.heap.size := hb; simp [Value.ownBlock] at e; omega⟩) fun _ _ _ => rfl) (by unfold maxLen; simp; omega) (by simp; omega) (by simp) ?_
      intro v' w9 ho9 hb9 hg9 hv9
      obtain ⟨q9, k9, e9⟩ := own_formX ho9
      have e9' : v' = .slice q9 (m + 1) k9 := by rw [e9, List.length_append, List.length_singleton, ← HXL.out, Nat.add_comm]
      subst e9'
      have h29 := hbx.trans (hb9.mono hs7)
      have HR9 := Lib.hid (row_on HR4.out h29)
      have HB9 := Lib.hid (HB4.out.trans (h29.mono HB4.out.size))
      have hs9 : w.heap.size + 2 ≤ w9.heap.size := by have := h29.size; omega
      have hls : sizeL (atomT sx :: x.args) + nilT.size ≤ 1000000000 := by simp only [sizeL, atomT, nilT, Tm.size]; omega
      have hlt := listT_size nilT (atomT sx :: x.args)
      have HSL := Lib.hid (own_reads ho9)
      replace HE := Lib.hid (show f = 1 ∧ ts = [listT ([atomT sx] ++ x.args) nilT] from HE.out)
      have HT := Lib.hid (show (listT ([atomT sx] ++ x.args) nilT).size ≤ 1000000000 by simp only [sizeL, atomT, nilT, Tm.size, List.length_cons, List.singleton_append] at hlt ⊢; omega)
      clear ho9 hb9 hg9 hv9 hbx hy1 hy2 h29 HR4 HB4 HX4 HXA4 HB5 HO6 hs4 e9 hlt hxl hs6 hs7
      go_wp2
      refine then_rest (rest_end (by decide) ?_)
      go_wp2_with fail
      refine (sh_atom _ _).mono ?_
      rintro e10 w10 ⟨rfl, hb10⟩
      have HB10 := Lib.hid hb10
      clear hb10
      go_wp2_with fail
      refine (tm_list ([atomT sx] ++ x.args) nilT (.slice q9 (m + 1) k9) _ _ AnyB w10 hls (HSL.out.below HB10.out) (atom_is _ _ _)).mono ?_
      rintro e11 w11 ⟨v11, rfl, hi11, hb11⟩
      obtain ⟨q11, k11, rfl⟩ := hi11.form
      have hb9b := HB10.out.trans (hb11.mono HB10.out.size)
      have HS11 := Lib.hid (row1 hi11)
      obtain ⟨T, hT⟩ : ∃ T, T = listT ([atomT sx] ++ x.args) nilT := ⟨_, rfl⟩
      rw [← hT] at HS11 HE HT ⊢
      have hs6 := hb9b.size
      have HA6 := Lib.hid (hb9b.trans (((Below.refl w11.heap.size w11).alloc (Nat.le_refl _) (.cells #[.int .i64 T.k, .int .i64 T.n, .string T.s, .slice q11 T.args.length k11] 49 (0, 0))).mono hb9b.size))
      clear hT hi11 hb11 hb9b HSL HB10
      go_wp2_with fail
      refine (sh_made 1 [T] _ AnyB _ (by decide) (by decide) (by simp) (by simpa using HT.out) HS11.out).mono ?_
      rintro e9 w9 ⟨va, vt, rfl, hi9, hs9, hb9⟩
      obtain ⟨q1, k1, e1⟩ : ∃ q k, va = .slice q 1 k := hi9.firsts
      obtain ⟨q2, k2, e2⟩ : ∃ q k, vt = .slice q 1 k := hs9.form
      subst e1 e2
      have hbx := (HB9.out.trans (HA6.out.mono (by have := HB9.out.size; omega))).trans (hb9.mono (by have := HB9.out.size; have := HA6.out.size; omega))
      have HFIN := Lib.hid (fun cs => DidOk.fin (r := w.heap.size + 1) cs hbx (by omega) (by have := HA6.out.size; omega) hi9 hs9)
      have HR9 := Lib.hid (row_on (row_on HR9.out HA6.out) hb9)
      clear hi9 hs9 hb9 hbx
      go_wp2_with (with_reducible show wpList _ _ _ (⟨none, .store _ (.tmp 2) _, _, _, _, _⟩ :: _) _ _
                   go_must (
                     refine wpList_store_row rfl 71 (.tmp 2) (.tmp 31) rfl (w.heap.size + 1) #[.bool true, .slice q1 1 k1, .slice q2 1 k2, .int .i64 0, .int .i64 0, .string ⟨#[]⟩, .slice none 0 0] rfl rfl _ _ HR9.out size_did rfl (one7 _ _ _ _ _ _ _) ?_))
      have hz := setRow_heap w9 (w.heap.size + 1) _ (#[.bool true, .slice q1 1 k1, .slice q2 1 k2, .int .i64 0, .int .i64 0, .string ⟨#[]⟩, .slice none 0 0] : Array Value) _ _ HR9.out
      exact bodyPost_ret (v := .agg #[.bool true, .slice q1 1 k1, .slice q2 1 k2, .int .i64 0, .int .i64 0, .string ⟨#[]⟩, .slice none 0 0]) (results_cell_row Try.results90 _ _ (w.heap.size + 1) _ _ _ _ rfl hz Try.underlying71 rfl (by kernel_rfl)) rfl ((by rw [HE.out.1, HE.out.2]; exact HFIN.out _))
    · have r3 := R3.out
      obtain ⟨y0, y1, y2, y3⟩ := row4 r3
      have b1 : (x.k == 4) = false := by rcases hk with h | h <;> rw [h] <;> rfl
      have hk2 : ((x.k == 2) = true ∧ True) ∨ ((x.k == 2) = false ∧ (x.k == 3) = true) := by rcases hk with h | h <;> rw [h] <;> decide
      clear r3 hk
      rcases hk2 with ⟨b2, b3⟩ | ⟨b2, b3⟩
      all_goals
        go_upto_region 8 with fail
        clear y0 y1 y2 y3 b1 b2 b3
        refine wp_region_rest (by kernel_rfl) ?_
        have hd := (Below.refl wc.heap.size wc).drew
        have HR4 := Lib.hid (row_on HR3.out hd)
        have HB4 := Lib.hid (HB3.out.trans (hd.mono HB3.out.size))
        have r3 := row_on R3.out hd
        have HX4 := Lib.hid (HX.out.below hd)
        have hs4 : w.heap.size + 2 ≤ wc.drew.heap.size := by have := hd.size; omega
        clear hd HX HY R3 R4 HR3 HB3 hs3
        generalize wc.drew = W2 at *
        obtain ⟨y0, y1, y2, y3⟩ := row4 r3
        have hl3 := (Array.getElem?_eq_some_iff.1 r3).1
        clear r3
        refine rest_chainP (fun u => Below W2.heap.size W2 u) 0 3 (.soft 0 (.two 1 2 (.one 2 .nil) (.one 1 .nil))) (.soft _ (.two _ _ (.one _ .nil) (.one _ .nil))) ⟨rfl, ⟨rfl, rfl, ⟨rfl, trivial⟩, ⟨rfl, trivial⟩⟩⟩ (by kernel_rfl) (by kernel_rfl) (by kernel_rfl) (by kernel_rfl) (.inr (by kernel_rfl)) (Below.refl _ _) ?_
        refine chainP_softv (.agg #[.int .i64 x.k, .int .i64 x.n, .string x.s, .slice a3 x.args.length c3]) (by kernel_rfl) (by kernel_rfl) ?_ ?_
        · simp only [Act.put, List.getElem?_toArray, List.getElem?_cons_succ, List.getElem?_cons_zero, Option.bind_some, List.setIfInBounds_toArray, List.set_cons_succ, List.set_cons_zero, Nat.reduceAdd]
          intro u hu E hE
          have c0 := (hu.cell (p := ⟨b3, 0, none⟩) hl3).trans y0
          have c1 := (hu.cell (p := ⟨b3, 1, none⟩) hl3).trans y1
          have c2 := (hu.cell (p := ⟨b3, 2, none⟩) hl3).trans y2
          have c3 := (hu.cell (p := ⟨b3, 3, none⟩) hl3).trans y3
          go_wp2
          exact hE
        simp only [Act.put, List.getElem?_toArray, List.getElem?_cons_succ, List.getElem?_cons_zero, Option.bind_some, List.setIfInBounds_toArray, List.set_cons_succ, List.set_cons_zero, Nat.reduceAdd]
        clear y0 y1 y2 y3 hl3
        refine chainP_two ?_ ?_
        · intro E hE
          go_wp2
          refine ⟨(Below.refl W2.heap.size W2).alloc (Nat.le_refl _) _, ?_⟩
          refine chainP_one ?_
          intro E hE
          go_wp2_with (refine (sh_atom _ _).mono ?_; rintro e5 w6 ⟨rfl, hb5⟩)
          have hal := (Below.refl W2.heap.size W2).alloc (Nat.le_refl _) (.cells #[.int .i64 x.k, .int .i64 x.n, .string x.s, .slice a3 x.args.length c3] 49 (0, 0))
          refine ⟨hal.trans (hb5.mono hal.size), ?_⟩
          have HS6 := Lib.hid ((row1 HX4.out.any).below hb5)
          have HB6 := Lib.hid (hal.trans (hb5.mono hal.size))
          refine chainP_nil ?_
          refine rest_lineL 3 7 [_, _, _, _] rfl (by kernel_rfl) (by decide) (by decide) (by kernel_rfl) ?_
          go_wp2_with fail
          refine (tm_list [x] nilT (.slice (some ⟨W2.heap.size, 0, none⟩) 1 1) _ _ AnyB w6 (by simp only [sizeL, atomT, nilT, Tm.size]; omega) HS6.out (atom_is _ _ _)).mono ?_
          rintro e11 w11 ⟨v11, rfl, hi11, hb11⟩
          obtain ⟨q11, k11, rfl⟩ := hi11.form
          have hb9b := HB6.out.trans (hb11.mono HB6.out.size)
          have HS11 := Lib.hid (row1 hi11)
          have hlt := listT_size nilT [x]
          have HT := Lib.hid (show (listT [x] nilT).size ≤ 1000000000 by simp only [sizeL, atomT, nilT, Tm.size, List.length_cons, List.length_nil] at hlt ⊢; omega)
          obtain ⟨T, hT⟩ : ∃ T, T = listT [x] nilT := ⟨_, rfl⟩
          rw [← hT] at HS11 HE HT ⊢
          have hs6 := hb9b.size
          have HA6 := Lib.hid (hb9b.trans (((Below.refl w11.heap.size w11).alloc (Nat.le_refl _) (.cells #[.int .i64 T.k, .int .i64 T.n, .string T.s, .slice q11 T.args.length k11] 49 (0, 0))).mono hb9b.size))
          clear hT hi11 hb11 hb9b HS6 HB6 hlt
          go_wp2_with fail
          refine (sh_made 1 [T] _ AnyB _ (by decide) (by decide) (by simp) (by simpa using HT.out) HS11.out).mono ?_
          rintro e9 w9 ⟨va, vt, rfl, hi9, hs9, hb9⟩
          obtain ⟨q1, k1, e1⟩ : ∃ q k, va = .slice q 1 k := hi9.firsts
          obtain ⟨q2, k2, e2⟩ : ∃ q k, vt = .slice q 1 k := hs9.form
          subst e1 e2
          have hbx := (HB4.out.trans (HA6.out.mono (by have := HB4.out.size; omega))).trans (hb9.mono (by have := HB4.out.size; have := HA6.out.size; omega))
          have HFIN := Lib.hid (fun cs => DidOk.fin (r := w.heap.size + 1) cs hbx (by omega) (by have := HA6.out.size; omega) hi9 hs9)
          have HR9 := Lib.hid (row_on (row_on HR4.out HA6.out) hb9)
          clear hi9 hs9 hb9 hbx
          go_wp2_with (with_reducible show wpList _ _ _ (⟨none, .store _ (.tmp 2) _, _, _, _, _⟩ :: _) _ _
                       go_must (
                         refine wpList_store_row rfl 71 (.tmp 2) (.tmp 40) rfl (w.heap.size + 1) #[.bool true, .slice q1 1 k1, .slice q2 1 k2, .int .i64 0, .int .i64 0, .string ⟨#[]⟩, .slice none 0 0] rfl rfl _ _ HR9.out size_did rfl (one7 _ _ _ _ _ _ _) ?_))
          refine then_rest (rest_end (by decide) ?_)
          go_wp2
          have hz := setRow_heap w9 (w.heap.size + 1) _ (#[.bool true, .slice q1 1 k1, .slice q2 1 k2, .int .i64 0, .int .i64 0, .string ⟨#[]⟩, .slice none 0 0] : Array Value) _ _ HR9.out
          exact bodyPost_ret (v := .agg #[.bool true, .slice q1 1 k1, .slice q2 1 k2, .int .i64 0, .int .i64 0, .string ⟨#[]⟩, .slice none 0 0]) (results_cell_row Try.results90 _ _ (w.heap.size + 1) _ _ _ _ rfl hz Try.underlying71 rfl (by kernel_rfl)) rfl ((by rw [HE.out.1, HE.out.2]; exact HFIN.out _))
        · intro E hE
          go_wp2_with (refine (sh_atom _ _).mono ?_; rintro e5 w5 ⟨rfl, hb5⟩)
          refine ⟨hb5, ?_⟩
          refine chainP_one ?_
          intro E hE
          go_wp2
          have hal := (Below.refl w5.heap.size w5).alloc (Nat.le_refl _) (.cells #[.int .i64 x.k, .int .i64 x.n, .string x.s, .slice a3 x.args.length c3] 49 (0, 0))
          refine ⟨hb5.trans (hal.mono hb5.size), ?_⟩
          have hs6' := hb5.size
          have his := row1 (HX4.out.below hb5).any
          have hbel := hb5.trans (hal.mono hb5.size)
          generalize (w5.alloc (.cells #[.int .i64 x.k, .int .i64 x.n, .string x.s, .slice a3 x.args.length c3] 49 (0, 0))) = w6 at *
          have HS6 := Lib.hid (his)
          have HB6 := Lib.hid (hbel)
          refine chainP_nil ?_
          refine rest_lineL 3 7 [_, _, _, _] rfl (by kernel_rfl) (by decide) (by decide) (by kernel_rfl) ?_
          go_wp2_with fail
          refine (tm_list [x] nilT (.slice (some ⟨w5.heap.size, 0, none⟩) 1 1) _ _ AnyB w6 (by simp only [sizeL, atomT, nilT, Tm.size]; omega) HS6.out (atom_is _ _ _)).mono ?_
          rintro e11 w11 ⟨v11, rfl, hi11, hb11⟩
          obtain ⟨q11, k11, rfl⟩ := hi11.form
          have hb9b := HB6.out.trans (hb11.mono HB6.out.size)
          have HS11 := Lib.hid (row1 hi11)
          have hlt := listT_size nilT [x]
          have HT := Lib.hid (show (listT [x] nilT).size ≤ 1000000000 by simp only [sizeL, atomT, nilT, Tm.size, List.length_cons, List.length_nil] at hlt ⊢; omega)
          obtain ⟨T, hT⟩ : ∃ T, T = listT [x] nilT := ⟨_, rfl⟩
          rw [← hT] at HS11 HE HT ⊢
          have hs6 := hb9b.size
          have HA6 := Lib.hid (hb9b.trans (((Below.refl w11.heap.size w11).alloc (Nat.le_refl _) (.cells #[.int .i64 T.k, .int .i64 T.n, .string T.s, .slice q11 T.args.length k11] 49 (0, 0))).mono hb9b.size))
          clear hT hi11 hb11 hb9b HS6 HB6 hlt
          go_wp2_with fail
          refine (sh_made 1 [T] _ AnyB _ (by decide) (by decide) (by simp) (by simpa using HT.out) HS11.out).mono ?_
          rintro e9 w9 ⟨va, vt, rfl, hi9, hs9, hb9⟩
          obtain ⟨q1, k1, e1⟩ : ∃ q k, va = .slice q 1 k := hi9.firsts
          obtain ⟨q2, k2, e2⟩ : ∃ q k, vt = .slice q 1 k := hs9.form
          subst e1 e2
          have hbx := (HB4.out.trans (HA6.out.mono (by have := HB4.out.size; omega))).trans (hb9.mono (by have := HB4.out.size; have := HA6.out.size; omega))
          have HFIN := Lib.hid (fun cs => DidOk.fin (r := w.heap.size + 1) cs hbx (by omega) (by have := HA6.out.size; omega) hi9 hs9)
          have HR9 := Lib.hid (row_on (row_on HR4.out HA6.out) hb9)
          clear hi9 hs9 hb9 hbx
          go_wp2_with (with_reducible show wpList _ _ _ (⟨none, .store _ (.tmp 2) _, _, _, _, _⟩ :: _) _ _
                       go_must (
                         refine wpList_store_row rfl 71 (.tmp 2) (.tmp 40) rfl (w.heap.size + 1) #[.bool true, .slice q1 1 k1, .slice q2 1 k2, .int .i64 0, .int .i64 0, .string ⟨#[]⟩, .slice none 0 0] rfl rfl _ _ HR9.out size_did rfl (one7 _ _ _ _ _ _ _) ?_))
          refine then_rest (rest_end (by decide) ?_)
          go_wp2
          have hz := setRow_heap w9 (w.heap.size + 1) _ (#[.bool true, .slice q1 1 k1, .slice q2 1 k2, .int .i64 0, .int .i64 0, .string ⟨#[]⟩, .slice none 0 0] : Array Value) _ _ HR9.out
          exact bodyPost_ret (v := .agg #[.bool true, .slice q1 1 k1, .slice q2 1 k2, .int .i64 0, .int .i64 0, .string ⟨#[]⟩, .slice none 0 0]) (results_cell_row Try.results90 _ _ (w.heap.size + 1) _ _ _ _ rfl hz Try.underlying71 rfl (by kernel_rfl)) rfl ((by rw [HE.out.1, HE.out.2]; exact HFIN.out _))
    · have hit : itemsT y = ([T], nilT) := by
        rw [hb, list_items, items_none (t := nilT) rfl]
        simp
      have r3 := R3.out
      rw [ha] at r3
      obtain ⟨y0, y1, y2, y3⟩ := row4 r3
      obtain ⟨z0, z1, z2, z3⟩ := row4 R4.out
      have hsz := items_size y
      rw [hit] at hsz
      simp only [sizeL] at hsz
      have b1 : (T.k == 1) = false := by rcases hk with h | h <;> rw [h] <;> rfl
      have b2 : (T.k == 4) = false := by rcases hk with h | h <;> rw [h] <;> rfl
      have HIT := Lib.hid hit
      have HK := Lib.hid hk
      clear r3 ha hb hit hk HX R3 R4
      go_wp2_with fail
      refine (tm_items y _ _ _ (by omega) HY.out).mono ?_
      rintro e5 w5 ⟨v1, v2, a1, c1, rfl, e1, hcl, hcm, -, hsl, htl, hb5⟩
      rw [HIT.out] at e1 hcl hsl htl
      have e1' : v1 = .slice a1 1 c1 := e1
      clear e1
      subst e1'
      obtain ⟨q2, k2, e2⟩ := htl.form
      have e2' : v2 = .agg #[.int .i64 3, .int .i64 0, .string ⟨#[91, 93]⟩, .slice q2 0 k2] := e2
      clear e2
      subst e2'
      have HR5 := Lib.hid (row_on HR3.out hb5)
      have HB5 := Lib.hid (HB3.out.trans (hb5.mono HB3.out.size))
      have hs5 : w.heap.size + 2 ≤ w5.heap.size := by have := hb5.size; omega
      obtain ⟨gb, go, ea, -, hat⟩ := hsl.at 0 (by simp)
      subst ea
      simp only [List.getElem_cons_zero, Nat.zero_mul, Nat.add_zero] at hat hcl
      obtain ⟨qa, qc, t0, t1, t2, t3, hta, hlb⟩ := hat.read
      have hbt : Below w5.heap.size w5 (w5.alloc (.cells #[.int .i64 3, .int .i64 0, .string ⟨#[91, 93]⟩, .slice q2 0 k2] 49 (0, 0))) := (Below.refl _ _).alloc (Nat.le_refl _) _
      have HTL := Lib.hid (htl.below hbt)
      have HSL := Lib.hid hsl
      have HTA := Lib.hid hta
      have HBT := Lib.hid hbt
      clear hat htl hsl hta hbt HY HIT y0 y1 y2 y3 z0 z1 z2 z3 HR3 HB3 hs3
      go_wp2_with fail
      refine (sh_empty _ _ _ HTL.out).mono ?_
      rintro e6 w6 ⟨rfl, hb6⟩
      have h56 := HBT.out.trans (hb6.mono HBT.out.size)
      have s0 := (h56.cell (p := ⟨gb, go, none⟩) hlb).trans t0
      have s1 := (h56.cell (p := ⟨gb, go + 1, none⟩) hlb).trans t1
      have s2 := (h56.cell (p := ⟨gb, go + 2, none⟩) hlb).trans t2
      have s3 := (h56.cell (p := ⟨gb, go + 3, none⟩) hlb).trans t3
      have HTA6 := Lib.hid (HTA.out.below h56)
      have HSL6 := Lib.hid (HSL.out.below h56)
      have HR6 := Lib.hid (row_on HR5.out h56)
      have HB6 := Lib.hid (HB5.out.trans (h56.mono HB5.out.size))
      have hs6' : w.heap.size + 2 ≤ w6.heap.size := by have := h56.size; omega
      clear t0 t1 t2 t3 h56 hb6 HTL HBT HR5 HB5 hs5 HTA HSL
      go_wp2_with fail
      have HA6 := Lib.hid ((Below.refl w6.heap.size w6).alloc (Nat.le_refl _) (.cells #[.int .i64 T.k, .int .i64 T.n, .string T.s, .slice qa T.args.length qc] 49 (0, 0)))
      have HIS := Lib.hid (row1 HTA6.out.any)
      clear s0 s1 s2 s3
      refine (sh_made 0 [T] _ AnyB _ (by decide) (by decide) (by simp) (by simp; omega) HIS.out).mono ?_
      rintro e9 w9 ⟨va, vt, rfl, hi9, hs9, hb9⟩
      obtain ⟨q1, k1, e1⟩ : ∃ q k, va = .slice q 1 k := hi9.firsts
      obtain ⟨q2, k2, e2⟩ : ∃ q k, vt = .slice q 1 k := hs9.form
      subst e1 e2
      have hbx := (HB6.out.trans (HA6.out.mono (by have := HB6.out.size; omega))).trans (hb9.mono (by have := HB6.out.size; have := HA6.out.size; omega))
      have HFIN := Lib.hid (fun cs => DidOk.fin (r := w.heap.size + 1) cs hbx (by omega) (by have := HA6.out.size; omega) hi9 hs9)
      have HR9 := Lib.hid (row_on (row_on HR6.out HA6.out) hb9)
      clear hi9 hs9 hb9 hbx
      go_wp2_with (with_reducible show wpList _ _ _ (⟨none, .store _ (.tmp 2) _, _, _, _, _⟩ :: _) _ _
                   go_must (
                     refine wpList_store_row rfl 71 (.tmp 2) (.tmp 92) rfl (w.heap.size + 1) #[.bool true, .slice q1 1 k1, .slice q2 1 k2, .int .i64 0, .int .i64 0, .string ⟨#[]⟩, .slice none 0 0] rfl rfl _ _ HR9.out size_did rfl (one7 _ _ _ _ _ _ _) ?_))
      have hz := setRow_heap w9 (w.heap.size + 1) _ (#[.bool true, .slice q1 1 k1, .slice q2 1 k2, .int .i64 0, .int .i64 0, .string ⟨#[]⟩, .slice none 0 0] : Array Value) _ _ HR9.out
      exact bodyPost_ret (v := .agg #[.bool true, .slice q1 1 k1, .slice q2 1 k2, .int .i64 0, .int .i64 0, .string ⟨#[]⟩, .slice none 0 0]) (results_cell_row Try.results90 _ _ (w.heap.size + 1) _ _ _ _ rfl hz Try.underlying71 rfl (by kernel_rfl)) rfl ((by rw [HE.out.1, HE.out.2]; exact HFIN.out _))
    · have hit : itemsT y = (T :: us, nilT) := by
        rw [hb, list_items, items_none (t := nilT) rfl]
        simp
      have r3 := R3.out
      rw [ha] at r3
      obtain ⟨y0, y1, y2, y3⟩ := row4 r3
      obtain ⟨z0, z1, z2, z3⟩ := row4 R4.out
      have hsz := items_size y
      rw [hit] at hsz
      simp only [sizeL] at hsz
      have b1 : (T.k == 1) = false := by rw [hk]; rfl
      have b2 : (T.k == 4) = false := by rw [hk]; rfl
      have b3' : (T.k == 2) = false := by rw [hk]; rfl
      obtain ⟨n, hn⟩ : ∃ n, n = us.length := ⟨_, rfl⟩
      rw [← hn] at hu hu2
      have b4' : ((n : Int) + 1 == 0) = false := by simp; omega
      have b5 : ((n : Int) + 1 == 1) = false := by simp; omega
      have b6 : ((n : Int) == 0) = false := by simp; omega
      have b7 : decide (255 < (n : Int)) = false := by simp; omega
      have b8 : decide (255 < n) = false := by simp; omega
      have HN := Lib.hid hn
      have HIT := Lib.hid hit
      have HK := Lib.hid hk
      clear r3 ha hb hit hk hn HX R3 R4
      go_wp2_with fail
      refine (tm_items y _ _ _ (by omega) HY.out).mono ?_
      rintro e5 w5 ⟨v1, v2, a1, c1, rfl, e1, hcl, hcm, -, hsl, htl, hb5⟩
      rw [HIT.out] at e1 hcl hsl htl
      have e1' : v1 = .slice a1 (n + 1) c1 := by rw [HN.out]; exact e1
      clear e1
      subst e1'
      obtain ⟨q2, k2, e2⟩ := htl.form
      have e2' : v2 = .agg #[.int .i64 3, .int .i64 0, .string ⟨#[91, 93]⟩, .slice q2 0 k2] := e2
      clear e2
      subst e2'
      have HR5 := Lib.hid (row_on HR3.out hb5)
      have HB5 := Lib.hid (HB3.out.trans (hb5.mono HB3.out.size))
      have hs5 : w.heap.size + 2 ≤ w5.heap.size := by have := hb5.size; omega
      obtain ⟨gb, go, ea, -, hat⟩ := hsl.at 0 (by simp)
      subst ea
      simp only [List.getElem_cons_zero, Nat.zero_mul, Nat.add_zero] at hat hcl
      obtain ⟨qa, qc, t0, t1, t2, t3, hta, hlb⟩ := hat.read
      have hbt : Below w5.heap.size w5 (w5.alloc (.cells #[.int .i64 3, .int .i64 0, .string ⟨#[91, 93]⟩, .slice q2 0 k2] 49 (0, 0))) := (Below.refl _ _).alloc (Nat.le_refl _) _
      have HTL := Lib.hid (htl.below hbt)
      have HSL := Lib.hid hsl
      have HTA := Lib.hid hta
      have HBT := Lib.hid hbt
      clear hat htl hsl hta hbt HY HIT y0 y1 y2 y3 z0 z1 z2 z3 HR3 HB3 hs3
      go_wp2_with fail
      refine (sh_empty _ _ _ HTL.out).mono ?_
      rintro e6 w6 ⟨rfl, hb6⟩
      have h56 := HBT.out.trans (hb6.mono HBT.out.size)
      have s0 := (h56.cell (p := ⟨gb, go, none⟩) hlb).trans t0
      have s1 := (h56.cell (p := ⟨gb, go + 1, none⟩) hlb).trans t1
      have s2 := (h56.cell (p := ⟨gb, go + 2, none⟩) hlb).trans t2
      have s3 := (h56.cell (p := ⟨gb, go + 3, none⟩) hlb).trans t3
      have HTA6 := Lib.hid (HTA.out.below h56)
      have HSL6 := Lib.hid (HSL.out.below h56)
      have HR6 := Lib.hid (row_on HR5.out h56)
      have HB6 := Lib.hid (HB5.out.trans (h56.mono HB5.out.size))
      have hs6' : w.heap.size + 2 ≤ w6.heap.size := by have := h56.size; omega
      clear t0 t1 t2 t3 h56 hb6 HTL HBT HR5 HB5 hs5 HTA HSL
      go_upto_region 26 with fail
      refine wp_region_rest (by kernel_rfl) ?_
      have hd := (Below.refl w6.heap.size w6).drew
      have HR7 := Lib.hid (row_on HR6.out hd)
      have HB7 := Lib.hid (HB6.out.trans (hd.mono HB6.out.size))
      have HSL7 := Lib.hid (HSL6.out.below hd)
      have hs7' : w.heap.size + 2 ≤ w6.drew.heap.size := by have := hd.size; omega
      clear hd HR6 HB6 HSL6 HTA6 hs6' s0 s1 s2 s3 hlb b1 b2 b3' b4' b5 b6 b7 b8
      generalize w6.drew = W7 at *
      obtain ⟨qa', qc', s0, s1, s2, s3, -, hlb⟩ := (HSL7.out.atb 0 (by simp)).read
      simp only [List.getElem_cons_zero, Nat.zero_mul, Nat.add_zero] at s0 s1 s2 s3
      have hc1 : n + 1 ≤ c1 := by rw [HN.out]; exact hcl
      unfold maxLen at hcm
      clear hcl
      refine rest_chain 0 6 [(false, [0, 1, 2, 3, 4, 5])] [(false, [_, _, _, _, _, _])] rfl (by kernel_rfl) (by kernel_rfl) rfl (by kernel_rfl) (by kernel_rfl) (.inr (by kernel_rfl)) ?_
      refine chain_soft ?_
      intro E hE
      go_wp2
      clear s0 s1 s2 s3
      refine chain_nil ?_
      refine rest_lineL 6 10 [_, _, _, _] rfl (by kernel_rfl) (by decide) (by decide) (by kernel_rfl) ?_
      have hS : IsSl W7 AnyB (.slice (some ⟨gb, go + 4, none⟩) us.length (c1 - 1)) us := IsSl.mk' fun i hi => ⟨gb, go + 4, rfl, trivial, by
        have := HSL7.out.atb (i + 1) (by simp; omega)
        simp only [List.getElem_cons_succ] at this
        rw [show go + 4 + i * 4 = go + (i + 1) * 4 by omega]
        exact this⟩
      have hT : IsTm W7 AnyB (.agg #[.int .i64 4, .int .i64 0, .string T.s, .slice (some ⟨gb, go + 4, none⟩) us.length (c1 - 1)]) (compT T.s us) := IsTm.mk' (t := compT T.s us) hS
      have hR := row1 (x := compT T.s us) hT
      have hR' : IsSl (W7.alloc (.cells #[.int .i64 4, .int .i64 0, .string T.s, .slice (some ⟨gb, go + 4, none⟩) us.length (c1 - 1)] 49 (0, 0))) AnyB (.slice (some ⟨W7.heap.size, 0, none⟩) 1 1) [compT T.s us] := hR
      rw [← HN.out] at hR'
      have HIS := Lib.hid hR'
      have HA6 := Lib.hid ((Below.refl W7.heap.size W7).alloc (Nat.le_refl _) (.cells #[.int .i64 4, .int .i64 0, .string T.s, .slice (some ⟨gb, go + 4, none⟩) n (c1 - 1)] 49 (0, 0)))
      have hTs : (compT T.s us).size ≤ 1000000000 := by simp only [compT, Tm.size]; omega
      clear hS hT hR hR'
      go_wp2_with fail
      refine (sh_made 0 [compT T.s us] _ AnyB _ (by decide) (by decide) (by simp) (by simpa using hTs) HIS.out).mono ?_
      rintro e9 w9 ⟨va, vt, rfl, hi9, hs9, hb9⟩
      obtain ⟨q1, k1, e1⟩ : ∃ q k, va = .slice q 1 k := hi9.firsts
      obtain ⟨q2, k2, e2⟩ : ∃ q k, vt = .slice q 1 k := hs9.form
      subst e1 e2
      have hbx := (HB7.out.trans (HA6.out.mono (by have := HB7.out.size; omega))).trans (hb9.mono (by have := HB7.out.size; have := HA6.out.size; omega))
      have HFIN := Lib.hid (fun cs => DidOk.fin (r := w.heap.size + 1) cs hbx (by omega) (by have := HA6.out.size; omega) hi9 hs9)
      have HR9 := Lib.hid (row_on (row_on HR7.out HA6.out) hb9)
      clear hi9 hs9 hb9 hbx
      go_wp2_with (with_reducible show wpList _ _ _ (⟨none, .store _ (.tmp 2) _, _, _, _, _⟩ :: _) _ _
                   go_must (
                     refine wpList_store_row rfl 71 (.tmp 2) (.tmp 118) rfl (w.heap.size + 1) #[.bool true, .slice q1 1 k1, .slice q2 1 k2, .int .i64 0, .int .i64 0, .string ⟨#[]⟩, .slice none 0 0] rfl rfl _ _ HR9.out size_did rfl (one7 _ _ _ _ _ _ _) ?_))
      refine then_rest (rest_end (by decide) ?_)
      go_wp2
      have hz := setRow_heap w9 (w.heap.size + 1) _ (#[.bool true, .slice q1 1 k1, .slice q2 1 k2, .int .i64 0, .int .i64 0, .string ⟨#[]⟩, .slice none 0 0] : Array Value) _ _ HR9.out
      exact bodyPost_ret (v := .agg #[.bool true, .slice q1 1 k1, .slice q2 1 k2, .int .i64 0, .int .i64 0, .string ⟨#[]⟩, .slice none 0 0]) (results_cell_row Try.results90 _ _ (w.heap.size + 1) _ _ _ _ rfl hz Try.underlying71 rfl (by kernel_rfl)) rfl ((by rw [HE.out.1, HE.out.2]; exact HFIN.out _))
end Go.Proofs.Ytkhchmgdaolojaa.Tms
