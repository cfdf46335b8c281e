
/-
  StoreBinds, walked over the program.
-/
import Derived.Test.YtfocabdfmpebnaaPlx
namespace Go.Proofs.Ytfocabdfmpebnaa.Tms
open Go Go.RowKit Go.Proofs.Ytfocabdfmpebnaa.Reg Go.Proofs.Ytfocabdfmpebnaa.Rws Go.Proofs.Ytfocabdfmpebnaa.Maps
set_option linter.unusedVariables false
set_option linter.unusedSimpArgs false

structure BindFacts (t : Tm) (m : Nat) : Prop where
  i0 : Inv ct0
  i1 : Inv (ct1 t)
  m1 : MayPut ct0 [] t
  n1 : 0 < (ct1 t).cells.length
  nl : (ct1 t).cells.length ≤ 421
  fr : ∀ k, k ≤ m → Inv (freshN k (ct1 t)) ∧ (freshN k (ct1 t)).cells.length = (ct1 t).cells.length + k ∧ (freshN k (ct1 t)).room = 1000
  ch : ∀ i, i < m → ChainIs (freshN m (ct1 t)) (ct1 t).cells.length m i (chB (freshN m (ct1 t)) (ct1 t).cells.length i)
  en : EndIs (freshN m (ct1 t)) (chB (freshN m (ct1 t)) (ct1 t).cells.length (m - 1)) (ct1 t).cells.length m
  tr : Tr (chE (chB (freshN m (ct1 t)) (ct1 t).cells.length (m - 1)) (ct1 t).cells.length m) (backT ct0 t) 0
  look : ∃ c, (freshN m (ct1 t)).cells[(ct1 t).cells.length]? = some c ∧ c.k = 1 ∧ c.args = [] ∧ Ch (freshN m (ct1 t)) 0 (ct1 t).cells.length (ct1 t).cells.length
theorem bind_facts (t : Tm) (ht : checkT t = 0) (hst : t.size ≤ 421) (m : Nat) (h0 : 0 < m) (hm : m ≤ 9) : BindFacts t m := by
  have F := cut_facts t t ht ht hst hst
  have l1 : (ct1 t).cells.length = (putR ct0 [] t).2.1.length := by rw [ct1, putS_len]; simp [ct0]
  have g1 : (ct1 t).cells.length ≤ t.size := by rw [l1]; exact putT_len _ _ _ _ _
  have k0 : NoLk ct0 := fun c hc => by simp [ct0] at hc
  have k1 : NoLk (ct1 t) := k0.put F.m1
  have hr : (ct1 t).room = 1000 := rfl
  have fr := fun k (hk : k ≤ m) => freshN_facts F.i1 k1 k (by rw [hr]; omega)
  obtain ⟨f1, f2, f3, f4, f5, f6, f7⟩ := fr m (Nat.le_refl _)
  have hb : (freshN m (ct1 t)).bonds = [] := f5
  have ch := chB_is f1 f2 f3 hb (fun j hj => let ⟨c, h1, h2, _, _, h3⟩ := f7 j hj; ⟨c, h1, h2, h3⟩)
  have en := end_is F.n1 h0 hb (ch (m - 1) (by omega))
  refine ⟨F.i0, F.i1, F.m1, F.n1, by omega, fun k hk => ⟨(fr k hk).1, (fr k hk).2.2.1, (fr k hk).2.2.2.1.trans hr⟩, ch, en, ?_, ?_⟩
  · have tA : AgreeAt (chE (chB (freshN m (ct1 t)) (ct1 t).cells.length (m - 1)) (ct1 t).cells.length m) ct0.cells.length (putR ct0 [] t).2.1 := fun i d hd => by
      obtain ⟨c, h1, h2⟩ := agree_put ct0 t i d hd
      have hi := (List.getElem?_eq_some_iff.1 hd).1
      have hi2 : ct0.cells.length + i < (ct1 t).cells.length := by rw [l1]; simp [ct0]; exact hi
      exact ⟨c, by rw [en.old _ hi2, f6 _ hi2]; exact h1, h2⟩
    have := put_tr0 (check_may ht) tA
    rwa [put_base'] at this
  · obtain ⟨c, h1, h2, -, -, h3⟩ := f7 0 h0
    rw [Nat.add_zero] at h1
    obtain ⟨hx, e⟩ := List.getElem?_eq_some_iff.1 h1
    exact ⟨c, h1, h2, h3, hx, by rw [f2 _ (List.getElem_mem hx)]; decide, rfl⟩
/-- the new variables' cells -/
def chL (n k : Nat) : List Int := (List.range k).map fun j => ((n + j : Nat) : Int)
theorem chL_len (n k : Nat) : (chL n k).length = k := by simp [chL]
theorem chL_at {n k i : Nat} (h : i < (chL n k).length) : (chL n k)[i] = ((n + i : Nat) : Int) := by simp [chL]
theorem chL_snoc (n k : Nat) : chL n (k + 1) = chL n k ++ [((n + k : Nat) : Int)] := by simp [chL, List.range_succ]
theorem Law8.grown {w0 w w' : World} {p : Nat} {S : Sto} {D : Nat → Prop} {o : Option Nat} (h : Law8 w0 p S D w) (hg : w.grownBy w' o) (ho : ∀ b, o = some b → ¬ D b ∧ w0.heap.size ≤ b) : Law8 w0 p S D w' :=
  ⟨h.sto.keep hg.size fun b hlt hb => hg.block b hlt fun e => (ho b e.symm).1 hb, h.own, h.bel.grown hg h.bel.size fun b e => (ho b e).2⟩
/-- the law's own slice of ints beside its store -/
structure SlOf (w0 : World) (p : Nat) (S : Sto) (D : Nat → Prop) (w : World) (v : Value) (L : List Int) : Prop where
  law : Law8 w0 p S D w
  own : Own iKind w w0.heap.size (fun _ => False) v L
  free : ∀ b, v.ownBlock = some b → ¬ D b
theorem SlOf.did {w0 w w' : World} {p : Nat} {S S' : Sto} {D D' : Nat → Prop} {v : Value} {L : List Int} (h : SlOf w0 p S D w v L) (hl : Law8 w0 p S' D' w') (hs : Step D w D' w') : SlOf w0 p S' D' w' v L :=
  ⟨hl, h.own.keep hs.size fun b hb hlt => (hs.blk b ⟨by rcases hlt with e | e; exact e.elim; exact h.free b e, hb⟩).2, fun b e => ((hs.blk b ⟨h.free b e, (h.own.low b e).2⟩).1).1⟩
/-- one more is appended, its element in a new row -/
theorem SlOf.put {w0 w w' : World} {p : Nat} {S : Sto} {D : Nat → Prop} {v v' : Value} {L L' : List Int} (h : SlOf w0 p S D w v L) (ho : Own iKind w' w0.heap.size (fun _ => False) v' L') (hg : w.grownBy w' v.ownBlock) (hv : ∀ k, v'.ownBlock = some k → v.ownBlock = some k ∨ w.heap.size ≤ k) : SlOf w0 p S D w' v' L' :=
  ⟨h.law.grown hg fun b e => ⟨h.free b e, (h.own.low b e).1⟩, ho, fun b e hb => by
    rcases hv b e with e | e
    · exact h.free b e hb
    · have := h.law.dl b hb; omega⟩
theorem SlOf.row {w0 w : World} {p : Nat} {S : Sto} {D : Nat → Prop} {v : Value} {L : List Int} (h : SlOf w0 p S D w v L) (hL : 0 < L.length) : ∃ g c, v = .slice (some ⟨g, 0, none⟩) L.length c := by
  rcases h.own.form with ⟨-, e⟩ | h
  · rw [e] at hL; simp at hL
  · exact h
theorem SlOf.at {w0 w : World} {p n c g : Nat} {S : Sto} {D : Nat → Prop} {L : List Int} (h : SlOf w0 p S D w (.slice (some ⟨g, 0, none⟩) n c) L) (i : Nat) (hi : i < L.length) : w.cell? ⟨g, i, none⟩ = some (.int .i64 L[i]) := by
  obtain ⟨a, cap, e, h1, h2, h3⟩ := own_is h.own
  obtain ⟨b, off, e2, -, -, hc⟩ := h3 i hi
  simp only [Value.slice.injEq] at e
  rw [e2] at e
  simp only [Option.some.injEq, Addr.mk.injEq] at e
  obtain ⟨⟨rfl, rfl, -⟩, -, -⟩ := e
  rw [Nat.zero_add] at hc
  exact hc
theorem SlOf.cap {w0 w : World} {p n c g : Nat} {S : Sto} {D : Nat → Prop} {L : List Int} (h : SlOf w0 p S D w (.slice (some ⟨g, 0, none⟩) n c) L) : n ≤ c ∧ c ≤ maxLen := by
  obtain ⟨a, cap, e, h1, h2, -⟩ := own_is h.own
  simp only [Value.slice.injEq] at e
  obtain ⟨-, rfl, rfl⟩ := e
  exact ⟨h1, h2⟩
/-- the bound ones so far -/
def BdRel (w : World) (p : Nat) (S : Sto) (n m : Nat) (v9 : Value) (vi : Value) (wr : World) : Prop := ∃ (j : Nat) (D : Nat → Prop), j ≤ m ∧ vi = .int .i64 ((j + 1 : Nat) : Int) ∧ SlOf w p (chB S n j) D wr v9 (chL n (m + 1))
/-- what was got so far -/
def GotRel (w : World) (p : Nat) (S : Sto) (D : Nat → Prop) (n m r : Nat) (v9 : Value) (T : Tm) (a : Option Addr) (c : Nat) (vi : Value) (wr : World) : Prop := ∃ i : Nat, i ≤ m ∧ vi = .int .i64 i ∧ SlOf w p S D wr v9 (chL n m) ∧
  RowF D wr r (.cells #[.int .i64 T.k, .int .i64 T.n, .string T.s, .slice a T.args.length c] 33 (0, 0)) ∧ IsTm wr (Free D wr) (aggT T a c) T
/-- the fresh variables so far -/
def FrRel (w : World) (p : Nat) (S : Sto) (n m : Nat) (vi v9 : Value) (wr : World) : Prop := ∃ (k : Nat) (D : Nat → Prop), k ≤ m ∧ vi = .int .i64 k ∧ SlOf w p (freshN k S) D wr v9 (chL n k)
set_option maxRecDepth 100000 in
set_option maxHeartbeats 4000000 in
theorem law_binds (L : List Pt) (v1 : Value) (n8 : Int) (w : World) (h1 : PtSl w v1 L) (hn0 : 0 ≤ n8) (hn1 : n8 ≤ 255) : Calls Try.prog 5 #[v1, .int .u8 n8] w (Says true w) := by
  obtain ⟨a1, c1, rfl, hc1, hm1⟩ := h1.form
  have H1 := Lib.hid h1
  clear h1
  by_cases g1 : 60 < L.length
  · have d1 : decide (60 < (L.length : Int)) = true := by simp; omega
    go_enter Try.func5, Try.ntmps5
    go_wp2_with fail
    refine (alive8 _).mono ?_; rintro e1 w1 ⟨rfl, hb1⟩; have HB := Lib.hid hb1; clear hb1
    go_wp2_with fail
    refine (ref_great L _ _ (H1.out.below HB.out)).mono ?_; rintro e2 w2 ⟨rfl, rfl⟩
    go_wp2
    go_ret
    exact ⟨rfl, HB.out⟩
  have d1 : decide (60 < (L.length : Int)) = false := by simp; omega
  have z1 := goodT_size L
  obtain ⟨m, hm⟩ : ∃ m : Nat, m = (n8 % 9 + 1).toNat := ⟨_, rfl⟩
  have hm0 : (n8 % 9 + 1) = (m : Int) ∧ 0 < m ∧ m ≤ 9 := by omega
  obtain ⟨hm1', hm2, hm3⟩ := hm0
  have F := Lib.hid (bind_facts (goodT L) (good_check L (by omega)) (by omega) m hm2 hm3)
  have hbs := backT_size ct0 (goodT L)
  have hss := sameT_refl (backT ct0 (goodT L))
  have ZT : (backT ct0 (goodT L)).size ≤ 2000 := by omega
  have SS := Lib.hid hss
  have HM := Lib.hid hm1'
  clear hbs hss hm hm1'
  go_enter Try.func5, Try.ntmps5
  go_wp2_with fail
  refine (alive8 _).mono ?_; rintro e1 w1 ⟨rfl, hb1⟩; have HB := Lib.hid hb1; clear hb1
  go_wp2_with fail
  refine (ref_great L _ _ (H1.out.below HB.out)).mono ?_; rintro e2 w2 ⟨rfl, rfl⟩
  go_wp2_with fail
  refine (law_New w w1 HB.out 1000 (by decide) (by decide)).mono ?_
  rintro e2 w2 ⟨rfl, D2, hl2, hb2⟩
  have HL2 := Lib.hid (show Law8 w w1.heap.size ct0 D2 w2 from hl2)
  clear hl2 hb2 HB
  generalize w1.heap.size = p at *
  go_wp2_with fail
  refine (ref_good L _ _ (by omega) (H1.out.below HL2.out.bel)).mono ?_
  rintro e3 w3 ⟨v3, rfl, hi3, hb3⟩
  obtain ⟨b1, k1, rfl⟩ := hi3.form
  have HI3 := Lib.hid hi3
  have HD2 := Lib.hid HL2.out.dl
  have HL3 := Lib.hid (HL2.out.below hb3).1
  clear hi3 hb3 HL2 H1
  go_wp2_with fail
  refine (law_Put HL3.out F.out.i0 HI3.out (fun b hb e => by have := HD2.out b e; rcases hb with hb | hb; exact hb; omega) F.out.m1 (by omega)).mono ?_
  intro e4 w4 hp4
  obtain ⟨he4, D4, hl4, st4⟩ := hp4
  have he4' : e4 = .returned (.tuple #[.int .i64 0, .int .i64 0]) := he4
  subst he4'
  have HL4 := Lib.hid (show Law8 w p (ct1 (goodT L)) D4 w4 from hl4)
  clear he4 hl4 st4 HI3 HL3 HD2
  obtain ⟨n, hn⟩ : ∃ n, n = (ct1 (goodT L)).cells.length := ⟨_, rfl⟩
  have HN := Lib.hid hn
  clear hn
  have hst : FrRel w p (ct1 (goodT L)) n m (.int .i64 ((0 : Nat) : Int)) (.slice none 0 0) w4 := ⟨0, D4, by omega, rfl, HL4.out, Own.nil _ _ _, fun b e => by cases e⟩
  have HST := Lib.hid hst
  clear hst HL4
  dsimp only
  go_wp2
  rw [HM.out]
  clear hn0 hn1
  go_loopw [42, 9] (fun v42 v9 wr => FrRel w p (ct1 (goodT L)) n m v42 v9 wr) (fun v42 _ _ => m - (intOf v42).toNat)
  case atStart => exact HST.out
  case round =>
    obtain ⟨k, D, hk, rfl, hs⟩ := hrel
    obtain ⟨q9, c9, rfl⟩ := own_form hs.own
    have HS := Lib.hid hs
    clear hs HST
    by_cases hkm : k < m
    · have b1 : decide ((k : Int) < (m : Int)) = true := by simp; omega
      go_wp2_with fail
      refine (law_Fresh HS.out.law (F.out.fr k hk).1 (by have := (F.out.fr k hk).2; have := F.out.nl; omega)).mono ?_
      rintro e5 w5 ⟨rfl, D5, hl5, st5⟩
      have HS5 := Lib.hid (HS.out.did hl5 st5)
      have hlen : (freshN k (ct1 (goodT L))).cells.length = n + k := by rw [HN.out]; exact (F.out.fr k hk).2.1
      rw [hlen]
      obtain ⟨x, hx⟩ : ∃ x : Int, x = ((n + k : Nat) : Int) := ⟨_, rfl⟩
      rw [← hx]
      have HX := Lib.hid hx
      have hbx := heap_alloc_new w5 (.cells #[.int .i64 x] 3 (0, 0))
      have h6 := HS5.out.law.alloc (.cells #[.int .i64 x] 3 (0, 0))
      have HS6 := Lib.hid (HS5.out.did h6.1 h6.2.1)
      have HR6 := Lib.hid hbx
      clear h6 hbx hx hl5 st5 hlen HS
      dsimp only
      go_wp2_with (with_reducible show wpList _ _ _ (⟨some 54, _, _, _, _, _⟩ :: _) _ _
                   refine wpList_put (K := iKind) rfl (.tmp 51) (.tmp 53) _ rfl Try.underlying50 info_int rfl w.heap.size (fun _ => False) _ (chL n k) [.int .i64 x] x _ _ _ _ rfl HS6.out.own rfl HR6.out rfl (by rw [chL_len]; unfold maxLen; omega) (by rw [chL_len]; omega) HS6.out.law.bel.size ?_
                   intro v7 w7 ho7 hb7 hg7 hv7
                   rw [HX.out, ← chL_snoc] at ho7
                   have HS7 := Lib.hid (HS6.out.put ho7 hg7 hv7)
                   clear ho7 hb7 hg7 hv7 HS6 HR6 HS5 HX)
      go_roundw
      case measure => simp [intOf]; omega
      case rel => exact ⟨k + 1, D5, by omega, rfl, HS7.out⟩
    · have b1 : decide ((k : Int) < (m : Int)) = false := by simp; omega
      have e : k = m := by omega
      subst e
      obtain ⟨m, rfl⟩ : ∃ j, k = j + 1 := ⟨k - 1, by omega⟩
      obtain ⟨g9, c9', e9⟩ := HS.out.row (by rw [chL_len]; omega)
      rw [chL_len] at e9
      simp only [Value.slice.injEq] at e9
      obtain ⟨rfl, -, rfl⟩ := e9
      rw [chL_len] at HS ⊢
      obtain ⟨w5, rfl⟩ : ∃ wo : World, wo = wr := ⟨_, rfl⟩
      obtain ⟨S5, hS5⟩ : ∃ S5, S5 = freshN (m + 1) (ct1 (goodT L)) := ⟨_, rfl⟩
      have HCH := Lib.hid (F.out.ch)
      have HEN := Lib.hid (F.out.en)
      have HTR := Lib.hid (F.out.tr)
      have HLK := Lib.hid (F.out.look)
      rw [← HN.out, ← hS5] at HCH HEN HTR HLK
      rw [← hS5] at HS
      have hcap := HS.out.cap
      have hst : BdRel w p S5 n m (.slice (some ⟨g9, 0, none⟩) (m + 1) c9) (.int .i64 ((0 + 1 : Nat) : Int)) w5 := ⟨0, D, by omega, rfl, HS.out⟩
      have HST := Lib.hid hst
      clear hst hS5
      go_wp2
      go_loopw [12] (fun v12 wr => BdRel w p S5 n m (.slice (some ⟨g9, 0, none⟩) (m + 1) c9) v12 wr) (fun v12 _ => m + 1 - (intOf v12).toNat)
      case atStart => exact HST.out
      case round =>
        clear HST HS
        obtain ⟨j, D, hj, rfl, hs⟩ := hrel
        have HS := Lib.hid hs
        clear hs
        by_cases hjm : j < m
        · have b2 : decide ((j : Int) + 1 < (m : Int) + 1) = true := by simp; omega
          go_wp2
          refine wp_region_rest (by kernel_rfl) ?_
          have hdr := (HS.out.law.below (Below.refl wr.heap.size wr).drew)
          have HS0 := Lib.hid (HS.out.did hdr.1 hdr.2.1)
          clear hdr HS
          generalize wr.drew = W0 at *
          obtain ⟨xa, hxa⟩ : ∃ x : Int, x = ((n + j : Nat) : Int) := ⟨_, rfl⟩
          obtain ⟨xb, hxb⟩ : ∃ x : Int, x = ((n + (j + 1) : Nat) : Int) := ⟨_, rfl⟩
          have y1 := HS0.out.at j (by rw [chL_len]; omega)
          have y2 := HS0.out.at (j + 1) (by rw [chL_len]; omega)
          rw [chL_at, ← hxa] at y1
          rw [chL_at, ← hxb] at y2
          have HXA := Lib.hid hxa
          have HXB := Lib.hid hxb
          have hcap1 := hcap.1
          clear hxa hxb
          refine rest_chainP (fun u => u = W0) 0 10 (.soft 0 (.soft 1 (.soft 2 (.soft 3 (.soft 4 (.soft 5 (.soft 6 (.soft 7 (.soft 8 (.soft 9 .nil)))))))))) (.soft _ (.soft _ (.soft _ (.soft _ (.soft _ (.soft _ (.soft _ (.soft _ (.soft _ (.soft _ .nil)))))))))) ⟨rfl, ⟨rfl, ⟨rfl, ⟨rfl, ⟨rfl, ⟨rfl, ⟨rfl, ⟨rfl, ⟨rfl, ⟨rfl, trivial⟩⟩⟩⟩⟩⟩⟩⟩⟩⟩ (by kernel_rfl) (by kernel_rfl) (by kernel_rfl) (by kernel_rfl) (.inr (by kernel_rfl)) rfl ?_
          refine chainP_soft (a1 := ?ma1) (by kernel_rfl) (by kernel_rfl) ?mh1 ?mr1
          case mh1 =>
            intro u hu E hE
            subst hu
            go_wp2
            rfl
          refine chainP_soft (a1 := ?ma2) (by kernel_rfl) (by kernel_rfl) ?mh2 ?mr2
          case mh2 =>
            intro u hu E hE
            subst hu
            go_wp2
            rfl
          refine chainP_soft (a1 := ?ma3) (by kernel_rfl) (by kernel_rfl) ?mh3 ?mr3
          case mh3 =>
            intro u hu E hE
            subst hu
            go_wp2
            rfl
          refine chainP_soft (a1 := ?ma4) (by kernel_rfl) (by kernel_rfl) ?mh4 ?mr4
          case mh4 =>
            intro u hu E hE
            subst hu
            go_wp2
            rfl
          refine chainP_soft (a1 := ?ma5) (by kernel_rfl) (by kernel_rfl) ?mh5 ?mr5
          case mh5 =>
            intro u hu E hE
            subst hu
            go_wp2
            rfl
          refine chainP_soft (a1 := ?ma6) (by kernel_rfl) (by kernel_rfl) ?mh6 ?mr6
          case mh6 =>
            intro u hu E hE
            subst hu
            go_wp2
            rfl
          refine chainP_soft (a1 := ?ma7) (by kernel_rfl) (by kernel_rfl) ?mh7 ?mr7
          case mh7 =>
            intro u hu E hE
            subst hu
            go_wp2
            rfl
          refine chainP_soft (a1 := ?ma8) (by kernel_rfl) (by kernel_rfl) ?mh8 ?mr8
          case mh8 =>
            intro u hu E hE
            subst hu
            go_wp2
            rfl
          refine chainP_soft (a1 := ?ma9) (by kernel_rfl) (by kernel_rfl) ?mh9 ?mr9
          case mh9 =>
            intro u hu E hE
            subst hu
            go_wp2
            rfl
          refine chainP_soft (a1 := ?ma10) (by kernel_rfl) (by kernel_rfl) ?mh10 ?mr10
          case mh10 =>
            intro u hu E hE
            subst hu
            go_wp2
            rfl
          refine chainP_nil ?_
          refine rest_lineL 10 12 [_, _] rfl (by kernel_rfl) (by decide) (by decide) (by kernel_rfl) ?_
          clear y1 y2
          have hcb : bindE (chB S5 n j) xa xb = 0 ∧ bindW (chB S5 n j) xa xb = chB S5 n (j + 1) := by rw [HXA.out, HXB.out]; exact chain_bind (HCH.out j (by omega)) (by omega)
          go_wp2_with fail
          refine (law_Bind HS0.out.law (HCH.out j (by omega)).inv xa xb).mono ?_
          rintro e6 w6 ⟨rfl, D6, hl6, st6⟩
          rw [hcb.2] at hl6
          rw [hcb.1]
          have HS6 := Lib.hid (show SlOf w p (chB S5 n (j + 1)) D6 w6 _ _ from HS0.out.did hl6 st6)
          clear hl6 st6 hcb HS0
          dsimp only
          go_wp2
          refine then_rest (rest_end (by decide) ?_)
          go_wp2
          go_roundw
          case measure => simp [intOf]; omega
          case rel => exact ⟨j + 1, D6, by omega, rfl, HS6.out⟩
        · have b2 : decide ((j : Int) + 1 < (m : Int) + 1) = false := by simp; omega
          have e : j = m := by omega
          subst e
          obtain ⟨w6, rfl⟩ : ∃ wo : World, wo = wr := ⟨_, rfl⟩
          obtain ⟨x0, hx0⟩ : ∃ x : Int, x = ((n + 0 : Nat) : Int) := ⟨_, rfl⟩
          have y1 := HS.out.at 0 (by rw [chL_len]; omega)
          rw [chL_at, ← hx0] at y1
          have HX0 := Lib.hid (show x0 = ((n : Nat) : Int) from hx0)
          have hcap1 := hcap.1
          have hbw : bindE (chB S5 n j) x0 0 = 0 ∧ bindW (chB S5 n j) x0 0 = chE (chB S5 n j) n (j + 1) := by rw [HX0.out]; exact ⟨HEN.out.be, HEN.out.bw⟩
          have HBW := Lib.hid hbw
          clear hx0 hbw
          go_wp2_with fail
          refine (sto_Mark _ HS.out.law.sto).mono ?_
          rintro e7 w7 ⟨rfl, rfl⟩
          rw [(HCH.out j (by omega)).bonds]
          go_wp2_with fail
          refine (law_Bind HS.out.law (HCH.out j (by omega)).inv x0 0).mono ?_
          rintro e8 w8 ⟨rfl, D8, hl8, st8⟩
          rw [HBW.out.2] at hl8
          rw [HBW.out.1]
          have HS8 := Lib.hid (HS.out.did hl8 st8)
          clear hl8 st8 HS y1
          dsimp only
          go_wp2_with fail
          refine (law_Get HS8.out.law HEN.out.inv 0 HTR.out ZT (by rw [show (chE (chB S5 n j) n (j + 1)).cells.length = n + (j + 1) from HEN.out.len]; omega)).mono ?_
          rintro e9 w9 ⟨a9, c10, rfl, hl9, st9, hi9⟩
          obtain ⟨hl10, st10, hf10, hr10⟩ := hl9.alloc (.cells #[.int .i64 (backT ct0 (goodT L)).k, .int .i64 (backT ct0 (goodT L)).n, .string (backT ct0 (goodT L)).s, .slice a9 (backT ct0 (goodT L)).args.length c10] 33 (0, 0))
          have hg10 : GotRel w p (chE (chB S5 n j) n (j + 1)) D8 n (j + 1) w9.heap.size (.slice (some ⟨g9, 0, none⟩) (j + 1) c9) (backT ct0 (goodT L)) a9 c10 (.int .i64 ((0 : Nat) : Int)) _ :=
            ⟨0, by omega, rfl, (HS8.out.did hl9 st9).did hl10 st10, ⟨hf10, hr10⟩, hi9.step st10⟩
          have HST := Lib.hid hg10
          clear HS8 hl9 st9 hi9 hl10 st10 hf10 hr10 hg10
          dsimp only
          go_wp2_with fail
          generalize w9.alloc (.cells #[.int .i64 (backT ct0 (goodT L)).k, .int .i64 (backT ct0 (goodT L)).n, .string (backT ct0 (goodT L)).s, .slice a9 (backT ct0 (goodT L)).args.length c10] 33 (0, 0)) = w10 at *
          generalize w9.heap.size = r13 at *
          go_loopw [97] (fun v97 wr => GotRel w p (chE (chB S5 n j) n (j + 1)) D8 n (j + 1) r13 (.slice (some ⟨g9, 0, none⟩) (j + 1) c9) (backT ct0 (goodT L)) a9 c10 v97 wr) (fun v97 _ => j + 1 - (intOf v97).toNat)
          case atStart => exact HST.out
          case round =>
            clear HST
            obtain ⟨i, hi, rfl, hs, hr, ht⟩ := hrel
            have HS := Lib.hid hs
            have HR := Lib.hid hr
            have HT := Lib.hid ht
            clear hs hr ht
            by_cases hij : i < j + 1
            · have b3 : decide ((i : Int) < (j : Int) + 1) = true := by simp; omega
              obtain ⟨x, hx⟩ : ∃ x : Int, x = ((n + i : Nat) : Int) := ⟨_, rfl⟩
              have y1 := HS.out.at i (by rw [chL_len]; omega)
              rw [chL_at, ← hx] at y1
              have hlt : n + i < (chE (chB S5 n j) n (j + 1)).cells.length := by rw [show (chE (chB S5 n j) n (j + 1)).cells.length = n + (j + 1) from HEN.out.len]; omega
              have hget := law_Get HS.out.law HEN.out.inv (n + i) (HTR.out.fol ((HEN.out.fol i hij).trans HEN.out.fol0.symm)) ZT hlt
              rw [← hx] at hget
              have HGET := Lib.hid hget
              have HX := Lib.hid hx
              have HLT := Lib.hid hlt
              clear hx hget hlt
              go_wp2_with fail
              refine HGET.out.mono ?_
              rintro e11 w11 ⟨a11, c11, rfl, hl11, st11, hi11⟩
              obtain ⟨hl12, st12, hf12, hr12⟩ := hl11.alloc (.cells #[.int .i64 (backT ct0 (goodT L)).k, .int .i64 (backT ct0 (goodT L)).n, .string (backT ct0 (goodT L)).s, .slice a11 (backT ct0 (goodT L)).args.length c11] 33 (0, 0))
              have HS12 := Lib.hid ((HS.out.did hl11 st11).did hl12 st12)
              have HR12 := Lib.hid ((HR.out.step st11).step st12)
              have HT12 := Lib.hid ((HT.out.step st11).step st12)
              have HI12 := Lib.hid (hi11.step st12)
              have HQ12 := Lib.hid (show RowF D8 _ _ _ from ⟨hf12, hr12⟩)
              clear HS HR HT HGET hl11 st11 hi11 hl12 st12 hf12 hr12 y1
              dsimp only
              obtain ⟨q0, q1, q2, q3⟩ := row4 HQ12.out.2
              obtain ⟨p0, p1, p2, p3⟩ := row4 HR12.out.2
              go_wp2_with fail
              clear q0 q1 q2 q3 p0 p1 p2 p3
              generalize w11.alloc (.cells #[.int .i64 (backT ct0 (goodT L)).k, .int .i64 (backT ct0 (goodT L)).n, .string (backT ct0 (goodT L)).s, .slice a11 (backT ct0 (goodT L)).args.length c11] 33 (0, 0)) = w12 at *
              generalize w11.heap.size = r17 at *
              refine (ref_same _ _ _ _ _ _ _ _ (Nat.le_refl _) (by omega) HI12.out HT12.out).mono ?_
              rintro e13 w13 ⟨rfl, hb13⟩
              obtain ⟨hl13, st13, -⟩ := HS12.out.law.below hb13
              have HS13 := Lib.hid (HS12.out.did hl13 st13)
              have HR13 := Lib.hid (HR12.out.step st13)
              have HT13 := Lib.hid (HT12.out.step st13)
              clear hb13 hl13 st13 HS12 HR12 HT12 HI12 HQ12
              rw [SS.out]
              dsimp only
              go_wp2_with fail
              obtain ⟨f1, hf1⟩ := HEN.out.inv.folch HLT.out
              rw [HEN.out.fol i hij] at hf1
              have hfl := sto_Follow w13 HS13.out.law.sto f1 (n + i) 0 hf1
              rw [← HX.out] at hfl
              refine hfl.mono ?_
              rintro e14 w14 ⟨rfl, rfl⟩
              clear hfl hf1
              go_wp2_with fail
              obtain ⟨f2, hf2⟩ := HEN.out.inv.folch (x := 0) (Nat.lt_of_le_of_lt (Nat.zero_le _) HLT.out)
              rw [HEN.out.fol0] at hf2
              refine (sto_Follow w13 HS13.out.law.sto f2 0 0 hf2).mono ?_
              rintro e15 w15 ⟨rfl, rfl⟩
              clear hf2
              go_wp2
              go_roundw
              case measure => simp [intOf]; omega
              case rel => exact ⟨i + 1, by omega, rfl, HS13.out, HR13.out, HT13.out⟩
            · have b3 : decide ((i : Int) < (j : Int) + 1) = false := by simp; omega
              obtain ⟨w11, rfl⟩ : ∃ wo : World, wo = wr := ⟨_, rfl⟩
              go_wp2_with fail
              refine (law_Undo HS.out.law HEN.out.inv 0).mono ?_
              rintro e12 w12 ⟨rfl, D12, hl12, st12⟩
              rw [show undoS (chE (chB S5 n j) n (j + 1)) 0 = S5 from HEN.out.undo] at hl12
              have HS12 := Lib.hid (HS.out.did hl12 st12)
              clear HS HR HT hl12 st12
              have y1 := HS12.out.at 0 (by rw [chL_len]; omega)
              rw [chL_at, show ((n + 0 : Nat) : Int) = x0 from HX0.out.symm] at y1
              go_wp2_with fail
              obtain ⟨c, hc1', hc2', hc3', hc4'⟩ := HLK.out
              have hlk := sto_Look w12 HS12.out.law.sto 0 n n c hc4' hc1' (by have := (HCH.out 0 (by omega)).inv.small; show S5.cells.length ≤ _; exact Nat.le_trans this (by omega)) (by rw [hc3']; exact Nat.zero_le _)
              rw [← HX0.out] at hlk
              refine hlk.mono ?_
              rintro e13 w13 ⟨v13, rfl, -, hb13⟩
              have hsh : aggS (shellC n c) = .agg #[.int .i64 1, .int .i64 x0, .string ⟨#[]⟩, .slice none 0 0] := by unfold shellC; rw [if_pos hc2', ← HX0.out]; rfl
              rw [hsh]
              obtain ⟨hl13, st13, -⟩ := HS12.out.law.below hb13
              have HS13 := Lib.hid (HS12.out.did hl13 st13)
              clear hlk hc1' hc2' hc3' hc4' hsh hb13 hl13 st13 y1
              obtain ⟨hl14, st14, hf14, hr14⟩ := HS13.out.law.alloc (.cells #[.int .i64 1, .int .i64 x0, .string ⟨#[]⟩, .slice none 0 0] 33 (0, 0))
              have HS14 := Lib.hid (HS13.out.did hl14 st14)
              have HR14 := Lib.hid (show RowF D12 _ _ _ from ⟨hf14, hr14⟩)
              clear hl14 st14 hf14 hr14 HS13
              dsimp only
              go_wp2_with fail
              generalize w13.alloc (.cells #[.int .i64 1, .int .i64 x0, .string ⟨#[]⟩, .slice none 0 0] 33 (0, 0)) = w14 at *
              generalize w13.heap.size = r19 at *
              refine wp_region_rest (by kernel_rfl) ?_
              have hdr := HS14.out.law.below (Below.refl w14.heap.size w14).drew
              have HS15 := Lib.hid (HS14.out.did hdr.1 hdr.2.1)
              have HR15 := Lib.hid (HR14.out.step hdr.2.1)
              clear hdr HS14 HR14
              generalize w14.drew = W0 at *
              have y1 := HS15.out.at 0 (by rw [chL_len]; omega)
              rw [chL_at, show ((n + 0 : Nat) : Int) = x0 from HX0.out.symm] at y1
              obtain ⟨p0, p1, p2, p3⟩ := row4 HR15.out.2
              refine rest_chainP (fun u => u = W0) 0 16 (.soft 0 (.soft 1 (.soft 2 (.soft 3 (.soft 4 (.soft 5 (.soft 6 (.soft 7 (.soft 8 (.soft 9 (.soft 10 (.soft 11 (.soft 12 (.soft 13 (.soft 14 (.soft 15 .nil)))))))))))))))) (.soft _ (.soft _ (.soft _ (.soft _ (.soft _ (.soft _ (.soft _ (.soft _ (.soft _ (.soft _ (.soft _ (.soft _ (.soft _ (.soft _ (.soft _ (.soft _ .nil)))))))))))))))) ⟨rfl, ⟨rfl, ⟨rfl, ⟨rfl, ⟨rfl, ⟨rfl, ⟨rfl, ⟨rfl, ⟨rfl, ⟨rfl, ⟨rfl, ⟨rfl, ⟨rfl, ⟨rfl, ⟨rfl, ⟨rfl, trivial⟩⟩⟩⟩⟩⟩⟩⟩⟩⟩⟩⟩⟩⟩⟩⟩ (by kernel_rfl) (by kernel_rfl) (by kernel_rfl) (by kernel_rfl) (.inl rfl) rfl ?_
              refine chainP_soft (a1 := ?ma11) (by kernel_rfl) (by kernel_rfl) ?mh11 ?mr11
              case mh11 =>
                intro u hu E hE
                subst hu
                go_wp2
                rfl
              refine chainP_soft (a1 := ?ma12) (by kernel_rfl) (by kernel_rfl) ?mh12 ?mr12
              case mh12 =>
                intro u hu E hE
                subst hu
                go_wp2
                rfl
              refine chainP_soft (a1 := ?ma13) (by kernel_rfl) (by kernel_rfl) ?mh13 ?mr13
              case mh13 =>
                intro u hu E hE
                subst hu
                go_wp2
                rfl
              refine chainP_soft (a1 := ?ma14) (by kernel_rfl) (by kernel_rfl) ?mh14 ?mr14
              case mh14 =>
                intro u hu E hE
                subst hu
                go_wp2
                rfl
              refine chainP_soft (a1 := ?ma15) (by kernel_rfl) (by kernel_rfl) ?mh15 ?mr15
              case mh15 =>
                intro u hu E hE
                subst hu
                go_wp2
                rfl
              refine chainP_soft (a1 := ?ma16) (by kernel_rfl) (by kernel_rfl) ?mh16 ?mr16
              case mh16 =>
                intro u hu E hE
                subst hu
                go_wp2
                rfl
              refine chainP_soft (a1 := ?ma17) (by kernel_rfl) (by kernel_rfl) ?mh17 ?mr17
              case mh17 =>
                intro u hu E hE
                subst hu
                go_wp2
                rfl
              refine chainP_soft (a1 := ?ma18) (by kernel_rfl) (by kernel_rfl) ?mh18 ?mr18
              case mh18 =>
                intro u hu E hE
                subst hu
                go_wp2
                rfl
              refine chainP_soft (a1 := ?ma19) (by kernel_rfl) (by kernel_rfl) ?mh19 ?mr19
              case mh19 =>
                intro u hu E hE
                subst hu
                go_wp2
                rfl
              refine chainP_soft (a1 := ?ma20) (by kernel_rfl) (by kernel_rfl) ?mh20 ?mr20
              case mh20 =>
                intro u hu E hE
                subst hu
                go_wp2
                rfl
              refine chainP_soft (a1 := ?ma21) (by kernel_rfl) (by kernel_rfl) ?mh21 ?mr21
              case mh21 =>
                intro u hu E hE
                subst hu
                go_wp2
                rfl
              refine chainP_soft (a1 := ?ma22) (by kernel_rfl) (by kernel_rfl) ?mh22 ?mr22
              case mh22 =>
                intro u hu E hE
                subst hu
                go_wp2
                rfl
              refine chainP_soft (a1 := ?ma23) (by kernel_rfl) (by kernel_rfl) ?mh23 ?mr23
              case mh23 =>
                intro u hu E hE
                subst hu
                go_wp2
                rfl
              refine chainP_soft (a1 := ?ma24) (by kernel_rfl) (by kernel_rfl) ?mh24 ?mr24
              case mh24 =>
                intro u hu E hE
                subst hu
                go_wp2
                rfl
              refine chainP_soft (a1 := ?ma25) (by kernel_rfl) (by kernel_rfl) ?mh25 ?mr25
              case mh25 =>
                intro u hu E hE
                subst hu
                go_wp2
                rfl
              refine chainP_soft (a1 := ?ma26) (by kernel_rfl) (by kernel_rfl) ?mh26 ?mr26
              case mh26 =>
                intro u hu E hE
                subst hu
                go_wp2
                rfl
              refine chainP_nil ?_
              refine rest_end (by decide) ?_
              clear y1 p0 p1 p2 p3
              go_wp2
              go_ret
              exact ⟨rfl, HS15.out.law.bel⟩
end Go.Proofs.Ytfocabdfmpebnaa.Tms
