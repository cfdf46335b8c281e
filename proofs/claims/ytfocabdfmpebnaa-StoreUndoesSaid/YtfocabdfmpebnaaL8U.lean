
/-
  StoreUndoes, walked over the program.
-/
import Derived.Test.YtfocabdfmpebnaaSlb
import Derived.Test.YtfocabdfmpebnaaGr8
namespace Go.Proofs.Ytfocabdfmpebnaa.Tms
open Go Go.RowKit Go.Proofs.Ytfocabdfmpebnaa.Reg Go.Proofs.Ytfocabdfmpebnaa.Rws Go.Proofs.Ytfocabdfmpebnaa.Maps
set_option linter.unusedVariables false
set_option linter.unusedSimpArgs false

/-- the steps so far -/
def UnRel (w : World) (p mb : Nat) (n : Nat) (vi : Value) (wr : World) : Prop := ∃ (i : Nat) (S : Sto) (M : List (Int × Int)) (D : Nat → Prop), i ≤ n ∧ vi = .int .i64 i ∧ Inv S ∧ Law8 w p S D wr ∧ IMapB wr mb M ∧ ¬ D mb
theorem UnRel.did {w wr w' : World} {p mb n i : Nat} {S' : Sto} {M : List (Int × Int)} {D D' : Nat → Prop} (hi : i ≤ n) (hI : Inv S') (hl : Law8 w p S' D' w') (hs : Step D wr D' w') (hm : IMapB wr mb M) (hd : ¬ D mb) : UnRel w p mb n (.int .i64 i) w' :=
  ⟨i, S', M, D', hi, rfl, hI, hl, hm.below (hs.blk mb ⟨hd, hm.lt⟩).2, (hs.blk mb ⟨hd, hm.lt⟩).1.1⟩
theorem grO_no {l : List OpR} (h : grO l = false) : l.length ≤ 60 ∧ ∀ j (hj : j < l.length), l[j].l.length ≤ 60 := by
  unfold grO at h
  rw [Bool.or_eq_false_iff, List.any_eq_false] at h
  refine ⟨by have := h.2; simp at this; omega, fun j hj => ?_⟩
  have := h.1 l[j] (List.getElem_mem hj)
  simp at this
  omega
/-- an Arg, as the law writes it -/
def argT (a : Int) : Tm := .mk 2 a ⟨#[]⟩ []
theorem sizeL_args : ∀ L : List Int, sizeL (L.map argT) = L.length
  | [] => rfl
  | a :: L => by
    have := sizeL_args L
    simp only [List.map_cons, sizeL, List.length_cons, this]
    unfold argT
    simp only [Tm.size, sizeL]
    omega
/-- what a cell holds, its Args as numbers -/
noncomputable def lookT (S : Sto) (x : Nat) : Tm := .mk (shellC (fol S x) (cellF S x)).k (shellC (fol S x) (cellF S x)).n (shellC (fol S x) (cellF S x)).s ((cellF S x).args.map argT)
/-- the Args so far -/
structure InAt (w6 : World) (r : Nat) (sh : Tm) (L : List Int) (i : Nat) (q : Option Addr) (c : Nat) (wr : World) : Prop where
  row : wr.heap[r]? = some (.cells #[.int .i64 sh.k, .int .i64 sh.n, .string sh.s, .slice q i c] 33 (0, 0))
  own : Own tmKind wr (r + 1) (fun _ => False) (.slice q i c) ((L.take i).map argT)
  bel : Below r w6 wr
def InRel (w6 : World) (r : Nat) (sh : Tm) (L : List Int) (vi : Value) (wr : World) : Prop := ∃ (i : Nat) (q : Option Addr) (c : Nat), i ≤ L.length ∧ vi = .int .i64 i ∧ InAt w6 r sh L i q c wr
theorem InAt.put {w6 wr w3 : World} {r i c : Nat} {sh : Tm} {L : List Int} {q : Option Addr} {o : Obj} {v3 : Value} (h : InAt w6 r sh L i q c wr) (hi : i < L.length) (ho : Own tmKind w3 (r + 1) (fun _ => False) v3 ((L.take i).map argT ++ [argT L[i]])) (hg : (wr.alloc o).grownBy w3 (Value.slice q i c).ownBlock) :
    (w3.cell? ⟨r, 3, none⟩ = some (.slice q i c) ∧ w3.frozen? ⟨r, 3, none⟩ = false) ∧ ∃ q3 c3, v3 = .slice q3 (i + 1) c3 ∧ InAt w6 r sh L (i + 1) q3 c3 (w3.setCell ⟨r, 3, none⟩ v3) := by
  have hl : r < wr.heap.size := (Array.getElem?_eq_some_iff.1 h.row).1
  have hra : (wr.alloc o).heap[r]? = _ := (Below.heap_alloc wr o r hl).trans h.row
  have hr3 := (hg.block r (by simp; omega) (fun e => by have := (h.own.low r e.symm).1; omega)).trans hra
  rw [← List.map_singleton, ← List.map_append, ← List.take_succ_eq_append_getElem hi] at ho
  have hlen : ((L.take (i + 1)).map argT).length = i + 1 := by rw [List.length_map, List.length_take]; omega
  obtain ⟨q3, c3, rfl⟩ := own_form ho
  rw [hlen] at ho ⊢
  have e1 := heap_setCell_same w3 r 3 _ _ (.slice q3 (i + 1) c3) hr3
  refine ⟨⟨cell_of_row w3 r 3 _ _ _ hr3, frozen_of_row w3 r 3 _ _ hr3⟩, q3, c3, rfl, by simpa using e1, ho.keep (by simp [World.setCell]) fun b hb he => Below.heap_setCell _ _ _ _ ?_, ?_⟩
  · rcases he with e | e
    · exact e.elim
    · have := (ho.low b e).1
      show b ≠ r
      omega
  · exact ((h.bel.alloc (by omega) o).grown hg (by simp; omega) fun k e => by have := (h.own.low k e).1; omega).setCell (Nat.le_refl _) _
theorem InAt.full {w6 wr : World} {r c : Nat} {sh : Tm} {L : List Int} {q : Option Addr} (h : InAt w6 r sh L L.length q c wr) : tmKind.R wr (fun b => r + 1 ≤ b) [.int .i64 sh.k, .int .i64 sh.n, .string sh.s, .slice q L.length c] (.mk sh.k sh.n sh.s (L.map argT)) := by
  have ho := h.own
  rw [List.take_length] at ho
  obtain ⟨a, cap, e, hargs⟩ := own_reads ho
  simp only [Value.slice.injEq] at e
  obtain ⟨rfl, -, rfl⟩ := e
  exact ⟨q, c, by simp [Tm.k, Tm.n, Tm.s, Tm.args], ArgsFrom.imp (fun b hb => hb.elim False.elim id) (fun _ _ _ => rfl) _ _ _ hargs⟩
/-- what was looked at so far -/
def LkRel (w w5 : World) (p : Nat) (S : Sto) (D : Nat → Prop) (n : Nat) (vi v12 : Value) (wr : World) : Prop := ∃ i : Nat, i ≤ n ∧ vi = .int .i64 i ∧ Law8 w p S D wr ∧ Own tmKind wr w5.heap.size (fun b => w5.heap.size ≤ b) v12 ((List.range i).map (lookT S)) ∧ w5.heap.size ≤ wr.heap.size
/-- what was bound so far -/
def BnRel (w : World) (p : Nat) (S : Sto) (n : Nat) (was : Value) (LK : List Tm) (vi : Value) (wr : World) : Prop := ∃ (i : Nat) (T : Sto) (D : Nat → Prop), i ≤ n ∧ vi = .int .i64 i ∧ Inv T ∧ Since S T ∧ Law8 w p T D wr ∧ IsSl wr (Free D wr) was LK
theorem BpSl.at {w : World} {n c : Nat} {q : Option Addr} {l : List (Int × Int)} (h : BpSl w (.slice q n c) l) (j : Nat) (hj : j < l.length) : ∃ b off, q = some ⟨b, off, none⟩ ∧ w.cell? ⟨b, off + j * 2, none⟩ = some (.int .u8 l[j].1) ∧ w.cell? ⟨b, off + j * 2 + 1, none⟩ = some (.int .u8 l[j].2) ∧ (0 ≤ l[j].1 ∧ l[j].1 < 256) ∧ 0 ≤ l[j].2 ∧ l[j].2 < 256 := by
  obtain ⟨a, cap, e, h1, h2, h3⟩ := h
  obtain ⟨b, off, e1, hl, c0, c1, hp⟩ := h3 j hj
  simp only [Value.slice.injEq] at e
  obtain ⟨rfl, -, -⟩ := e
  exact ⟨b, off, e1, c0, c1, hp⟩
/-- what was compared so far -/
def CmRel (w : World) (p : Nat) (S : Sto) (D : Nat → Prop) (n : Nat) (was : Value) (LK : List Tm) (vi : Value) (wr : World) : Prop := ∃ i : Nat, i ≤ n ∧ vi = .int .i64 i ∧ Law8 w p S D wr ∧ IsSl wr (Free D wr) was LK
theorem tmKind_tm {w : World} {P : Nat → Prop} {k n : Int} {s : ByteArray} {q : Option Addr} {m c : Nat} {t : Tm} (h : tmKind.R w P [.int .i64 k, .int .i64 n, .string s, .slice q m c] t) : IsTm w P (.agg #[.int .i64 k, .int .i64 n, .string s, .slice q m c]) t := by
  obtain ⟨q', c', e, h⟩ := h
  simp only [List.cons.injEq, Value.int.injEq, Value.string.injEq, Value.slice.injEq, true_and, and_true] at e
  obtain ⟨rfl, rfl, rfl, rfl, rfl, rfl⟩ := e
  exact ⟨q, c, rfl, h⟩
theorem Law8.grown {w0 w w' : World} {p : Nat} {S : Sto} {D : Nat → Prop} {o : Option Nat} (h : Law8 w0 p S D w) (hg : w.grownBy w' o) (ho : ∀ b, o = some b → ¬ D b ∧ w0.heap.size ≤ b) : Law8 w0 p S D w' :=
  ⟨h.sto.keep hg.size fun b hlt hb => hg.block b hlt fun e => (ho b e.symm).1 hb, h.own, h.bel.grown hg h.bel.size fun b e => (ho b e).2⟩
set_option maxRecDepth 100000 in
set_option maxHeartbeats 4000000 in
theorem law_undoes (l : List OpR) (bs : List (Int × Int)) (v1 v2 : Value) (w : World) (h1 : OpSl w v1 l) (h2 : BpSl w v2 bs) : Calls Try.prog 4 #[v1, v2] w (Says true w) := by
  obtain ⟨a1, c1, rfl, hc1, hm1⟩ := h1.form
  obtain ⟨a2, c2, rfl, hc2, hm2⟩ := h2.form
  unfold maxLen at hm1 hm2
  have H1 := Lib.hid h1
  have H2 := Lib.hid h2
  clear h1 h2
  cases hg : grO l with
  | true =>
    have HG := Lib.hid hg
    clear hg
    go_enter Try.func4, Try.ntmps4
    go_wp2_with fail
    refine (alive8 _).mono ?_; rintro e1 w1 ⟨rfl, hb1⟩; have HB := Lib.hid hb1; clear hb1
    go_wp2_with fail
    refine (great8 l _ _ (H1.out.below HB.out)).mono ?_; rintro e2 w2 ⟨rfl, hb2⟩
    have HB2 := Lib.hid (HB.out.trans (hb2.mono HB.out.size)); clear hb2
    rw [HG.out]
    go_wp2
    go_ret
    exact ⟨rfl, HB2.out⟩
  | false =>
  have HG := Lib.hid hg
  have HGN := Lib.hid (grO_no hg)
  clear hg
  by_cases g2 : 100 < bs.length
  · have d2 : decide (100 < (bs.length : Int)) = true := by simp; omega
    go_enter Try.func4, Try.ntmps4
    go_wp2_with fail
    refine (alive8 _).mono ?_; rintro e1 w1 ⟨rfl, hb1⟩; have HB := Lib.hid hb1; clear hb1
    go_wp2_with fail
    refine (great8 l _ _ (H1.out.below HB.out)).mono ?_; rintro e2 w2 ⟨rfl, hb2⟩
    have HB2 := Lib.hid (HB.out.trans (hb2.mono HB.out.size)); clear hb2
    rw [HG.out]
    go_wp2
    go_ret
    exact ⟨rfl, HB2.out⟩
  have d2 : decide (100 < (bs.length : Int)) = false := by simp; omega
  have hll : l.length ≤ 60 := HGN.out.1
  go_enter Try.func4, Try.ntmps4
  go_wp2_with fail
  refine (alive8 _).mono ?_; rintro e1 w1 ⟨rfl, hb1⟩; have HB := Lib.hid hb1; clear hb1
  go_wp2_with fail
  refine (great8 l _ _ (H1.out.below HB.out)).mono ?_; rintro e2 w2 ⟨rfl, hb2⟩
  have HB2 := Lib.hid (HB.out.trans (hb2.mono HB.out.size)); clear hb2 HB
  rw [HG.out]
  go_wp2_with fail
  refine (law_New w w2 HB2.out 2000 (by decide) (by decide)).mono ?_
  rintro e3 w3 ⟨rfl, D3, hl3, hb3⟩
  obtain ⟨hl4, st4, hf4, -⟩ := hl3.alloc (.map #[] 0)
  have hz4 : w.heap.size ≤ w3.heap.size := hl3.bel.size
  have hun : UnRel w w2.heap.size w3.heap.size l.length (.int .i64 ((0 : Nat) : Int)) (w3.alloc (.map #[] 0)) :=
    ⟨0, ⟨2000, [], []⟩, [], D3, by omega, rfl, Inv.new _ (by decide) (by decide), hl4, IMapB.made w3, hf4.1⟩
  have HUN := Lib.hid hun
  clear hl3 hb3 hl4 st4 hf4 hun HB2
  generalize w2.heap.size = p at *
  dsimp only
  go_wp2_with (with_reducible show wpList _ _ _ (⟨some 40, _, _, _, _, _⟩ :: _) _ _
               refine wpList_imap_made rfl _ rfl ?_)
  generalize w3.alloc (.map #[] 0) = w4 at *
  generalize w3.heap.size = mb at *
  go_loopw [43] (fun v43 wr => UnRel w p mb l.length v43 wr) (fun v43 _ => l.length - (intOf v43).toNat)
  case atStart => exact HUN.out
  case round =>
    clear HUN
    obtain ⟨i, S, M, D, hi, rfl, hI, hL, hM, hD⟩ := hrel
    have HI := Lib.hid hI
    have HL := Lib.hid hL
    have HM := Lib.hid hM
    have HD := Lib.hid hD
    clear hI hL hM hD
    by_cases hil : i < l.length
    · have b1 : decide ((i : Int) < (l.length : Int)) = true := by simp; omega
      obtain ⟨b, off, a', c', rfl, x0, x1, x2, x3, hp⟩ := (H1.out.below HL.out.bel).at i hil
      obtain ⟨hl5, st5, hf5, hr5⟩ := HL.out.alloc (.cells #[.int .i64 l[i].k, .int .i64 l[i].a, .int .i64 l[i].b, .slice a' l[i].l.length c'] 49 (0, 0))
      obtain ⟨y0, y1, y2, y3⟩ := row4 hr5
      have HP5 := Lib.hid (hp.below (below_new wr (.cells #[.int .i64 l[i].k, .int .i64 l[i].a, .int .i64 l[i].b, .slice a' l[i].l.length c'] 49 (0, 0))))
      have HL5 := Lib.hid hl5
      have HM5 := Lib.hid (HM.out.below (st5.blk mb ⟨HD.out, HM.out.lt⟩).2)
      clear hp hl5 st5 hf5 hr5
      generalize hk : l[i].k = k at *
      by_cases k1 : k = 1
      · have e1 : (k == 1) = true := by simpa using k1
        have HK := Lib.hid hk
        clear hk k1
        go_wp2_with fail
        refine (law_FreshE HL5.out HI.out).mono ?_
        rintro e6 w6 ⟨rfl, D6, hl6, st6⟩
        have HR6 := Lib.hid (UnRel.did (i := i + 1) (n := l.length) (by omega) HI.out.freshW.1 hl6 st6 HM5.out HD.out)
        clear hl6 st6 x0 x1 x2 x3 y0 y1 y2 y3
        dsimp only
        go_wp2
        go_roundw
        case measure => simp [intOf]; omega
        case rel => exact HR6.out
      by_cases k2 : k = 2
      · have e1 : (k == 1) = false := by simpa using k1
        have e2 : (k == 2) = true := by simpa using k2
        have HK := Lib.hid hk
        have hll5 := HGN.out.2 i hil
        clear hk k1 k2
        go_wp2_with fail
        refine (ref_good l[i].l _ _ (by omega) HP5.out).mono ?_
        rintro e6 w6 ⟨v6, rfl, hi6, hb6⟩
        obtain ⟨b1', k1', rfl⟩ := hi6.form
        have hgs := goodT_size l[i].l
        obtain ⟨hl6, st6, -⟩ := HL5.out.below hb6
        have HD5 := Lib.hid HL5.out.dl
        have HI6 := Lib.hid hi6
        have HL6 := Lib.hid hl6
        have HM6 := Lib.hid (HM5.out.below (st6.blk mb ⟨HD.out, HM5.out.lt⟩).2)
        clear hi6 hb6 hl6 st6 HL5 HM5 x0 x1 x2 x3 y0 y1 y2 y3
        go_wp2_with fail
        refine (law_PutV HL6.out HI.out HM6.out HD.out hz4 HI6.out (fun b hb e => by have := HD5.out b e; rcases hb with hb | hb; exact hb; omega) (by omega)).mono ?_
        rintro e7 w7 ⟨rfl, D7, F, hput⟩
        have HR7 := Lib.hid (show UnRel w p mb l.length (.int .i64 ((i + 1 : Nat) : Int)) w7 from ⟨i + 1, _, _, D7, by omega, rfl, (HI.out.putW M (goodT l[i].l)).1, hput.law, hput.map, hput.free⟩)
        clear hput HD5 HI6 HL6 HM6
        dsimp only
        go_wp2
        go_roundw
        case measure => simp [intOf]; omega
        case rel => exact HR7.out
      by_cases k3 : k = 3
      · have e1 : (k == 1) = false := by simpa using k1
        have e2 : (k == 2) = false := by simpa using k2
        have e3 : (k == 3) = true := by simpa using k3
        have HK := Lib.hid hk
        clear hk k1 k2 k3
        go_wp2_with fail
        refine (law_Bind HL5.out HI.out _ _).mono ?_
        rintro e6 w6 ⟨rfl, D6, hl6, st6⟩
        have HR6 := Lib.hid (UnRel.did (i := i + 1) (n := l.length) (by omega) (HI.out.bindW _ _).1 hl6 st6 HM5.out HD.out)
        clear hl6 st6 x0 x1 x2 x3 y0 y1 y2 y3
        dsimp only
        go_wp2
        go_roundw
        case measure => simp [intOf]; omega
        case rel => exact HR6.out
      · have e1 : (k == 1) = false := by simpa using k1
        have e2 : (k == 2) = false := by simpa using k2
        have e3 : (k == 3) = false := by simpa using k3
        have HR6 := Lib.hid (show UnRel w p mb l.length (.int .i64 ((i + 1 : Nat) : Int)) _ from ⟨i + 1, S, M, D, by omega, rfl, HI.out, HL5.out, HM5.out, HD.out⟩)
        have HK := Lib.hid hk
        clear hk k1 k2 k3
        go_wp2
        go_roundw
        case measure => simp [intOf]; omega
        case rel => exact HR6.out
    · have b1 : decide ((i : Int) < (l.length : Int)) = false := by simp; omega
      clear HM HD
      obtain ⟨w5, rfl⟩ : ∃ wo : World, wo = wr := ⟨_, rfl⟩
      go_wp2_with fail
      refine (sto_Cells _ HL.out.sto).mono ?_
      rintro e6 w6 ⟨rfl, rfl⟩
      go_wp2_with fail
      refine (sto_Mark _ HL.out.sto).mono ?_
      rintro e6 w6 ⟨rfl, rfl⟩
      obtain ⟨n, hn⟩ : ∃ n, n = S.cells.length := ⟨_, rfl⟩
      rw [← hn]
      have HN := Lib.hid hn
      clear hn
      have hlk : LkRel w w5 p S D n (.int .i64 ((0 : Nat) : Int)) (.slice none 0 0) w5 := ⟨0, by omega, rfl, HL.out, Own.nil _ _ _, Nat.le_refl _⟩
      have HLK := Lib.hid hlk
      have HDL := Lib.hid HL.out.dl
      have HW5 := Lib.hid HL.out.bel.size
      clear hlk
      go_wp2
      go_loopw [75, 12] (fun v75 v12 wr => LkRel w w5 p S D n v75 v12 wr) (fun v75 _ _ => n - (intOf v75).toNat)
      case atStart => exact HLK.out
      case round =>
        clear HLK HL
        obtain ⟨x, hx, rfl, hL, hO, hz⟩ := hrel
        obtain ⟨q12, c12, e12⟩ := own_form hO
        rw [show ((List.range x).map (lookT S)).length = x by simp] at e12
        subst e12
        have HL := Lib.hid hL
        have HO := Lib.hid hO
        clear hL hO
        obtain ⟨wp, rfl⟩ : ∃ wo : World, wo = wr := ⟨_, rfl⟩
        by_cases hxn : x < n
        · have b2 : decide ((x : Int) < (n : Int)) = true := by simp; omega
          go_wp2_with fail
          refine (law_Look HL.out HI.out x (by rw [← HN.out]; exact hxn)).mono ?_
          rintro e6 w6 ⟨v6, rfl, hl6, st6, hv6⟩
          obtain ⟨sh, hsh⟩ : ∃ sh, sh = shellC (fol S x) (cellF S x) := ⟨_, rfl⟩
          obtain ⟨L, hLa⟩ : ∃ L, L = (cellF S x).args := ⟨_, rfl⟩
          rw [← hsh]
          rw [← hLa] at hv6
          have hlk : lookT S x = .mk sh.k sh.n sh.s (L.map argT) := by unfold lookT; rw [← hsh, ← hLa]
          have hLl : L.length ≤ 255 := by
            obtain ⟨f, -, hg⟩ := HI.out.stoIn.fol (x := x) (by rw [← HN.out]; exact hxn)
            rw [hLa]; exact (HI.out.cell _ _ hg).len
          obtain ⟨q6, c6, e6, hc6, hc7, hel⟩ := id hv6
          subst e6
          have HEL := Lib.hid hel
          have HSH := Lib.hid hlk
          have hb6 := below_new w6 (.cells #[.int .i64 sh.k, .int .i64 sh.n, .string sh.s, .slice none 0 0] 33 (0, 0))
          have hn6 := heap_alloc_new w6 (.cells #[.int .i64 sh.k, .int .i64 sh.n, .string sh.s, .slice none 0 0] 33 (0, 0))
          have hin : InRel w6 w6.heap.size sh L (.int .i64 ((0 : Nat) : Int)) (w6.alloc (.cells #[.int .i64 sh.k, .int .i64 sh.n, .string sh.s, .slice none 0 0] 33 (0, 0))) := ⟨0, none, 0, by omega, rfl, hn6, Own.nil _ _ _, hb6⟩
          have HIN := Lib.hid hin
          have HL6 := Lib.hid hl6
          have HS6 := Lib.hid st6
          clear hsh hLa hlk hel hb6 hn6 hin hl6 st6 hv6
          dsimp only
          go_wp2_with fail
          generalize w6.alloc (.cells #[.int .i64 sh.k, .int .i64 sh.n, .string sh.s, .slice none 0 0] 33 (0, 0)) = w7 at *
          obtain ⟨r, hr⟩ : ∃ r, r = w6.heap.size := ⟨_, rfl⟩
          rw [← hr] at HIN ⊢
          have HRR := Lib.hid hr
          clear hr
          go_loopw [86] (fun v86 wr => InRel w6 r sh L v86 wr) (fun v86 _ => L.length - (intOf v86).toNat)
          case atStart => exact HIN.out
          case round =>
            clear HIN
            obtain ⟨i, q, c, hi, rfl, hat⟩ := hrel
            have HAT := Lib.hid hat
            clear hat
            by_cases hiL : i < L.length
            · have b3 : decide ((i : Int) < (L.length : Int)) = true := by simp; omega
              obtain ⟨g6, o6, e6, -, hlt6, hc6'⟩ := HEL.out i hiL
              obtain ⟨a, ha⟩ : ∃ a, a = L[i] := ⟨_, rfl⟩
              have z6 : wr.cell? ⟨g6, o6 + i, none⟩ = some (.int .i64 a) := (HAT.out.bel.cell (p := ⟨g6, o6 + i, none⟩) (by rw [HRR.out]; exact hlt6)).trans (by rw [ha]; exact hc6')
              subst e6
              have HA := Lib.hid ha
              obtain ⟨y0, y1, y2, y3⟩ := row4 HAT.out.row
              have hba := below_new wr (.cells #[.int .i64 2, .int .i64 a, .string ⟨#[]⟩, .slice none 0 0] 33 (0, 0))
              have HNA := Lib.hid (heap_alloc_new wr (.cells #[.int .i64 2, .int .i64 a, .string ⟨#[]⟩, .slice none 0 0] 33 (0, 0)))
              have HOA := Lib.hid (HAT.out.own.below hba)
              have hzr : r < wr.heap.size := (Array.getElem?_eq_some_iff.1 HAT.out.row).1
              have hza : (wr.alloc (.cells #[.int .i64 2, .int .i64 a, .string ⟨#[]⟩, .slice none 0 0] 33 (0, 0))).heap.size = wr.heap.size + 1 := by simp
              have hlen : ((L.take i).map argT).length = i := by rw [List.length_map, List.length_take]; omega
              have HLEN := Lib.hid hlen
              clear ha hba hc6' hlen
              go_wp2_with (with_reducible show wpList _ _ _ (⟨some 95, _, _, _, _, _⟩ :: _) _ _
                           refine wpList_put (K := tmKind) rfl (.tmp 91) (.tmp 94) _ rfl Try.underlying31 info_tm rfl (r + 1) (fun _ => False) _ ((L.take i).map argT) [.int .i64 2, .int .i64 a, .string ⟨#[]⟩, .slice none 0 0] (argT a) _ _ _ _ rfl HOA.out rfl HNA.out ⟨none, 0, rfl, by unfold argT; unfold ArgsFrom; trivial⟩ (by rw [HLEN.out]; unfold maxLen; omega) (by rw [HLEN.out]; omega) (by omega) ?_
                           intro v7 w8 ho7 hb7 hg7 hv7
                           rw [HA.out] at ho7
                           obtain ⟨⟨u1, u2⟩, q3, c3, rfl, hat3⟩ := HAT.out.put hiL ho7 hg7
                           have HAT3 := Lib.hid hat3
                           clear ho7 hb7 hg7 hv7 hat3 y0 y1 y2 y3 z6)
              go_roundw
              case measure => simp [intOf]; omega
              case rel => exact ⟨i + 1, q3, c3, by omega, rfl, HAT3.out⟩
            · have b3 : decide ((i : Int) < (L.length : Int)) = false := by simp; omega
              have e : i = L.length := by omega
              subst e
              obtain ⟨w8, rfl⟩ : ∃ wo : World, wo = wr := ⟨_, rfl⟩
              have hfull := HAT.out.full
              rw [← HSH.out] at hfull
              obtain ⟨y0, y1, y2, y3⟩ := row4 HAT.out.row
              have hba := below_new w8 (.cells #[.int .i64 sh.k, .int .i64 sh.n, .string sh.s, .slice q L.length c] 33 (0, 0))
              have HNA := Lib.hid (heap_alloc_new w8 (.cells #[.int .i64 sh.k, .int .i64 sh.n, .string sh.s, .slice q L.length c] 33 (0, 0)))
              have hb8 : Below w6.heap.size w6 w8 := by rw [← HRR.out]; exact HAT.out.bel
              have hl8 := HL6.out.below hb8
              have hl9 := hl8.1.below hba
              have hz6 := HS6.out.size
              have hz8 := hb8.size
              have hz9 : (w8.alloc (.cells #[.int .i64 sh.k, .int .i64 sh.n, .string sh.s, .slice q L.length c] 33 (0, 0))).heap.size = w8.heap.size + 1 := by simp
              have hst9 := (HS6.out.trans hl8.2.1).trans hl9.2.1
              have ho9 := HO.out.keep hst9.size fun b hb he => (hst9.blk b ⟨fun e => by have := HDL.out b e; rcases he with he | he; omega; have := (HO.out.low b he).1; omega, hb⟩).2
              have hlow := HO.out.low
              have hy9 := tmKind.mono (w' := w8.alloc (.cells #[.int .i64 sh.k, .int .i64 sh.n, .string sh.s, .slice q L.length c] 33 (0, 0))) (P' := fun b => w5.heap.size ≤ b ∧ Value.ownBlock (.slice q12 x c12) ≠ some b) (fun b hb => ⟨by have := HRR.out; omega, fun e => by have := hlow b e; have := HRR.out; omega⟩) (fun b hb hlt => hba.block b hlt) (tmKind.lt hfull)
              have HY9 := Lib.hid hy9
              have HO9 := Lib.hid ho9
              have HL9 := Lib.hid hl9.1
              have HZ9 := Lib.hid (Nat.le_trans hz hst9.size)
              have hln : ((List.range x).map (lookT S)).length = x := by simp
              have HLN := Lib.hid hln
              have hsmall : x < 20000000 := by have := HI.out.small; have := HN.out; omega
              clear hfull hba hb8 hl8 hl9 hz6 hz8 hz9 hst9 ho9 hlow hy9 hln
              go_wp2_with (with_reducible show wpList _ _ _ (⟨some 101, _, _, _, _, _⟩ :: _) _ _
                           refine wpList_put (K := tmKind) rfl (.tmp 98) (.tmp 100) _ rfl Try.underlying31 info_tm rfl w5.heap.size (fun b => w5.heap.size ≤ b) _ ((List.range x).map (lookT S)) [.int .i64 sh.k, .int .i64 sh.n, .string sh.s, .slice q L.length c] (lookT S x) _ _ _ _ rfl HO9.out rfl HNA.out HY9.out (by rw [HLN.out]; unfold maxLen; omega) (by rw [HLN.out]; omega) HZ9.out ?_
                           intro v10 w10 ho10 hb10 hg10 hv10
                           have hl10 := HL9.out.grown hg10 fun b e => by
                             have := (HO9.out.low b e).1
                             have := HL.out.bel.size
                             exact ⟨fun e => by have := HDL.out b e; omega, by have := HW5.out; omega⟩
                           have hlk10 : LkRel w w5 p S D n (.int .i64 ((x + 1 : Nat) : Int)) v10 w10 := ⟨x + 1, by omega, rfl, hl10, by rw [List.range_succ, List.map_append]; exact ho10, by have := HZ9.out; have := hg10.size; omega⟩
                           have HLK10 := Lib.hid hlk10
                           clear ho10 hb10 hg10 hv10 hl10 hlk10 y0 y1 y2 y3)
              go_roundw
              case measure => simp [intOf]; omega
              case rel => exact HLK10.out
        · have b2 : decide ((x : Int) < (n : Int)) = false := by simp; omega
          have e : x = n := by omega
          subst e
          obtain ⟨LK, hLK⟩ : ∃ LK, LK = (List.range x).map (lookT S) := ⟨_, rfl⟩
          have hwas : IsSl wp (Free D wp) (.slice q12 x c12) LK := by
            rw [hLK]
            exact (own_reads HO.out).low.imp (fun b hb => ⟨fun e => by have := HDL.out b e; rcases hb.1 with h | h <;> omega, hb.2⟩) fun _ _ _ => rfl
          have hbn : BnRel w p S bs.length (.slice q12 x c12) LK (.int .i64 ((0 : Nat) : Int)) wp := ⟨0, S, D, by omega, rfl, HI.out, .refl, HL.out, hwas⟩
          have HBN := Lib.hid hbn
          have HLK := Lib.hid hLK
          clear HL HO hLK hwas hbn hz hx
          go_wp2
          go_loopw [105] (fun v105 wr => BnRel w p S bs.length (.slice q12 x c12) LK v105 wr) (fun v105 _ => bs.length - (intOf v105).toNat)
          case atStart => exact HBN.out
          case round =>
            clear HBN
            obtain ⟨i, T, D', hi, rfl, hI, hS, hL, hW⟩ := hrel
            have HIT := Lib.hid hI
            have HST := Lib.hid hS
            have HLT := Lib.hid hL
            have HWT := Lib.hid hW
            clear hI hS hL hW
            by_cases hib : i < bs.length
            · have b3 : decide ((i : Int) < (bs.length : Int)) = true := by simp; omega
              obtain ⟨g8, o8, e8, z0, z1, ⟨m0, m1⟩, m2, m3⟩ := (H2.out.below HLT.out.bel).at i hib
              subst e8
              generalize bs[i].1 = xa at *
              generalize bs[i].2 = xb at *
              obtain ⟨hl9, st9, hf9, hr9⟩ := HLT.out.alloc (.cells #[.int .u8 xa, .int .u8 xb] 53 (0, 0))
              have HL9 := Lib.hid hl9
              have HW9 := Lib.hid (HWT.out.step st9)
              have HR9 := Lib.hid (show RowF D' _ _ _ from ⟨hf9, hr9⟩)
              clear hl9 st9 hf9 hr9 HLT HWT
              by_cases hx0 : 0 < x
              · have b4 : decide ((0 : Int) < (x : Int)) = true := by simp; omega
                have hx1 : (0 : Int) < (x : Int) := by omega
                have hx2 : ((x : Int) == 0) = false := by simp; omega
                have hx3 : (x : Int) ≤ 20000000 := by have := HI.out.small; have := HN.out; omega
                go_wp2
                generalize wr.alloc (.cells #[.int .u8 xa, .int .u8 xb] 53 (0, 0)) = w9 at *
                generalize wr.heap.size = r19 at *
                refine wp_region_rest (by kernel_rfl) ?_
                have hdr := HL9.out.below (Below.refl w9.heap.size w9).drew
                have HL10 := Lib.hid hdr.1
                have HW10 := Lib.hid (HW9.out.step hdr.2.1)
                have HR10 := Lib.hid (HR9.out.step hdr.2.1)
                clear hdr HL9 HW9 HR9
                generalize w9.drew = W0 at *
                have p0 : W0.cell? ⟨r19, 0, none⟩ = some (.int .u8 xa) := cell_of_row _ _ 0 _ _ _ HR10.out.2
                have p1 : W0.cell? ⟨r19, 1, none⟩ = some (.int .u8 xb) := cell_of_row _ _ 1 _ _ _ HR10.out.2
                clear z0 z1
                refine rest_chainP (fun u => u = W0) 0 11 (.soft 0 (.soft 1 (.soft 2 (.soft 3 (.soft 4 (.soft 5 (.soft 6 (.soft 7 (.soft 8 (.soft 9 (.soft 10 .nil))))))))))) (.soft _ (.soft _ (.soft _ (.soft _ (.soft _ (.soft _ (.soft _ (.soft _ (.soft _ (.soft _ (.soft _ .nil))))))))))) ⟨rfl, ⟨rfl, ⟨rfl, ⟨rfl, ⟨rfl, ⟨rfl, ⟨rfl, ⟨rfl, ⟨rfl, ⟨rfl, ⟨rfl, trivial⟩⟩⟩⟩⟩⟩⟩⟩⟩⟩⟩ (by kernel_rfl) (by kernel_rfl) (by kernel_rfl) (by kernel_rfl) (.inr (by kernel_rfl)) rfl ?_
                refine chainP_soft (a1 := ?ma1) (by kernel_rfl) (by kernel_rfl) ?mh1 ?mr1
                case mh1 =>
                  intro u hu E hE
                  subst hu
                  go_wp2
                  rfl
                refine chainP_soft (a1 := ?ma2) (by kernel_rfl) (by kernel_rfl) ?mh2 ?mr2
                case mh2 =>
                  intro u hu E hE
                  subst hu
                  go_wp2
                  rfl
                refine chainP_soft (a1 := ?ma3) (by kernel_rfl) (by kernel_rfl) ?mh3 ?mr3
                case mh3 =>
                  intro u hu E hE
                  subst hu
                  go_wp2
                  rfl
                refine chainP_soft (a1 := ?ma4) (by kernel_rfl) (by kernel_rfl) ?mh4 ?mr4
                case mh4 =>
                  intro u hu E hE
                  subst hu
                  go_wp2
                  rfl
                refine chainP_soft (a1 := ?ma5) (by kernel_rfl) (by kernel_rfl) ?mh5 ?mr5
                case mh5 =>
                  intro u hu E hE
                  subst hu
                  go_wp2
                  rfl
                refine chainP_soft (a1 := ?ma6) (by kernel_rfl) (by kernel_rfl) ?mh6 ?mr6
                case mh6 =>
                  intro u hu E hE
                  subst hu
                  go_wp2
                  rfl
                refine chainP_soft (a1 := ?ma7) (by kernel_rfl) (by kernel_rfl) ?mh7 ?mr7
                case mh7 =>
                  intro u hu E hE
                  subst hu
                  go_wp2
                  rfl
                refine chainP_soft (a1 := ?ma8) (by kernel_rfl) (by kernel_rfl) ?mh8 ?mr8
                case mh8 =>
                  intro u hu E hE
                  subst hu
                  go_wp2
                  rfl
                refine chainP_soft (a1 := ?ma9) (by kernel_rfl) (by kernel_rfl) ?mh9 ?mr9
                case mh9 =>
                  intro u hu E hE
                  subst hu
                  go_wp2
                  rfl
                refine chainP_soft (a1 := ?ma10) (by kernel_rfl) (by kernel_rfl) ?mh10 ?mr10
                case mh10 =>
                  intro u hu E hE
                  subst hu
                  go_wp2
                  rfl
                refine chainP_soft (a1 := ?ma11) (by kernel_rfl) (by kernel_rfl) ?mh11 ?mr11
                case mh11 =>
                  intro u hu E hE
                  subst hu
                  go_wp2
                  rfl
                refine chainP_nil ?_
                refine rest_lineL 11 12 [_] rfl (by kernel_rfl) (by decide) (by decide) (by kernel_rfl) ?_
                clear p0 p1
                go_wp2_with fail
                refine (law_Bind HL10.out HIT.out _ _).mono ?_
                rintro e11 w11 ⟨rfl, D11, hl11, st11⟩
                have hbw := HIT.out.bindW (xa % (x : Int)) (xb % (x : Int))
                have HR11 := Lib.hid (show BnRel w p S bs.length (.slice q12 x c12) LK (.int .i64 ((i + 1 : Nat) : Int)) w11 from ⟨i + 1, _, D11, by omega, rfl, hbw.1, HST.out.trans hbw.2, hl11, HW10.out.step st11⟩)
                clear hbw hl11 st11 HL10 HW10 HR10
                dsimp only
                go_wp2
                refine then_rest (rest_end (by decide) ?_)
                go_wp2
                go_roundw
                case measure => simp [intOf]; omega
                case rel => exact HR11.out
              · have b4 : decide ((0 : Int) < (x : Int)) = false := by simp; omega
                go_wp2
                go_roundw
                case measure => simp [intOf]; omega
                case rel => exact ⟨i + 1, T, D', by omega, rfl, HIT.out, HST.out, HL9.out, HW9.out⟩
            · have b3 : decide ((i : Int) < (bs.length : Int)) = false := by simp; omega
              obtain ⟨w9, rfl⟩ : ∃ wo : World, wo = wr := ⟨_, rfl⟩
              go_wp2_with fail
              refine (law_Undo HLT.out HIT.out _).mono ?_
              rintro e10 w10 ⟨rfl, D10, hl10, st10⟩
              rw [HST.out.undo] at hl10
              have hcm : CmRel w p S D10 x (.slice q12 x c12) LK (.int .i64 ((0 : Nat) : Int)) w10 := ⟨0, by omega, rfl, hl10, HWT.out.step st10⟩
              have HCM := Lib.hid hcm
              clear hcm hl10 st10 HLT HWT HIT HST
              dsimp only
              go_wp2
              go_loopw [128] (fun v128 wr => CmRel w p S D10 x (.slice q12 x c12) LK v128 wr) (fun v128 _ => x - (intOf v128).toNat)
              case atStart => exact HCM.out
              case round =>
                clear HCM
                obtain ⟨y, hy, rfl, hL4, hW4⟩ := hrel
                have HL4 := Lib.hid hL4
                have HW4 := Lib.hid hW4
                clear hL4 hW4
                obtain ⟨wp, rfl⟩ : ∃ wo : World, wo = wr := ⟨_, rfl⟩
                by_cases hyn : y < x
                · have b2 : decide ((y : Int) < (x : Int)) = true := by simp; omega
                  go_wp2_with fail
                  refine (law_Look HL4.out HI.out y (by rw [← HN.out]; exact hyn)).mono ?_
                  rintro e6 w6 ⟨v6, rfl, hl6, st6, hv6⟩
                  obtain ⟨sh, hsh⟩ : ∃ sh, sh = shellC (fol S y) (cellF S y) := ⟨_, rfl⟩
                  obtain ⟨L, hLa⟩ : ∃ L, L = (cellF S y).args := ⟨_, rfl⟩
                  rw [← hsh]
                  rw [← hLa] at hv6
                  have hlk : lookT S y = .mk sh.k sh.n sh.s (L.map argT) := by unfold lookT; rw [← hsh, ← hLa]
                  have hLl : L.length ≤ 255 := by
                    obtain ⟨f, -, hg⟩ := HI.out.stoIn.fol (x := y) (by rw [← HN.out]; exact hyn)
                    rw [hLa]; exact (HI.out.cell _ _ hg).len
                  obtain ⟨q6, c6, e6, hc6, hc7, hel⟩ := id hv6
                  subst e6
                  have HEL := Lib.hid hel
                  have HSH := Lib.hid hlk
                  have hb6 := below_new w6 (.cells #[.int .i64 sh.k, .int .i64 sh.n, .string sh.s, .slice none 0 0] 33 (0, 0))
                  have hn6 := heap_alloc_new w6 (.cells #[.int .i64 sh.k, .int .i64 sh.n, .string sh.s, .slice none 0 0] 33 (0, 0))
                  have hin : InRel w6 w6.heap.size sh L (.int .i64 ((0 : Nat) : Int)) (w6.alloc (.cells #[.int .i64 sh.k, .int .i64 sh.n, .string sh.s, .slice none 0 0] 33 (0, 0))) := ⟨0, none, 0, by omega, rfl, hn6, Own.nil _ _ _, hb6⟩
                  have HIN := Lib.hid hin
                  have HL6 := Lib.hid hl6
                  have HS6 := Lib.hid st6
                  clear hsh hLa hlk hel hb6 hn6 hin hl6 st6 hv6
                  dsimp only
                  go_wp2_with fail
                  generalize w6.alloc (.cells #[.int .i64 sh.k, .int .i64 sh.n, .string sh.s, .slice none 0 0] 33 (0, 0)) = w7 at *
                  obtain ⟨r, hr⟩ : ∃ r, r = w6.heap.size := ⟨_, rfl⟩
                  rw [← hr] at HIN ⊢
                  have HRR := Lib.hid hr
                  clear hr
                  go_loopw [139] (fun v139 wr => InRel w6 r sh L v139 wr) (fun v139 _ => L.length - (intOf v139).toNat)
                  case atStart => exact HIN.out
                  case round =>
                    clear HIN
                    obtain ⟨i, q, c, hi, rfl, hat⟩ := hrel
                    have HAT := Lib.hid hat
                    clear hat
                    by_cases hiL : i < L.length
                    · have b3 : decide ((i : Int) < (L.length : Int)) = true := by simp; omega
                      obtain ⟨g6, o6, e6, -, hlt6, hc6'⟩ := HEL.out i hiL
                      obtain ⟨a, ha⟩ : ∃ a, a = L[i] := ⟨_, rfl⟩
                      have z6 : wr.cell? ⟨g6, o6 + i, none⟩ = some (.int .i64 a) := (HAT.out.bel.cell (p := ⟨g6, o6 + i, none⟩) (by rw [HRR.out]; exact hlt6)).trans (by rw [ha]; exact hc6')
                      subst e6
                      have HA := Lib.hid ha
                      obtain ⟨y0, y1, y2, y3⟩ := row4 HAT.out.row
                      have hba := below_new wr (.cells #[.int .i64 2, .int .i64 a, .string ⟨#[]⟩, .slice none 0 0] 33 (0, 0))
                      have HNA := Lib.hid (heap_alloc_new wr (.cells #[.int .i64 2, .int .i64 a, .string ⟨#[]⟩, .slice none 0 0] 33 (0, 0)))
                      have HOA := Lib.hid (HAT.out.own.below hba)
                      have hzr : r < wr.heap.size := (Array.getElem?_eq_some_iff.1 HAT.out.row).1
                      have hza : (wr.alloc (.cells #[.int .i64 2, .int .i64 a, .string ⟨#[]⟩, .slice none 0 0] 33 (0, 0))).heap.size = wr.heap.size + 1 := by simp
                      have hlen : ((L.take i).map argT).length = i := by rw [List.length_map, List.length_take]; omega
                      have HLEN := Lib.hid hlen
                      clear ha hba hc6' hlen
                      go_wp2_with (with_reducible show wpList _ _ _ (⟨some 148, _, _, _, _, _⟩ :: _) _ _
                                   refine wpList_put (K := tmKind) rfl (.tmp 144) (.tmp 147) _ rfl Try.underlying31 info_tm rfl (r + 1) (fun _ => False) _ ((L.take i).map argT) [.int .i64 2, .int .i64 a, .string ⟨#[]⟩, .slice none 0 0] (argT a) _ _ _ _ rfl HOA.out rfl HNA.out ⟨none, 0, rfl, by unfold argT; unfold ArgsFrom; trivial⟩ (by rw [HLEN.out]; unfold maxLen; omega) (by rw [HLEN.out]; omega) (by omega) ?_
                                   intro v7 w8 ho7 hb7 hg7 hv7
                                   rw [HA.out] at ho7
                                   obtain ⟨⟨u1, u2⟩, q3, c3, rfl, hat3⟩ := HAT.out.put hiL ho7 hg7
                                   have HAT3 := Lib.hid hat3
                                   clear ho7 hb7 hg7 hv7 hat3 y0 y1 y2 y3 z6)
                      go_roundw
                      case measure => simp [intOf]; omega
                      case rel => exact ⟨i + 1, q3, c3, by omega, rfl, HAT3.out⟩
                    · have b3 : decide ((i : Int) < (L.length : Int)) = false := by simp; omega
                      have e : i = L.length := by omega
                      subst e
                      obtain ⟨w8, rfl⟩ : ∃ wo : World, wo = wr := ⟨_, rfl⟩
                      have hfull := HAT.out.full
                      rw [← HSH.out] at hfull
                      have hb8 : Below w6.heap.size w6 w8 := by rw [← HRR.out]; exact HAT.out.bel
                      have hl8 := HL6.out.below hb8
                      have hw8 := (HW4.out.step HS6.out).step hl8.2.1
                      have hr8 := HAT.out.row
                      have HF8 := Lib.hid (tmKind_tm hfull)
                      have HL8 := Lib.hid hl8.1
                      have HW8 := Lib.hid hw8
                      have HR8 := Lib.hid hr8
                      clear hfull hb8 hl8 hw8 hr8 HAT
                      go_wp2
                      refine wp_region_rest (by kernel_rfl) ?_
                      have hdb := (Below.refl w8.heap.size w8).drew
                      have hdr := HL8.out.below hdb
                      have HL9 := Lib.hid hdr.1
                      have HW9 := Lib.hid (HW8.out.step hdr.2.1)
                      have HF9 := Lib.hid (HF8.out.below hdb)
                      have HR9 := Lib.hid ((hdb.block r (Array.getElem?_eq_some_iff.1 HR8.out).1).trans HR8.out)
                      clear hdb hdr HL8 HW8 HF8 HR8
                      generalize w8.drew = W0 at *
                      have hLKl : LK.length = x := by rw [HLK.out]; simp
                      obtain ⟨g7, o7, e7, -, m7⟩ := HW9.out.at y (by omega)
                      have hLKy : LK[y]'(by omega) = lookT S y := by simp only [HLK.out, List.getElem_map, List.getElem_range]
                      rw [hLKy] at m7
                      obtain ⟨a7, c7, u0, u1, u2, u3, m8, -⟩ := m7.read
                      subst e7
                      rw [HSH.out] at u0 u1 u2 u3 m8
                      have hal : (Tm.mk sh.k sh.n sh.s (L.map argT)).args.length = L.length := List.length_map ..
                      rw [hal] at u3 m8
                      replace u0 : W0.cell? ⟨g7, o7 + y * 4, none⟩ = some (.int .i64 sh.k) := u0
                      replace u1 : W0.cell? ⟨g7, o7 + y * 4 + 1, none⟩ = some (.int .i64 sh.n) := u1
                      replace u2 : W0.cell? ⟨g7, o7 + y * 4 + 2, none⟩ = some (.string sh.s) := u2
                      replace m8 : IsTm W0 (Free D10 W0) (.agg #[.int .i64 sh.k, .int .i64 sh.n, .string sh.s, .slice a7 L.length c7]) (.mk sh.k sh.n sh.s (L.map argT)) := m8
                      have hsz : (lookT S y).size ≤ 1000 := by rw [HSH.out]; simp only [Tm.size, sizeL_args]; omega
                      obtain ⟨y0, y1, y2, y3⟩ := row4 HR9.out
                      have M8 := Lib.hid m8
                      clear m7 m8 hLKy hal
                      refine rest_chainP (fun u => u = W0) 0 5 (.soft 0 (.soft 1 (.soft 2 (.soft 3 (.soft 4 .nil))))) (.soft _ (.soft _ (.soft _ (.soft _ (.soft _ .nil))))) ⟨rfl, ⟨rfl, ⟨rfl, ⟨rfl, ⟨rfl, trivial⟩⟩⟩⟩⟩ (by kernel_rfl) (by kernel_rfl) (by kernel_rfl) (by kernel_rfl) (.inr (by kernel_rfl)) rfl ?_
                      refine chainP_soft (a1 := ?ma12) (by kernel_rfl) (by kernel_rfl) ?mh12 ?mr12
                      case mh12 =>
                        intro u hu E hE
                        subst hu
                        go_wp2
                        rfl
                      refine chainP_soft (a1 := ?ma13) (by kernel_rfl) (by kernel_rfl) ?mh13 ?mr13
                      case mh13 =>
                        intro u hu E hE
                        subst hu
                        go_wp2
                        rfl
                      refine chainP_soft (a1 := ?ma14) (by kernel_rfl) (by kernel_rfl) ?mh14 ?mr14
                      case mh14 =>
                        intro u hu E hE
                        subst hu
                        go_wp2
                        rfl
                      refine chainP_soft (a1 := ?ma15) (by kernel_rfl) (by kernel_rfl) ?mh15 ?mr15
                      case mh15 =>
                        intro u hu E hE
                        subst hu
                        go_wp2
                        rfl
                      refine chainP_soft (a1 := ?ma16) (by kernel_rfl) (by kernel_rfl) ?mh16 ?mr16
                      case mh16 =>
                        intro u hu E hE
                        subst hu
                        go_wp2
                        rfl
                      refine chainP_nil ?_
                      refine rest_lineL 5 7 [_, _] rfl (by kernel_rfl) (by decide) (by decide) (by kernel_rfl) ?_
                      clear u0 u1 u2 u3 y0 y1 y2 y3
                      go_wp2_with fail
                      refine (ref_same _ _ _ _ _ _ _ _ (Nat.le_refl _) (by omega) HF9.out M8.out).mono ?_
                      rintro e12 w12 ⟨rfl, hb12⟩
                      have hl12 := HL9.out.below hb12
                      have HR12 := Lib.hid (show CmRel w p S D10 x (.slice (some ⟨g7, o7, none⟩) x c12) LK (.int .i64 ((y + 1 : Nat) : Int)) w12 from ⟨y + 1, by omega, rfl, hl12.1, HW9.out.step hl12.2.1⟩)
                      have hsm : sameT (lookT S y) (.mk sh.k sh.n sh.s (L.map argT)) = true := by rw [← HSH.out]; exact sameT_refl _
                      rw [hsm]
                      have hxb : x ≤ 20000000 := by have := HI.out.small; have := HN.out; omega
                      clear hb12 hl12 hsm HL9 HW9 HF9 HR9 M8
                      dsimp only
                      go_wp2
                      refine then_rest (rest_end (by decide) ?_)
                      go_wp2
                      go_roundw
                      case measure => simp [intOf]; omega
                      case rel => exact HR12.out
                · have b2 : decide ((y : Int) < (x : Int)) = false := by simp; omega
                  go_wp2_with fail
                  refine (sto_Mark _ HL4.out.sto).mono ?_
                  rintro e12 w12 ⟨rfl, rfl⟩
                  go_wp2_with fail
                  refine (sto_Cells _ HL4.out.sto).mono ?_
                  rintro e12 w12 ⟨rfl, rfl⟩
                  rw [← HN.out]
                  go_wp2
                  go_ret
                  exact ⟨rfl, HL4.out.bel⟩
end Go.Proofs.Ytfocabdfmpebnaa.Tms
