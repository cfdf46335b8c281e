
/-
  The reference's size: how many parts, as far as that is counted.
  The reference's Get, plain: what it says is what the program's Get says.
  The reference's far, plain: paths of so many cells.
  The reference's far, plain: rows of cells, each once.
  The reference's far, walked: is a cell's term deeper than may be?
  The reference's tree: a cell's term.
  The reference's Get.
  Layer 8's store, plain: what the tops say, in every store; what undoing and cutting leave.
  The reference's Cut.
-/
import Derived.Test.YtoklbeogmcdgaaaRfh
import Derived.Test.YtoklbeogmcdgaaaGte
import Derived.Deep.DeepMust
import Derived.Test.YtoklbeogmcdgaaaPtn
import Derived.Test.YtoklbeogmcdgaaaSlb
import Derived.Test.YtoklbeogmcdgaaaRfa
namespace Go.Proofs.Ytoklbeogmcdgaaa.Tms
open Go Go.RowKit Go.Proofs.Ytoklbeogmcdgaaa.Reg Go.Proofs.Ytoklbeogmcdgaaa.Rws Go.Proofs.Ytoklbeogmcdgaaa.Maps
set_option linter.unusedVariables false
set_option linter.unusedSimpArgs false

/-- is there a path of more than so many cells? -/
noncomputable def deepB (S : Sto) : Nat → Nat → Bool
  | 0, _ => true
  | f + 1, x => (cellF S x).args.any fun a => deepB S f a.toNat
/-- how many parts, as the reference counts -/
noncomputable def sizeR (S : Sto) : Nat → Nat → Nat → Nat
  | 0, _, n => n + 1
  | f + 1, x, n => if 20000 < n + 1 then n + 1 else (cellF S x).args.foldl (fun m a => sizeR S f a.toNat m) (n + 1)
theorem sizeR_over {S : Sto} {f x n : Nat} (h : 20000 < n + 1) : sizeR S f x n = n + 1 := by
  cases f with
  | zero => rfl
  | succ f => unfold sizeR; rw [if_pos h]
theorem sizeR_fold {S : Sto} {f B : Nat} (ih : ∀ x n, sizeR S f x n ≤ max n 20000 + B) (h1 : 1 ≤ B) : ∀ (l : List Int) (n : Nat), l.foldl (fun m a => sizeR S f a.toNat m) n ≤ max n (20000 + B) + l.length
  | [], n => by simp; omega
  | a :: l, n => by
    rw [List.foldl_cons]
    have h2 := sizeR_fold ih h1 l (sizeR S f a.toNat n)
    rw [List.length_cons]
    by_cases h : 20000 < n + 1
    · rw [sizeR_over h] at h2 ⊢
      omega
    · have := ih a.toNat n
      omega
theorem sizeR_le {S : Sto} (hI : Inv S) : ∀ (f x n : Nat), sizeR S f x n ≤ max n 20000 + (256 * f + 1)
  | 0, x, n => by unfold sizeR; omega
  | f + 1, x, n => by
    unfold sizeR
    split
    · omega
    · have h := sizeR_fold (S := S) (f := f) (B := 256 * f + 1) (fun x n => sizeR_le hI f x n) (by omega) (cellF S x).args (n + 1)
      have hl : (cellF S x).args.length ≤ 255 := by
        unfold cellF
        cases e : S.cells[fol S x]? with
        | none => simp [zeroCell]
        | some c => exact (hI.cell _ _ e).len
      omega
structure SameW (W0 u : World) : Prop where
  eq : u = W0
theorem SameW.me (W0 : World) : SameW W0 W0 := ⟨rfl⟩
def SzRel (S : Sto) (f : Nat) (A : List Int) (n : Nat) (W : World) (v2 vi : Value) (wr : World) : Prop := ∃ i : Nat, i ≤ A.length ∧ vi = .int .i64 i ∧ v2 = .int .i64 ((A.take i).foldl (fun m a => sizeR S f a.toNat m) n : Nat) ∧ Below W.heap.size W wr
set_option maxRecDepth 100000 in
set_option maxHeartbeats 4000000 in
theorem ref_size8 {S : Sto} {D : Nat → Prop} {p : Nat} (hI : Inv S) (f : Nat) : ∀ (x n : Nat) (w : World), RefAt w D p S → x < S.cells.length → deepB S f x = false → f ≤ 1000000 → n ≤ 1000000000 →
    Calls Try.prog 77 #[.pointer (some ⟨p, 0, none⟩), .int .i64 x, .int .i64 n] w fun e w' => e = .returned (.int .i64 (sizeR S f x n : Nat)) ∧ Below w.heap.size w w' := by
  induction f with
  | zero => intro x n w hS hx hd; cases hd
  | succ f ih =>
    intro x n w hS hx hd hf hn
    have IH := Lib.hid ih
    clear ih
    by_cases hov : 20000 < n + 1
    · have b1 : decide ((20000 : Int) < ((n : Int) + 1)) = true := by simp; omega
      have e1 := sizeR_over (S := S) (f := f + 1) (x := x) hov
      have E1 := Lib.hid e1
      clear e1 hS hov
      go_enter Try.func77, Try.ntmps77
      go_wp2
      go_ret
      exact ⟨by rw [E1.out]; simp, Below.refl _ _⟩
    have b1 : decide ((20000 : Int) < ((n : Int) + 1)) = false := by simp; omega
    obtain ⟨ff, hch, hcl⟩ := hI.stoIn.fol hx
    have hok := hI.cell _ _ hcl
    obtain ⟨hrl, hrc⟩ := List.getElem?_eq_some_iff.1 hcl
    have hsr : sizeR S (f + 1) x n = (cellF S x).args.foldl (fun m a => sizeR S f a.toNat m) (n + 1) := by
      show (if 20000 < n + 1 then _ else _) = _
      rw [if_neg hov]
    have hdd : ∀ a ∈ (cellF S x).args, deepB S f a.toNat = false := by
      intro a ha
      have hd' : (cellF S x).args.any (fun a => deepB S f a.toNat) = false := hd
      rw [List.any_eq_false] at hd'
      simpa using hd' a ha
    have haa : ∀ a ∈ (cellF S x).args, 0 ≤ a ∧ a < (S.cells.length : Int) := hok.args
    have hal := hok.len
    obtain ⟨r, hr⟩ : ∃ r, r = fol S x := ⟨_, rfl⟩
    obtain ⟨A, hA⟩ : ∃ A, A = (cellF S x).args := ⟨_, rfl⟩
    rw [← hr] at hch hrl
    rw [← hA] at hsr hdd haa hal
    have hra : (S.cells[r]'hrl).args = A := by subst hr; rw [hrc, hA]
    have HS := Lib.hid hS
    have HCH := Lib.hid hch
    have HSR := Lib.hid hsr
    have HDD := Lib.hid hdd
    have HAA := Lib.hid haa
    have HKO := Lib.hid hI.kindOk
    have hsm := hI.small
    have hn2 : n + 1 ≤ 20000 := by omega
    clear hS hch hsr hdd haa hcl hok hov hd hr hA hrc
    go_enter Try.func77, Try.ntmps77
    go_upto_region 4 with fail
    refine wp_region_rest (by kernel_rfl) ?_
    have hdr := (Below.refl w.heap.size w).drew
    have HS0 := Lib.hid (HS.out.below hdr)
    have HB0 := Lib.hid hdr
    clear hdr HS
    generalize w.drew = W0 at *
    have hs0 := HS0.out
    obtain ⟨cv, bv, AA, hrow⟩ := hs0
    obtain ⟨g, cap, av, rfl, q1, q2, -, -, -, c3, -, hav⟩ := hrow.cell r hrl
    rw [hra] at hav
    obtain ⟨qa, ka, rfl⟩ := hav.form
    obtain ⟨x0, x1, x2⟩ := row3 hrow.row
    have hr0 : (0 : Int) ≤ (r : Int) := by omega
    have hr1 : (r : Int) < (S.cells.length : Int) := by omega
    have HAV := Lib.hid hav
    clear hav hrow hra
    refine rest_chainP (SameW W0) 0 12 (.soft 0 (.soft 1 (.soft 2 (.soft 3 (.soft 4 (.soft 5 (.soft 11 (.one 6 (.soft 7 (.soft 8 (.soft 9 (.soft 10 .nil)))))))))))) (.soft _ (.soft _ (.soft _ (.soft _ (.soft _ (.soft _ (.soft _ (.one _ (.soft _ (.soft _ (.soft _ (.soft _ .nil)))))))))))) ⟨rfl, ⟨rfl, ⟨rfl, ⟨rfl, ⟨rfl, ⟨rfl, ⟨rfl, ⟨rfl, ⟨rfl, ⟨rfl, ⟨rfl, ⟨rfl, trivial⟩⟩⟩⟩⟩⟩⟩⟩⟩⟩⟩⟩ (by kernel_rfl) (by kernel_rfl) (by kernel_rfl) (by kernel_rfl) (.inl rfl) (SameW.me W0) ?_
    refine chainP_soft (a1 := ?ma1) (by kernel_rfl) (by kernel_rfl) ?mh1 ?mr1
    case mh1 =>
      intro u hu E hE
      have hu' : u = W0 := hu.eq
      subst hu'
      go_wp2
      rfl
    refine chainP_nck _ _ rfl rfl rfl ?_
    simp only [Act.put, List.getElem?_toArray, List.getElem?_cons_succ, List.getElem?_cons_zero, Option.bind_some, List.setIfInBounds_toArray, List.set_cons_succ, List.set_cons_zero, Nat.reduceAdd]
    refine chainP_soft (a1 := ?ma2) (by kernel_rfl) (by kernel_rfl) ?mh2 ?mr2
    case mh2 =>
      intro u hu E hE
      have hu' : u = W0 := hu.eq
      subst hu'
      go_wp2
      rfl
    refine chainP_soft (a1 := ?ma3) (by kernel_rfl) (by kernel_rfl) ?mh3 ?mr3
    case mh3 =>
      intro u hu E hE
      have hu' : u = W0 := hu.eq
      subst hu'
      go_wp2
      rfl
    refine chainP_soft (a1 := ?ma4) (by kernel_rfl) (by kernel_rfl) ?mh4 ?mr4
    case mh4 =>
      intro u hu E hE
      have hu' : u = W0 := hu.eq
      subst hu'
      go_wp2
      rfl
    refine chainP_soft (a1 := ?ma5) (by kernel_rfl) (by kernel_rfl) ?mh5 ?mr5
    case mh5 =>
      intro u hu E hE
      have hu' : u = W0 := hu.eq
      subst hu'
      go_wp2
      rfl
    refine chainP_soft (a1 := ?ma6) (by kernel_rfl) (by kernel_rfl) ?mh6 ?mr6
    case mh6 =>
      intro u hu E hE
      have hu' : u = W0 := hu.eq
      subst hu'
      go_wp2
      rfl
    refine chainP_one ?_
    intro E hE
    go_wp2_with fail
    refine (ref_Follow W0 HS0.out HKO.out ff x r HCH.out).mono ?_
    rintro e6 w6 ⟨rfl, rfl⟩
    go_wp2
    refine ⟨SameW.me _, ?_⟩
    refine chainP_soft (a1 := ?ma7) (by kernel_rfl) (by kernel_rfl) ?mh7 ?mr7
    case mh7 =>
      intro u hu E hE
      have hu' : u = W0 := hu.eq
      subst hu'
      go_wp2
      rfl
    refine chainP_soft (a1 := ?ma8) (by kernel_rfl) (by kernel_rfl) ?mh8 ?mr8
    case mh8 =>
      intro u hu E hE
      have hu' : u = W0 := hu.eq
      subst hu'
      go_wp2
      rfl
    refine chainP_soft (a1 := ?ma9) (by kernel_rfl) (by kernel_rfl) ?mh9 ?mr9
    case mh9 =>
      intro u hu E hE
      have hu' : u = W0 := hu.eq
      subst hu'
      go_wp2
      rfl
    refine chainP_soft (a1 := ?ma10) (by kernel_rfl) (by kernel_rfl) ?mh10 ?mr10
    case mh10 =>
      intro u hu E hE
      have hu' : u = W0 := hu.eq
      subst hu'
      go_wp2
      rfl
    refine chainP_nil (rest_end (by decide) ?_)
    have hst : SzRel S f A (n + 1) W0 (.int .i64 ((n : Int) + 1)) (.int .i64 ((0 : Nat) : Int)) W0 := ⟨0, by omega, rfl, by simp, Below.refl _ _⟩
    have HST := Lib.hid hst
    clear hst x0 x1 x2 c3
    go_wp2
    go_loopw [2, 25] (fun v2 v25 wr => SzRel S f A (n + 1) W0 v2 v25 wr) (fun _ v25 _ => A.length - (intOf v25).toNat)
    case atStart => exact HST.out
    case round =>
      clear HST
      obtain ⟨i, hi, rfl, rfl, hbr⟩ := hrel
      have HBR := Lib.hid hbr
      clear hbr
      have hfl := sizeR_fold (S := S) (f := f) (B := 256 * f + 1) (fun x n => sizeR_le hI f x n) (by omega) (A.take i) (n + 1)
      rw [List.length_take] at hfl
      by_cases hil : i < A.length
      · have b2 : decide ((i : Int) < (A.length : Int)) = true := by simp; omega
        obtain ⟨b, off, e', hcx⟩ := ints_pickA (IntSl.move (P' := fun b => b < W0.heap.size) HAV.out (fun b hb _ => hb.2.2) fun b hb hlt => HBR.out.block b hlt) i hil
        obtain rfl := e'
        have hrm := ints_roomA HAV.out
        obtain ⟨y, hy⟩ : ∃ y : Nat, A[i] = (y : Int) := ⟨_, (Int.toNat_of_nonneg (HAA.out _ (List.getElem_mem hil)).1).symm⟩
        have hyl := (HAA.out _ (List.getElem_mem hil)).2
        have hyd := HDD.out _ (List.getElem_mem hil)
        have htk : (A.take (i + 1)).foldl (fun m a => sizeR S f a.toNat m) (n + 1) = sizeR S f y ((A.take i).foldl (fun m a => sizeR S f a.toNat m) (n + 1)) := by
          rw [List.take_succ_eq_append_getElem hil, List.foldl_append, hy]
          rfl
        rw [hy] at hcx hyl hyd
        rw [Int.toNat_natCast] at hyd
        have HTK := Lib.hid htk
        obtain ⟨m, hm⟩ : ∃ m, m = (A.take i).foldl (fun m a => sizeR S f a.toNat m) (n + 1) := ⟨_, rfl⟩
        rw [← hm] at HTK hfl ⊢
        have hq := IH.out y m wr (HS0.out.below HBR.out) (by omega) hyd (by omega) (by omega)
        have HQ := Lib.hid hq
        clear hq hm htk hy hyl hyd
        go_wp2_with fail
        refine HQ.out.mono ?_
        rintro e7 w7 ⟨rfl, hb7⟩
        have HB7 := Lib.hid (HBR.out.trans (hb7.mono HBR.out.size))
        clear hb7 HQ
        go_wp2
        go_roundw
        case measure => simp [intOf]; omega
        case rel => exact ⟨i + 1, by omega, rfl, by rw [HTK.out], HB7.out⟩
      · have b2 : decide ((i : Int) < (A.length : Int)) = false := by simp; omega
        have ei : i = A.length := by omega
        subst ei
        rw [List.take_length, ← HSR.out]
        have HF := Lib.hid (HB0.out.trans (HBR.out.mono HB0.out.size))
        go_wp2
        go_ret
        exact ⟨rfl, HF.out⟩
end Go.Proofs.Ytoklbeogmcdgaaa.Tms
namespace Go.Proofs.Ytoklbeogmcdgaaa.Tms
open Go Go.RowKit Go.Proofs.Ytoklbeogmcdgaaa.Reg Go.Proofs.Ytoklbeogmcdgaaa.Rws Go.Proofs.Ytoklbeogmcdgaaa.Maps
set_option linter.unusedVariables false
set_option linter.unusedSimpArgs false

/-- a cell's term, so deep -/
noncomputable def treeR (S : Sto) : Nat → Nat → Tm
  | 0, _ => zeroTm
  | f + 1, x => withArgs (shellC (fol S x) (cellF S x)) ((cellF S x).args.map fun a => treeR S f a.toNat)
theorem sizeR_ge {S : Sto} : ∀ (f x n : Nat), n ≤ sizeR S f x n
  | 0, x, n => by unfold sizeR; omega
  | f + 1, x, n => by
    have hfold : ∀ (l : List Int) (m : Nat), m ≤ l.foldl (fun m a => sizeR S f a.toNat m) m := by
      intro l
      induction l with
      | nil => intro m; exact Nat.le_refl _
      | cons a l ih => intro m; rw [List.foldl_cons]; exact Nat.le_trans (sizeR_ge f a.toNat m) (ih _)
    unfold sizeR
    split
    · omega
    · have := hfold (cellF S x).args (n + 1); omega
theorem sizeF_ge {S : Sto} {f : Nat} : ∀ (l : List Int) (m : Nat), m ≤ l.foldl (fun m a => sizeR S f a.toNat m) m
  | [], m => Nat.le_refl _
  | a :: l, m => by rw [List.foldl_cons]; exact Nat.le_trans (sizeR_ge f a.toNat m) (sizeF_ge l _)
theorem hgt_none (S : Sto) : ∀ (f x : Nat), hgtF S f x = none ↔ deepB S f x = true
  | 0, x => by simp [hgtF, deepB]
  | f + 1, x => by
    have hf : ∀ (l : List Int) (m : Nat), l.foldl (hStep (hgtF S f)) (some m) = none ↔ (l.any fun a => deepB S f a.toNat) = true := by
      intro l
      induction l with
      | nil => intro m; simp
      | cons a l ih =>
        intro m
        rw [List.foldl_cons, List.any_cons, Bool.or_eq_true]
        cases e : hgtF S f a.toNat with
        | none =>
          have h1 := (hgt_none S f a.toNat).1 e
          have e2 : hStep (hgtF S f) (some m) a = none := by simp [hStep, e]
          rw [e2, hfold_none]
          simp [h1]
        | some k =>
          have h1 : deepB S f a.toNat ≠ true := fun h => by rw [(hgt_none S f a.toNat).2 h] at e; cases e
          obtain ⟨k', e2⟩ : ∃ k', hStep (hgtF S f) (some m) a = some k' := by simp [hStep, e]
          rw [e2, ih]
          simp [h1]
    unfold hgtF deepB
    rw [Option.map_eq_none_iff, hf]
theorem get_deep {S : Sto} : ∀ (f x n : Nat), deepB S f x = false → (sizeR S f x n ≤ 20000 → getG S f x n = (treeR S f x, 0, sizeR S f x n)) ∧ (20000 < sizeR S f x n → (getG S f x n).2.1 = 3)
  | 0, x, n, h => by simp [deepB] at h
  | f + 1, x, n, h => by
    have hd : ∀ a ∈ (cellF S x).args, deepB S f a.toNat = false := by
      have h' : (cellF S x).args.any (fun a => deepB S f a.toNat) = false := h
      intro a ha
      rw [List.any_eq_false] at h'
      simpa using h' a ha
    have hfold : ∀ (l : List Int) (ts : List Tm) (m : Nat), (∀ a ∈ l, deepB S f a.toNat = false) → (l.foldl (fun m a => sizeR S f a.toNat m) m ≤ 20000 → l.foldl (gStep (getG S f)) (ts, 0, m) = (ts ++ l.map (fun a => treeR S f a.toNat), 0, l.foldl (fun m a => sizeR S f a.toNat m) m)) ∧
        (m ≤ 20000 → 20000 < l.foldl (fun m a => sizeR S f a.toNat m) m → (l.foldl (gStep (getG S f)) (ts, 0, m)).2.1 = 3) := by
      intro l
      induction l with
      | nil => intro ts m _; exact ⟨fun _ => by simp, fun h1 h2 => by simp at h2; omega⟩
      | cons a l ih =>
        intro ts m hl
        have ha := get_deep f a.toNat m (hl a (by simp))
        have hl' : ∀ b ∈ l, deepB S f b.toNat = false := fun b hb => hl b (by simp [hb])
        rw [List.foldl_cons, List.foldl_cons]
        have hge := sizeF_ge (S := S) (f := f) l (sizeR S f a.toNat m)
        refine ⟨fun h1 => ?_, fun h1 h2 => ?_⟩
        · have e := ha.1 (by omega)
          rw [gStep_ok rfl (by rw [e]), e]
          rw [(ih (ts ++ [treeR S f a.toNat]) _ hl').1 h1]
          simp
        · by_cases h3 : sizeR S f a.toNat m ≤ 20000
          · have e := ha.1 h3
            rw [gStep_ok rfl (by rw [e]), e]
            exact (ih (ts ++ [treeR S f a.toNat]) _ hl').2 h3 h2
          · have e := ha.2 (by omega)
            rw [gStep_bad rfl (by rw [e]; decide), gfold_stop _ _ _ (by rw [e]; decide)]
            exact e
    unfold sizeR getG
    by_cases ho : 20000 < n + 1
    · rw [if_pos ho, if_pos ho]
      exact ⟨fun h => by omega, fun _ => rfl⟩
    · rw [if_neg ho, if_neg ho]
      obtain ⟨h1, h2⟩ := hfold (cellF S x).args [] (n + 1) hd
      refine ⟨fun h => ?_, fun h => ?_⟩
      · rw [h1 h, if_neg (by simp)]
        simp only [List.nil_append]
        rfl
      · have e := h2 (by omega) h
        rw [if_pos (by rw [e]; decide)]
        exact e
theorem get_err {S : Sto} : ∀ (f x n : Nat), (getG S f x n).2.1 = 0 ∨ (getG S f x n).2.1 = 3 ∨ (getG S f x n).2.1 = 4
  | 0, x, n => .inr (.inr rfl)
  | f + 1, x, n => by
    have hfold : ∀ (l : List Int) (st : List Tm × Int × Nat), (st.2.1 = 0 ∨ st.2.1 = 3 ∨ st.2.1 = 4) → (l.foldl (gStep (getG S f)) st).2.1 = 0 ∨ (l.foldl (gStep (getG S f)) st).2.1 = 3 ∨ (l.foldl (gStep (getG S f)) st).2.1 = 4 := by
      intro l
      induction l with
      | nil => intro st h; exact h
      | cons a l ih =>
        intro st h
        rw [List.foldl_cons]
        refine ih _ ?_
        have ha := get_err (S := S) f a.toNat st.2.2
        unfold gStep
        split
        · exact h
        · split
          · exact .inl rfl
          · exact ha
    unfold getG
    split
    · exact .inr (.inl rfl)
    · have h := hfold (cellF S x).args ([], 0, n + 1) (.inl rfl)
      split
      · exact h
      · exact .inl rfl
theorem get_ok_deep {S : Sto} : ∀ (f x n : Nat), (getG S f x n).2.1 = 0 → deepB S f x = false
  | 0, x, n, h => by simp [getG] at h
  | f + 1, x, n, h => by
    have hfold : ∀ (l : List Int) (st : List Tm × Int × Nat), st.2.1 = 0 → (l.foldl (gStep (getG S f)) st).2.1 = 0 → (l.any fun a => deepB S f a.toNat) = false := by
      intro l
      induction l with
      | nil => intro st _ _; rfl
      | cons a l ih =>
        intro st h0 h
        rw [List.foldl_cons] at h
        by_cases he : (getG S f a.toNat st.2.2).2.1 = 0
        · rw [gStep_ok h0 he] at h
          rw [List.any_cons, get_ok_deep (S := S) f a.toNat st.2.2 he, ih _ rfl h]
          rfl
        · rw [gStep_bad h0 he, gfold_stop _ _ _ he] at h
          exact absurd h he
    unfold getG at h
    split at h
    · cases h
    · split at h
      · rename_i h1 h2
        exact absurd h h2
      · rename_i h1 h2
        exact hfold _ _ rfl (by simpa using h2)
/-- what the program's Get says, as the reference says it -/
theorem getE_is (S : Sto) (x : Nat) : getE S x = if deepB S 2000 x = true then 4 else if 20000 < sizeR S 2000 x 0 then 3 else 0 := by
  unfold getE
  have hh := hgt_none S 2000 x
  by_cases hd : deepB S 2000 x = true
  · rw [if_pos hd]
    rcases get_err (S := S) 2000 x 0 with h | h | h
    · rw [get_ok_deep 2000 x 0 h] at hd; cases hd
    · rw [if_pos ⟨h, hh.2 hd⟩]
    · rw [if_neg (by rw [h]; rintro ⟨h1, -⟩; cases h1), h]
  · rw [if_neg fun h => hd (hh.1 h.2), if_neg hd]
    have hd' : deepB S 2000 x = false := by simpa using hd
    have h := get_deep 2000 x 0 hd'
    by_cases hs : 20000 < sizeR S 2000 x 0
    · rw [if_pos hs, h.2 hs]
    · rw [if_neg hs, h.1 (by omega)]
theorem getT_is (S : Sto) (x : Nat) : getT S x = if getE S x = 0 then treeR S 2000 x else zeroTm := by
  rw [getE_is]
  unfold getT
  by_cases hd : deepB S 2000 x = true
  · have hne : ¬ (getG S 2000 x 0).2.1 = 0 := fun h => by rw [get_ok_deep 2000 x 0 h] at hd; cases hd
    rw [if_pos hd, if_neg hne]
    simp
  · rw [if_neg hd]
    have hd' : deepB S 2000 x = false := by simpa using hd
    have h := get_deep 2000 x 0 hd'
    by_cases hs : 20000 < sizeR S 2000 x 0
    · rw [if_pos hs, h.2 hs]
      simp
    · rw [if_neg hs, h.1 (by omega)]
      first | done | simp
end Go.Proofs.Ytoklbeogmcdgaaa.Tms
namespace Go.Proofs.Ytoklbeogmcdgaaa.Tms
open Go Go.RowKit Go.Proofs.Ytoklbeogmcdgaaa.Reg Go.Proofs.Ytoklbeogmcdgaaa.Rws Go.Proofs.Ytoklbeogmcdgaaa.Maps
set_option linter.unusedVariables false
set_option linter.unusedSimpArgs false

/-- y is the end of a path of n + 1 cells from x, followed -/
def PathN (S : Sto) : Nat → Nat → Nat → Prop
  | 0, x, y => y = fol S x
  | n + 1, x, y => ∃ a ∈ (cellF S x).args, PathN S n a.toNat y
theorem deep_path (S : Sto) : ∀ (f x : Nat), deepB S f x = true ↔ ∃ y, PathN S f x y
  | 0, x => ⟨fun _ => ⟨_, rfl⟩, fun _ => rfl⟩
  | f + 1, x => by
    show (cellF S x).args.any (fun a => deepB S f a.toNat) = true ↔ _
    rw [List.any_eq_true]
    constructor
    · rintro ⟨a, h1, h2⟩
      obtain ⟨y, hy⟩ := (deep_path S f a.toNat).1 h2
      exact ⟨y, a, h1, hy⟩
    · rintro ⟨y, a, h1, h2⟩
      exact ⟨a, h1, (deep_path S f a.toNat).2 ⟨y, h2⟩⟩
/-- one cell more, at the end -/
theorem path_snoc {S : Sto} (hI : Inv S) : ∀ (n x : Nat), x < S.cells.length → ∀ z, PathN S (n + 1) x z ↔ ∃ y, PathN S n x y ∧ ∃ a ∈ (cellF S y).args, z = fol S a.toNat
  | 0, x, hx, z => by
    have hc := (cellF_root hI.stoIn hx).2
    constructor
    · rintro ⟨a, h1, h2⟩
      exact ⟨fol S x, rfl, a, by rw [hc]; exact h1, h2⟩
    · rintro ⟨y, rfl, a, h1, h2⟩
      rw [hc] at h1
      exact ⟨a, h1, h2⟩
  | n + 1, x, hx, z => by
    have hargs : ∀ a ∈ (cellF S x).args, a.toNat < S.cells.length := fun a ha => by
      obtain ⟨f, -, hg⟩ := hI.stoIn.fol hx
      have := (hI.cell _ _ hg).args a ha
      omega
    constructor
    · rintro ⟨a, h1, h2⟩
      obtain ⟨y, h3, h4⟩ := (path_snoc hI n a.toNat (hargs a h1) z).1 h2
      exact ⟨y, ⟨a, h1, h3⟩, h4⟩
    · rintro ⟨y, ⟨a, h1, h3⟩, h4⟩
      exact ⟨a, h1, (path_snoc hI n a.toNat (hargs a h1) z).2 ⟨y, h3, h4⟩⟩
end Go.Proofs.Ytoklbeogmcdgaaa.Tms
namespace Go.Proofs.Ytoklbeogmcdgaaa.Tms
open Go Go.RowKit Go.Proofs.Ytoklbeogmcdgaaa.Reg Go.Proofs.Ytoklbeogmcdgaaa.Rws Go.Proofs.Ytoklbeogmcdgaaa.Maps
set_option linter.unusedVariables false
set_option linter.unusedSimpArgs false

/-- the cells that a cell's Args are, followed -/
noncomputable def kidsF (S : Sto) (y : Nat) : List Nat := (cellF S y).args.map fun a => fol S a.toNat
/-- the cells met so far in a row: P with repeats, X each once, DL the marks -/
structure Mk (N n : Nat) (P : List Nat) (DL : List Int) (X : List Nat) : Prop where
  mem : ∀ y, y ∈ X ↔ y ∈ P
  nd : X.Nodup
  len : DL.length = N
  le : ∀ (c : Nat) (h : c < DL.length), 0 ≤ DL[c] ∧ DL[c] ≤ n ∧ (DL[c] = n ↔ c ∈ P)
  lt : ∀ y ∈ P, y < N
theorem nodupF_len : ∀ (l m : List Nat), l.Nodup → (∀ x ∈ l, x ∈ m) → l.length ≤ m.length
  | [], m, _, _ => by simp
  | a :: l, m, h, hs => by
    rw [List.nodup_cons] at h
    have ha := hs a (by simp)
    have h1 := nodupF_len l (m.erase a) h.2 fun x hx => by
      have hne : x ≠ a := fun e => h.1 (e ▸ hx)
      exact (List.mem_erase_of_ne hne).2 (hs x (by simp [hx]))
    rw [List.length_erase_of_mem ha] at h1
    have : 0 < m.length := List.length_pos_of_mem ha
    rw [List.length_cons]
    omega
theorem Mk.small {N n : Nat} {P : List Nat} {DL : List Int} {X : List Nat} (h : Mk N n P DL X) : X.length ≤ N := by
  have := nodupF_len X (List.range N) h.nd fun x hx => List.mem_range.2 (h.lt x ((h.mem x).1 hx))
  rwa [List.length_range] at this
theorem Mk.new {N n : Nat} {P : List Nat} {DL : List Int} {X : List Nat} (h : Mk N n P DL X) {f : Nat} (hf : f < DL.length) (hd : DL[f] < n) : Mk N n (P ++ [f]) (DL.set f n) (X ++ [f]) := by
  have hl := h.len
  have hnp : f ∉ P := fun e => by have := ((h.le f hf).2.2).2 e; omega
  refine ⟨fun y => by simp [h.mem y], ?_, by simp [hl], fun c hc => ?_, fun y hy => ?_⟩
  · rw [List.nodup_append]
    refine ⟨h.nd, by simp, fun a ha b hb => ?_⟩
    simp only [List.mem_singleton] at hb
    subst hb
    intro e
    subst e
    exact hnp ((h.mem a).1 ha)
  · rw [List.length_set] at hc
    rw [List.getElem_set]
    by_cases e : f = c
    · subst e
      simp
    · rw [if_neg e]
      obtain ⟨h1, h2, h3⟩ := h.le c hc
      refine ⟨h1, h2, h3.trans ?_⟩
      simp only [List.mem_append, List.mem_singleton]
      exact ⟨.inl, fun h => h.resolve_right fun e' => e e'.symm⟩
  · simp only [List.mem_append, List.mem_singleton] at hy
    rcases hy with hy | rfl
    · exact h.lt y hy
    · omega
theorem Mk.old {N n : Nat} {P : List Nat} {DL : List Int} {X : List Nat} (h : Mk N n P DL X) {f : Nat} (hf : f < DL.length) (hd : ¬ DL[f] < n) : Mk N n (P ++ [f]) DL X := by
  obtain ⟨h1, h2, h3⟩ := h.le f hf
  have hp : f ∈ P := h3.1 (by omega)
  refine ⟨fun y => ?_, h.nd, h.len, fun c hc => ?_, fun y hy => ?_⟩
  · rw [h.mem y]
    simp only [List.mem_append, List.mem_singleton]
    exact ⟨.inl, fun e => e.elim id fun e => e ▸ hp⟩
  · obtain ⟨h1, h2, h3⟩ := h.le c hc
    refine ⟨h1, h2, h3.trans ?_⟩
    simp only [List.mem_append, List.mem_singleton]
    exact ⟨.inl, fun e => e.elim id fun e => e ▸ hp⟩
  · simp only [List.mem_append, List.mem_singleton] at hy
    rcases hy with hy | rfl
    · exact h.lt y hy
    · exact h.lt _ hp
/-- the row of all cells that are ends of paths of n cells -/
structure RowN (S : Sto) (x n : Nat) (R : List Nat) (DL : List Int) : Prop where
  mem : ∀ y, y ∈ R ↔ PathN S n x y
  lt : ∀ y ∈ R, y < S.cells.length
  len : R.length ≤ S.cells.length
  dl : DL.length = S.cells.length
  le : ∀ (c : Nat) (h : c < DL.length), 0 ≤ DL[c] ∧ DL[c] < (n + 1 : Nat)
theorem RowN.first {S : Sto} (hI : Inv S) {x : Nat} (hx : x < S.cells.length) : RowN S x 0 [fol S x] (List.replicate S.cells.length 0) :=
  ⟨fun y => by simp [PathN], fun y hy => by
    simp only [List.mem_singleton] at hy
    subst hy
    obtain ⟨f, hc, -⟩ := hI.stoIn.fol hx
    exact hc.end_.1, by simp; omega, by simp, fun c h => by simp⟩
theorem RowN.mark {S : Sto} {x n : Nat} {R : List Nat} {DL : List Int} (h : RowN S x n R DL) : Mk S.cells.length (n + 1) [] DL [] :=
  ⟨fun y => by simp, by simp, h.dl, fun c hc => by obtain ⟨h1, h2⟩ := h.le c hc; exact ⟨h1, by omega, by simp; omega⟩, by simp⟩
theorem Mk.row {S : Sto} (hI : Inv S) {x n : Nat} (hx : x < S.cells.length) {R : List Nat} {DL DL' : List Int} {X : List Nat} (hr : RowN S x n R DL) (h : Mk S.cells.length (n + 1) (R.flatMap (kidsF S)) DL' X) : RowN S x (n + 1) X DL' := by
  refine ⟨fun y => ?_, fun y hy => h.lt y ((h.mem y).1 hy), h.small, h.len, fun c hc => by obtain ⟨h1, h2, -⟩ := h.le c hc; exact ⟨h1, by omega⟩⟩
  rw [h.mem y, path_snoc hI n x hx y, List.mem_flatMap]
  constructor
  · rintro ⟨c, h1, h2⟩
    unfold kidsF at h2
    obtain ⟨a, h3, h4⟩ := List.mem_map.1 h2
    exact ⟨c, (hr.mem c).1 h1, a, h3, h4.symm⟩
  · rintro ⟨c, h1, a, h3, h4⟩
    exact ⟨c, (hr.mem c).2 h1, List.mem_map.2 ⟨a, h3, h4.symm⟩⟩
/-- no path of so many cells: none of more -/
theorem path_none {S : Sto} (hI : Inv S) {x n : Nat} (hx : x < S.cells.length) (h : ∀ y, ¬ PathN S n x y) : ∀ m, n ≤ m → deepB S m x = false := by
  have key : ∀ k, ∀ y, ¬ PathN S (n + k) x y := by
    intro k
    induction k with
    | zero => exact h
    | succ k ih =>
      intro y hy
      obtain ⟨z, hz, -⟩ := (path_snoc hI (n + k) x hx y).1 hy
      exact ih z hz
  intro m hm
  cases e : deepB S m x with
  | false => rfl
  | true =>
    obtain ⟨y, hy⟩ := (deep_path S m x).1 e
    rw [show m = n + (m - n) by omega] at hy
    exact absurd hy (key _ y)
theorem RowN.gone {S : Sto} (hI : Inv S) {x n : Nat} (hx : x < S.cells.length) {R : List Nat} {DL : List Int} (h : RowN S x n R DL) (h0 : R.length = 0) (m : Nat) (hm : n ≤ m) : deepB S m x = false := by
  refine path_none hI hx (fun y hy => ?_) m hm
  have := (h.mem y).2 hy
  rw [List.length_eq_zero_iff.1 h0] at this
  simp at this
theorem RowN.more {S : Sto} {x n : Nat} {R : List Nat} {DL : List Int} (h : RowN S x n R DL) (h0 : 0 < R.length) : deepB S n x = true := by
  refine (deep_path S n x).2 ⟨R[0], (h.mem _).1 (List.getElem_mem h0)⟩
end Go.Proofs.Ytoklbeogmcdgaaa.Tms
namespace Go.Proofs.Ytoklbeogmcdgaaa.Tms
open Go Go.RowKit Go.Proofs.Ytoklbeogmcdgaaa.Reg Go.Proofs.Ytoklbeogmcdgaaa.Rws Go.Proofs.Ytoklbeogmcdgaaa.Maps
set_option linter.unusedVariables false
set_option linter.unusedSimpArgs false

def isN (R : List Nat) : List Int := R.map fun y : Nat => (y : Int)
theorem isN_len (R : List Nat) : (isN R).length = R.length := List.length_map ..
theorem isN_at {R : List Nat} {i : Nat} (h : i < R.length) : (isN R)[i]'(by rw [isN_len]; exact h) = (R[i] : Int) := by simp [isN]
theorem isN_snoc (R : List Nat) (y : Nat) : isN R ++ [(y : Int)] = isN (R ++ [y]) := by simp [isN]
theorem IFill.zero {w : World} {g n B : Nat} (h : w.ownsRow B 3 1 (.slice (some ⟨g, 0, none⟩) n n) n ((madeCells #[Value.int .i64 0] (n * 1)).toList)) : IFill w g n (List.replicate n 0) := by
  obtain ⟨-, ⟨e, -⟩ | ⟨g', cap, cur, e, -, hg, -, -, hs, ht⟩⟩ := h
  · cases e
  · simp only [Value.slice.injEq, Option.some.injEq, Addr.mk.injEq, and_true, true_and] at e
    obtain ⟨rfl, rfl⟩ := e
    refine ⟨⟨cur, hg, by omega⟩, fun i hi => ?_⟩
    rw [List.length_replicate] at hi
    rw [cell_of_row _ _ _ _ _ _ hg, List.getElem_replicate]
    rw [List.take_of_length_le (by simp; omega)] at ht
    have h1 : cur = madeCells #[Value.int .i64 0] (n * 1) := Array.toList_inj.1 ht
    rw [h1]
    have h2 : i < (madeCells #[Value.int .i64 0] (n * 1)).size := by rw [size_madeCells]; omega
    rw [Array.getElem?_eq_getElem h2]
    simp [madeCells, Nat.mod_one]
theorem IFill.set {w : World} {g n : Nat} {L : List Int} (h : IFill w g n L) {f : Nat} (hn : f < n) (x : Int) :
    w.frozen? ⟨g, f, none⟩ = false ∧ IFill (w.setCell ⟨g, f, none⟩ (.int .i64 x)) g n (L.set f x) := by
  obtain ⟨cs, h1, h2⟩ := h.row
  have e1 := heap_setCell_same w g f _ _ (.int .i64 x) h1
  refine ⟨frozen_of_row w g f _ _ h1, ⟨⟨_, e1, by simp [h2]⟩, fun i hi => ?_⟩⟩
  rw [List.length_set] at hi
  rw [cell_of_row _ g i _ _ _ e1, Array.getElem?_setIfInBounds, List.getElem_set]
  by_cases e : f = i
  · subst e
    rw [if_pos rfl, if_pos (by omega), if_pos rfl]
  · rw [if_neg e, if_neg e, ← cell_of_row w g i _ _ _ h1]
    exact h.got i hi
/-- what far keeps in memory: the marks, a row that is read, a row that grows -/
structure FarAt (w : World) (dd : Nat) (DL : List Int) (rv : Value) (R : List Nat) (nv : Value) (X : List Nat) (wr : World) : Prop where
  dl : IFill wr dd DL.length DL
  row : IntSl wr (fun b => dd < b ∧ nv.ownBlock ≠ some b ∧ b < wr.heap.size) rv (isN R)
  nx : Own iKind wr (dd + 1) (fun _ => False) nv (isN X)
  bel : Below dd w wr
section
variable {w wr u w3 : World} {dd : Nat} {DL : List Int} {rv nv : Value} {R X : List Nat}
theorem FarAt.below (h : FarAt w dd DL rv R nv X wr) (hu : Below wr.heap.size wr u) : FarAt w dd DL rv R nv X u := by
  have hl := h.dl.lt
  exact ⟨h.dl.keep (hu.block dd hl), h.row.move (fun b hb hlt => ⟨hb.1, hb.2.1, by have := hu.size; omega⟩) fun b _ hlt => hu.block b hlt, Own.below h.nx hu, h.bel.trans (hu.mono (by omega))⟩
theorem FarAt.set (h : FarAt w dd DL rv R nv X wr) {f : Nat} (hf : f < DL.length) (x : Int) : wr.frozen? ⟨dd, f, none⟩ = false ∧ FarAt w dd (DL.set f x) rv R nv X (wr.setCell ⟨dd, f, none⟩ (.int .i64 x)) := by
  obtain ⟨h1, h2⟩ := h.dl.set hf x
  have hsz : (wr.setCell ⟨dd, f, none⟩ (.int .i64 x)).heap.size = wr.heap.size := by simp [World.setCell]
  refine ⟨h1, by rw [List.length_set]; exact h2, h.row.move (fun b hb hlt => by rw [hsz]; exact hb) fun b hb _ => Below.heap_setCell _ _ _ _ (by show b ≠ dd; have := hb.1; omega), h.nx.keep (by rw [hsz]; exact Nat.le_refl _) fun b hlt hb => Below.heap_setCell _ _ _ _ ?_, h.bel.setCell (Nat.le_refl _) _⟩
  rcases hb with e | e
  · exact e.elim
  · have := (h.nx.low b e).1
    show b ≠ dd
    omega
theorem FarAt.put {y : Nat} {v3 : Value} (h : FarAt w dd DL rv R nv X wr) (hu : Below wr.heap.size wr u) (ho : Own iKind w3 (dd + 1) (fun _ => False) v3 (isN X ++ [(y : Int)])) (hg : u.grownBy w3 nv.ownBlock) (hv : ∀ k, v3.ownBlock = some k → nv.ownBlock = some k ∨ u.heap.size ≤ k) : FarAt w dd DL rv R v3 (X ++ [y]) w3 := by
  have hl := h.dl.lt
  have hz := hu.size
  have hz3 := hg.size
  have hnl : ∀ k, nv.ownBlock = some k → dd + 1 ≤ k := fun k e => (h.nx.low k e).1
  rw [isN_snoc] at ho
  refine ⟨h.dl.keep ((hg.block dd (by omega) fun e => by have := hnl dd e.symm; omega).trans (hu.block dd hl)), h.row.move (fun b hb hlt => ⟨hb.1, fun e => ?_, by omega⟩) fun b hb hlt => (hg.block b (by omega) fun e => hb.2.1 e.symm).trans (hu.block b hlt), ho, (h.bel.trans (hu.mono (by omega))).grown hg (by omega) fun k e => by have := hnl k e; omega⟩
  rcases hv b e with e | e
  · exact hb.2.1 e
  · omega
theorem FarAt.swap (h : FarAt w dd DL rv R nv X wr) : FarAt w dd DL nv X (.slice none 0 0) [] wr := by
  refine ⟨h.dl, (own_is h.nx).low.move (fun b hb hlt => ⟨by have := hb.1.2; omega, by simp [Value.ownBlock], hlt⟩) fun _ _ _ => rfl, Own.nil _ _ _, h.bel⟩
theorem FarAt.fresh (h : FarAt w dd DL rv R nv X wr) : FarAt w dd DL rv R (.slice none 0 0) [] wr := by
  refine ⟨h.dl, h.row.move (fun b hb hlt => ⟨hb.1, by simp [Value.ownBlock], hlt⟩) fun _ _ _ => rfl, Own.nil _ _ _, h.bel⟩
end
theorem path_root {S : Sto} (hI : Inv S) : ∀ (n x y : Nat), x < S.cells.length → PathN S n x y → ∃ z, z < S.cells.length ∧ y = fol S z
  | 0, x, y, hx, h => ⟨x, hx, h⟩
  | n + 1, x, y, hx, h => by
    obtain ⟨a, h1, h2⟩ := h
    obtain ⟨f, -, hg⟩ := hI.stoIn.fol hx
    have := (hI.cell _ _ hg).args a h1
    exact path_root hI n a.toNat y (by omega) h2
theorem RowN.cell {S : Sto} (hI : Inv S) {x n : Nat} (hx : x < S.cells.length) {R : List Nat} {DL : List Int} (h : RowN S x n R DL) {y : Nat} (hy : y ∈ R) : S.cells[y]? = some (cellF S y) := by
  obtain ⟨z, hz, rfl⟩ := path_root hI n x y hx ((h.mem y).1 hy)
  obtain ⟨f, -, hg⟩ := hI.stoIn.fol hz
  rw [hg, (cellF_root hI.stoIn hz).2]
/-- the rows so far -/
def FarO (S : Sto) (x : Nat) (w : World) (dd : Nat) (v6 v7 : Value) (wr : World) : Prop := ∃ (n : Nat) (R : List Nat) (DL : List Int), n ≤ 2000 ∧ v7 = .int .i64 ((n : Int) + 1) ∧ RowN S x n R DL ∧ FarAt w dd DL v6 R (.slice none 0 0) [] wr
/-- the cells of a row so far -/
def FarM (S : Sto) (n : Nat) (R : List Nat) (rv : Value) (w : World) (dd : Nat) (v33 v8 : Value) (wr : World) : Prop := ∃ (i : Nat) (DL : List Int) (X : List Nat), i ≤ R.length ∧ v33 = .int .i64 i ∧ Mk S.cells.length (n + 1) ((R.take i).flatMap (kidsF S)) DL X ∧ FarAt w dd DL rv R v8 X wr
/-- the Args of a cell so far -/
def FarI (S : Sto) (n : Nat) (R : List Nat) (rv : Value) (i c : Nat) (A : List Int) (w : World) (dd : Nat) (v46 v8 : Value) (wr : World) : Prop := ∃ (j : Nat) (DL : List Int) (X : List Nat), j ≤ A.length ∧ v46 = .int .i64 j ∧ Mk S.cells.length (n + 1) ((R.take i).flatMap (kidsF S) ++ (kidsF S c).take j) DL X ∧ FarAt w dd DL rv R v8 X wr
set_option maxRecDepth 100000 in
set_option maxHeartbeats 4000000 in
theorem ref_far {S : Sto} {D : Nat → Prop} {p : Nat} (hI : Inv S) (x : Nat) (w : World) (hS : RefAt w D p S) (hx : x < S.cells.length) :
    Calls Try.prog 76 #[.pointer (some ⟨p, 0, none⟩), .int .i64 x] w fun e w' => e = .returned (.bool (deepB S 2000 x)) ∧ Below w.heap.size w w' := by
  obtain ⟨ff, hch, hcl⟩ := hI.stoIn.fol hx
  have hsm := hI.small
  obtain ⟨r, hr⟩ : ∃ r, r = fol S x := ⟨_, rfl⟩
  rw [← hr] at hch
  have hrl := hch.end_.1
  have HS := Lib.hid hS
  have HI := Lib.hid hI
  have HCH := Lib.hid hch
  have HR := Lib.hid hr
  have hsx := hS
  obtain ⟨cv, bv, AA, hrow⟩ := hsx
  obtain ⟨g, cap, av, rfl, q1, q2, -⟩ := hrow.cell x hx
  obtain ⟨x0, x1, x2⟩ := row3 hrow.row
  have HDL := Lib.hid hrow.dl
  clear hS hI hch hr hrow hcl
  go_enter Try.func76, Try.ntmps76
  obtain ⟨i0, hti, hy0, hy1, hy2⟩ := info_parts info_int
  go_wp2_with (with_reducible show wpList _ _ _ (⟨some 19, _, _, _, _, _⟩ :: _) _ _
               refine wpList_make_full _ rfl (.tmp 18) (.tmp 18) 50 rfl w.heap.size 3 i0 _ 1 Try.underlying50 hti hy0 hy1 .i64 .i64 _ _ S.cells.length rfl rfl rfl rfl (by rw [hy2]; omega) (by unfold maxLen; omega) (Nat.le_refl _) ?_
               intro w1 hown hgr
               have hif := IFill.zero hown
               have hb1 : Below w.heap.size w w1 := (Below.refl _ _).grown hgr (Nat.le_refl _) (by simp)
               have HIF := Lib.hid hif
               have HB1 := Lib.hid hb1
               clear hown hgr hif hb1 x0 x1 x2 hti hy0 hy1 hy2)
  refine (ref_Follow _ (HS.out.below HB1.out) HI.out.kindOk ff x r HCH.out).mono ?_
  rintro e2 w2 ⟨rfl, rfl⟩
  have hz1 := HB1.out.size
  have hrn : RowN S x 0 [r] (List.replicate S.cells.length 0) := by rw [HR.out]; exact RowN.first HI.out hx
  have hlw1 := HIF.out.lt
  obtain ⟨dd, hdd⟩ : ∃ dd, dd = w.heap.size := ⟨_, rfl⟩
  have hb2 := below_new w1 (.cells #[.int .i64 r] 3 (0, 0))
  have hn2 := heap_alloc_new w1 (.cells #[.int .i64 r] 3 (0, 0))
  have hst : FarAt w dd (List.replicate S.cells.length 0) (.slice (some ⟨w1.heap.size, 0, none⟩) 1 1) [r] (.slice none 0 0) [] (w1.alloc (.cells #[.int .i64 r] 3 (0, 0))) := by
    rw [hdd]
    refine ⟨by rw [List.length_replicate]; exact HIF.out.keep (hb2.block _ hlw1), ⟨_, _, rfl, Nat.le_refl _, by unfold maxLen; omega, fun i hi => ?_⟩, Own.nil _ _ _, HB1.out.trans (hb2.mono hz1)⟩
    have hi0 : i = 0 := by simp [isN] at hi; omega
    subst hi0
    exact ⟨w1.heap.size, 0, rfl, ⟨by omega, by simp [Value.ownBlock], by simp⟩, by simp, by rw [cell_of_row _ _ 0 _ _ _ hn2]; rfl⟩
  have hso : FarO S x w dd (.slice (some ⟨w1.heap.size, 0, none⟩) 1 1) (.int .i64 1) (w1.alloc (.cells #[.int .i64 r] 3 (0, 0))) := ⟨0, _, _, by omega, rfl, hrn, hst⟩
  have HSO := Lib.hid hso
  have HDD := Lib.hid hdd
  rw [← hdd]
  clear hso hst hrn hb2 hn2 HIF HB1 hdd hlw1 HR HCH
  go_wp2
  generalize w1.alloc (.cells #[.int .i64 r] 3 (0, 0)) = w3 at *
  go_loopw [6, 7] (fun v6 v7 wr => FarO S x w dd v6 v7 wr) (fun _ v7 _ => 2002 - (intOf v7).toNat)
  case atStart => exact HSO.out
  case round =>
    clear HSO
    obtain ⟨n, R, DL, hn, rfl, hR, hA⟩ := hrel
    obtain ⟨q6, c6, e6⟩ := hA.row.form
    rw [isN_len] at e6
    subst e6
    have hRl := hR.len
    have HRN := Lib.hid hR
    have HA := Lib.hid hA
    have hdw : dd < wr.heap.size := hA.dl.lt
    clear hR hA
    by_cases h0 : 0 < R.length
    · have b1 : decide ((0 : Int) < (R.length : Int)) = true := by simp; omega
      by_cases h1 : 2000 < n + 1
      · have b2 : decide ((2000 : Int) < (n : Int) + 1) = true := by simp; omega
        have en : n = 2000 := by omega
        subst en
        have hf := HRN.out.more h0
        have hbl : Below w.heap.size w wr := by rw [← HDD.out]; exact HA.out.bel
        have HBL := Lib.hid hbl
        have HFF := Lib.hid hf
        clear hf hbl HA HRN
        go_wp2
        go_ret
        exact ⟨by rw [HFF.out]; rfl, HBL.out⟩
      have b2 : decide ((2000 : Int) < (n : Int) + 1) = false := by simp; omega
      have hm : FarM S n R (.slice q6 R.length c6) w dd (.int .i64 ((0 : Nat) : Int)) (.slice none 0 0) wr := ⟨0, DL, [], by omega, rfl, HRN.out.mark, HA.out⟩
      have HM := Lib.hid hm
      have hn1 : n < 2000 := by omega
      clear hm HA hn h1
      go_wp2
      go_loopw [33, 8] (fun v33 v8 wr => FarM S n R (.slice q6 R.length c6) w dd v33 v8 wr) (fun v33 _ _ => R.length - (intOf v33).toNat)
      case atStart => exact HM.out
      case round =>
        clear HM
        obtain ⟨i, DM, X, hi, rfl, hK, hA⟩ := hrel
        have HK := Lib.hid hK
        have HA := Lib.hid hA
        have hdw' : dd < wr.heap.size := hA.dl.lt
        obtain ⟨q8, c8, e8⟩ := own_form hA.nx
        rw [isN_len] at e8
        subst e8
        clear hK hA
        by_cases hil : i < R.length
        · have b3 : decide ((i : Int) < (R.length : Int)) = true := by simp; omega
          have hcR : R[i] ∈ R := List.getElem_mem hil
          have hcl := HRN.out.cell HI.out hx hcR
          have hclt := HRN.out.lt _ hcR
          obtain ⟨b6, o6, e', hcx⟩ := ints_pickA HA.out.row i (by rw [isN_len]; exact hil)
          obtain rfl := e'
          have hrm := ints_roomA HA.out.row
          rw [isN_at hil] at hcx
          obtain ⟨c, hc⟩ : ∃ c, c = R[i] := ⟨_, rfl⟩
          rw [← hc] at hcl hclt hcx
          have hrs := HS.out.below (HA.out.bel.mono (Nat.le_of_eq HDD.out.symm))
          obtain ⟨cv, bv, AA', hrow⟩ := hrs
          obtain ⟨g', cap', av', rfl, q1', q2', -, -, -, c3, -, hav⟩ := hrow.cell c hclt
          have hce : S.cells[c] = cellF S c := by
            have := List.getElem?_eq_getElem hclt
            rw [hcl] at this
            exact (Option.some.inj this).symm
          obtain ⟨A, hAA⟩ : ∃ A, A = (cellF S c).args := ⟨_, rfl⟩
          rw [hce, ← hAA] at hav
          obtain ⟨qa, ka, rfl⟩ := hav.form
          obtain ⟨x0, x1, x2⟩ := row3 hrow.row
          have hok := HI.out.cell _ _ hcl
          have haa := hok.args
          have hal := hok.len
          rw [← hAA] at haa hal
          have hc0 : (0 : Int) ≤ (c : Int) := by omega
          have hc1 : (c : Int) < (S.cells.length : Int) := by omega
          have hkid : kidsF S c = A.map fun a => fol S a.toNat := by rw [hAA]; rfl
          have hfl : (R.take (i + 1)).flatMap (kidsF S) = (R.take i).flatMap (kidsF S) ++ kidsF S c := by
            rw [List.take_succ_eq_append_getElem hil, List.flatMap_append, hc]; simp
          have hst : FarI S n R (.slice (some ⟨b6, o6, none⟩) R.length c6) i c A w dd (.int .i64 ((0 : Nat) : Int)) (.slice q8 X.length c8) wr := ⟨0, DM, X, by omega, rfl, by simpa using HK.out, HA.out⟩
          have HST := Lib.hid hst
          have HAA := Lib.hid haa
          have HKD := Lib.hid hkid
          have HFL := Lib.hid hfl
          have HAV := Lib.hid (hav.move (w' := wr) (P' := fun b => b < dd) (fun b hb _ => by rw [HDD.out]; exact HDL.out b (hrow.da b hb.1)) fun _ _ _ => rfl)
          have HBW := Lib.hid HA.out.bel
          clear hst haa hkid hfl hav hrow hcl hok hcR hce hAA hc HK HA
          go_wp2
          obtain ⟨W1, rfl⟩ : ∃ wo : World, wo = wr := ⟨_, rfl⟩
          clear x0 x1 x2 c3 hcx
          go_loopw [46, 8] (fun v46 v8 wr => FarI S n R (.slice (some ⟨b6, o6, none⟩) R.length c6) i c A w dd v46 v8 wr) (fun v46 _ _ => A.length - (intOf v46).toNat)
          case atStart => exact HST.out
          case round =>
            clear HST
            obtain ⟨j, DJ, Y, hj, rfl, hK, hA⟩ := hrel
            obtain ⟨qy, cy, ey⟩ := own_form hA.nx
            rw [isN_len] at ey
            subst ey
            have hdj : dd < wr.heap.size := hA.dl.lt
            have hYl := hK.small
            have hDl := hK.len
            by_cases hjl : j < A.length
            · have b4 : decide ((j : Int) < (A.length : Int)) = true := by simp; omega
              obtain ⟨b7, o7, e', hcx⟩ := ints_pickA (IntSl.move (w' := wr) (P' := fun b => b < dd) HAV.out (fun b hb _ => hb) fun b hb hlt => (hA.bel.block b hb).trans (HBW.out.block b hb).symm) j hjl
              obtain rfl := e'
              have hrm := ints_roomA HAV.out
              obtain ⟨y, hy⟩ : ∃ y : Nat, A[j] = (y : Int) := ⟨_, (Int.toNat_of_nonneg (HAA.out _ (List.getElem_mem hjl)).1).symm⟩
              have hyl := (HAA.out _ (List.getElem_mem hjl)).2
              have htk : (kidsF S c).take (j + 1) = (kidsF S c).take j ++ [fol S y] := by
                rw [HKD.out, List.take_succ_eq_append_getElem (by rw [List.length_map]; exact hjl)]
                congr 2
                rw [List.getElem_map, hy]
                rfl
              rw [hy] at hcx hyl
              obtain ⟨fy, hcy, -⟩ := HI.out.stoIn.fol (x := y) (by omega)
              obtain ⟨f, hf⟩ : ∃ f, f = fol S y := ⟨_, rfl⟩
              rw [← hf] at hcy htk
              have hfl := hcy.end_.1
              have hfd : f < DJ.length := by omega
              have hgf := hA.dl.got f hfd
              obtain ⟨d, hd⟩ : ∃ d, d = DJ[f] := ⟨_, rfl⟩
              rw [← hd] at hgf
              have HQ := Lib.hid (ref_Follow wr (HS.out.below (hA.bel.mono (Nat.le_of_eq HDD.out.symm))) HI.out.kindOk fy y f hcy)
              have hf0 : (0 : Int) ≤ (f : Int) := by omega
              have hf1 : (f : Int) < (S.cells.length : Int) := by omega
              have HK := Lib.hid hK
              have HA := Lib.hid hA
              have HTK := Lib.hid htk
              have HD := Lib.hid hd
              clear hK hA hcy hf hd htk hy
              go_wp2_with fail
              refine HQ.out.mono ?_
              rintro e7 w7 ⟨rfl, rfl⟩
              by_cases hlt : d < (n : Int) + 1
              · have b5 : decide (d < (n : Int) + 1) = true := by simpa using hlt
                have hnew := HK.out.new hfd (by rw [← HD.out]; simpa using hlt)
                have hset := HA.out.set hfd ((n + 1 : Nat) : Int)
                rw [List.append_assoc, ← HTK.out] at hnew
                obtain ⟨ft, hset⟩ := hset
                rw [show ((n + 1 : Nat) : Int) = (n : Int) + 1 by omega] at hset hnew
                have HNEW := Lib.hid hnew
                have HSET := Lib.hid hset
                clear hnew hset HK HA HQ hlt
                go_upto_region 18 with fail
                clear hgf ft hcx
                have hzS : (wr.setCell ⟨dd, f, none⟩ (.int .i64 ((n : Int) + 1))).heap.size = wr.heap.size := by simp [World.setCell]
                obtain ⟨wS, hwS⟩ : ∃ wS, wS = wr.setCell ⟨dd, f, none⟩ (.int .i64 ((n : Int) + 1)) := ⟨_, rfl⟩
                rw [← hwS] at HSET hzS ⊢
                have hzL : dd < wS.heap.size := by omega
                clear hwS hzS
                have hb9 := below_new wS (.cells #[.int .i64 f] 3 (0, 0))
                have HN9 := Lib.hid (heap_alloc_new wS (.cells #[.int .i64 f] 3 (0, 0)))
                have HO9 := Lib.hid (Own.below HSET.out.nx hb9)
                have hYl2 := HNEW.out.small
                have HYL : Hid ((isN Y).length = Y.length) := Lib.hid (isN_len Y)
                have hz9 : (wS.alloc (.cells #[.int .i64 f] 3 (0, 0))).heap.size = wS.heap.size + 1 := by simp
                rw [List.length_append, List.length_singleton] at hYl2
                have HB9 := Lib.hid hb9
                clear hb9
                go_wp2_with (with_reducible show wpList _ _ _ (⟨some 66, _, _, _, _, _⟩ :: _) _ _
                             go_must (
                             refine wpList_put (K := iKind) rfl (.tmp 63) (.tmp 65) _ rfl Try.underlying50 info_int rfl (dd + 1) (fun _ => False) (.slice qy Y.length cy) (isN Y) [.int .i64 f] (f : Int) _ _ _ _ rfl HO9.out rfl HN9.out rfl (by rw [HYL.out]; unfold maxLen; omega) (by rw [HYL.out]; omega) (by omega) ?_
                             intro v8 w8 ho8 hb8 hg8 hv8
                             have hput := HSET.out.put HB9.out ho8 hg8 hv8
                             obtain ⟨q3, c3, e3⟩ := own_form hput.nx
                             rw [isN_len, List.length_append, List.length_singleton] at e3
                             subst e3
                             have HPUT := Lib.hid hput
                             clear ho8 hb8 hg8 hv8 hput))
                have hfin : FarI S n R (.slice (some ⟨b6, o6, none⟩) R.length c6) i c A w dd (.int .i64 ((j + 1 : Nat) : Int)) (.slice q3 (Y.length + 1) c3) w8 := ⟨j + 1, DJ.set f ((n : Int) + 1), Y ++ [f], by omega, rfl, HNEW.out, HPUT.out⟩
                have HF := Lib.hid hfin
                go_roundw
                case measure => simp [intOf]; omega
                case rel => exact HF.out
              · have b5 : decide (d < (n : Int) + 1) = false := by simpa using hlt
                have hold := HK.out.old hfd (by rw [← HD.out]; simpa using hlt)
                rw [List.append_assoc, ← HTK.out] at hold
                have hfin : FarI S n R (.slice (some ⟨b6, o6, none⟩) R.length c6) i c A w dd (.int .i64 ((j + 1 : Nat) : Int)) (.slice qy Y.length cy) wr := ⟨j + 1, DJ, Y, by omega, rfl, hold, HA.out⟩
                have HF := Lib.hid hfin
                clear hold hfin HK HA HQ hlt
                go_wp2
                go_roundw
                case measure => simp [intOf]; omega
                case rel => exact HF.out
            · have b4 : decide ((j : Int) < (A.length : Int)) = false := by rw [decide_eq_false_iff_not]; omega
              have ej : j = A.length := by omega
              subst ej
              have hk := hK
              rw [show (kidsF S c).take A.length = kidsF S c by rw [HKD.out]; exact List.take_of_length_le (by simp), ← HFL.out] at hk
              have hfin : FarM S n R (.slice (some ⟨b6, o6, none⟩) R.length c6) w dd (.int .i64 ((i + 1 : Nat) : Int)) (.slice qy Y.length cy) wr := ⟨i + 1, DJ, Y, by omega, rfl, hk, hA⟩
              have HF := Lib.hid hfin
              clear hk hK hA hfin
              go_wp2
              go_roundw
              case measure => simp [intOf]; omega
              case rel => exact HF.out
        · have b3 : decide ((i : Int) < (R.length : Int)) = false := by simp; omega
          have ei : i = R.length := by omega
          subst ei
          have hk := HK.out
          rw [List.take_length] at hk
          have hrow := hk.row HI.out hx HRN.out
          have hfin : FarO S x w dd (.slice q8 X.length c8) (.int .i64 ((n : Int) + 1 + 1)) wr := ⟨n + 1, X, DM, by omega, by simp, hrow, HA.out.swap⟩
          have HF := Lib.hid hfin
          clear hk hrow hfin
          go_wp2
          go_roundw
          case measure => simp [intOf]; omega
          case rel => exact HF.out
    · have b1 : decide ((0 : Int) < (R.length : Int)) = false := by rw [decide_eq_false_iff_not]; omega
      have hf := HRN.out.gone HI.out hx (by omega) 2000 hn
      have hbl : Below w.heap.size w wr := by rw [← HDD.out]; exact HA.out.bel
      have HBL := Lib.hid hbl
      have HFF := Lib.hid hf
      clear hf hbl HA HRN
      go_wp2
      go_ret
      exact ⟨by rw [HFF.out]; rfl, HBL.out⟩
end Go.Proofs.Ytoklbeogmcdgaaa.Tms
namespace Go.Proofs.Ytoklbeogmcdgaaa.Tms
open Go Go.RowKit Go.Proofs.Ytoklbeogmcdgaaa.Reg Go.Proofs.Ytoklbeogmcdgaaa.Rws Go.Proofs.Ytoklbeogmcdgaaa.Maps
set_option linter.unusedVariables false
set_option linter.unusedSimpArgs false

/-- so many Args are told -/
structure TrAt (w6 : World) (r : Nat) (sh : Tm) (L : List Tm) (i : Nat) (q : Option Addr) (c : Nat) (wr : World) : Prop where
  row : wr.heap[r]? = some (.cells #[.int .i64 sh.k, .int .i64 sh.n, .string sh.s, .slice q i c] 33 (0, 0))
  own : Own tmKind wr (r + 1) (fun b => r + 1 ≤ b) (.slice q i c) (L.take i)
  bel : Below r w6 wr
def TrRel (w6 : World) (r : Nat) (sh : Tm) (L : List Tm) (vi : Value) (wr : World) : Prop := ∃ (i : Nat) (q : Option Addr) (c : Nat), i ≤ L.length ∧ vi = .int .i64 i ∧ TrAt w6 r sh L i q c wr
theorem TrAt.below {w6 wr u : World} {r i c : Nat} {sh : Tm} {L : List Tm} {q : Option Addr} (h : TrAt w6 r sh L i q c wr) (hu : Below wr.heap.size wr u) : TrAt w6 r sh L i q c u := by
  have hl : r < wr.heap.size := (Array.getElem?_eq_some_iff.1 h.row).1
  exact ⟨(hu.block r hl).trans h.row, Own.below h.own hu, h.bel.trans (hu.mono (by omega))⟩
theorem TrAt.put {w6 u w3 : World} {r i c : Nat} {sh : Tm} {L : List Tm} {q : Option Addr} {v3 : Value} (h : TrAt w6 r sh L i q c u) (hi : i < L.length) (ho : Own tmKind w3 (r + 1) (fun b => r + 1 ≤ b) v3 (L.take i ++ [L[i]])) (hg : u.grownBy w3 (Value.slice q i c).ownBlock) :
    (w3.cell? ⟨r, 3, none⟩ = some (.slice q i c) ∧ w3.frozen? ⟨r, 3, none⟩ = false) ∧ ∃ q3 c3, v3 = .slice q3 (i + 1) c3 ∧ TrAt w6 r sh L (i + 1) q3 c3 (w3.setCell ⟨r, 3, none⟩ v3) := by
  have hl : r < u.heap.size := (Array.getElem?_eq_some_iff.1 h.row).1
  have hr3 := (hg.block r hl (fun e => by have := (h.own.low r e.symm).1; omega)).trans h.row
  rw [← List.take_succ_eq_append_getElem hi] at ho
  have hlen : (L.take (i + 1)).length = i + 1 := by rw [List.length_take]; omega
  obtain ⟨q3, c3, rfl⟩ := own_form ho
  rw [hlen] at ho ⊢
  have e1 := heap_setCell_same w3 r 3 _ _ (.slice q3 (i + 1) c3) hr3
  refine ⟨⟨cell_of_row w3 r 3 _ _ _ hr3, frozen_of_row w3 r 3 _ _ hr3⟩, q3, c3, rfl, by simpa using e1, ho.keep (by simp [World.setCell]) fun b hb he => Below.heap_setCell _ _ _ _ ?_, ?_⟩
  · rcases he with e | e
    · show b ≠ r
      have e' : r + 1 ≤ b := e
      omega
    · have := (ho.low b e).1
      show b ≠ r
      omega
  · exact (h.bel.grown hg (by have := h.bel.size; omega) fun k e => by have := (h.own.low k e).1; omega).setCell (Nat.le_refl _) _
theorem TrAt.full {w6 wr : World} {r c : Nat} {sh : Tm} {L : List Tm} {q : Option Addr} (h : TrAt w6 r sh L L.length q c wr) : IsTm wr (fun b => r + 1 ≤ b) (.agg #[.int .i64 sh.k, .int .i64 sh.n, .string sh.s, .slice q L.length c]) (withArgs sh L) := by
  have ho := h.own
  rw [List.take_length] at ho
  obtain ⟨a, cap, e, hargs⟩ := own_reads ho
  simp only [Value.slice.injEq] at e
  obtain ⟨rfl, -, rfl⟩ := e
  exact ⟨q, c, rfl, ArgsFrom.imp (fun b hb => by rcases hb with h | h <;> exact h) (fun _ _ _ => rfl) _ _ _ hargs⟩
set_option maxRecDepth 100000 in
set_option maxHeartbeats 4000000 in
theorem ref_tree {S : Sto} {D : Nat → Prop} {p : Nat} (hI : Inv S) (f : Nat) : ∀ (x : Nat) (w : World), RefAt w D p S → x < S.cells.length → deepB S f x = false →
    Calls Try.prog 78 #[.pointer (some ⟨p, 0, none⟩), .int .i64 x] w fun e w' => ∃ v, e = .returned v ∧ IsTm w' (fun b => w.heap.size ≤ b) v (treeR S f x) ∧ Below w.heap.size w w' := by
  induction f with
  | zero => intro x w hS hx hd; cases hd
  | succ f ih =>
    intro x w hS hx hd
    have IH := Lib.hid ih
    clear ih
    obtain ⟨ff, hch, hcl⟩ := hI.stoIn.fol hx
    have hok := hI.cell _ _ hcl
    have hdd : ∀ a ∈ (cellF S x).args, deepB S f a.toNat = false := by
      intro a ha
      have hd' : (cellF S x).args.any (fun a => deepB S f a.toNat) = false := hd
      rw [List.any_eq_false] at hd'
      simpa using hd' a ha
    have haa := hok.args
    have hal := hok.len
    have hsm := hI.small
    have hva := hok.var
    have hb0 := below_new w (.cells #[.int .i64 0, .int .i64 0, .string ⟨#[]⟩, .slice none 0 0] 33 (0, 0))
    have hn0 := heap_alloc_new w (.cells #[.int .i64 0, .int .i64 0, .string ⟨#[]⟩, .slice none 0 0] 33 (0, 0))
    have hlook := ref_Look _ (hS.below hb0) hI.kindOk ff x _ _ hch hcl (by omega) (by omega) hva
    have HLOOK := Lib.hid hlook
    have HB0 := Lib.hid hb0
    have HN0 := Lib.hid hn0
    have HS := Lib.hid hS
    have HDD := Lib.hid hdd
    have HAA := Lib.hid haa
    clear hlook hb0 hn0 hS hdd haa hok hcl hch hd
    go_enter Try.func78, Try.ntmps78
    go_wp2_with fail
    refine HLOOK.out.mono ?_
    rintro e1 w1 ⟨v1, he1, hi1, hb1⟩
    obtain ⟨sh, hsh⟩ : ∃ sh, sh = shellC (fol S x) (cellF S x) := ⟨_, rfl⟩
    obtain ⟨A, hA⟩ : ∃ A, A = (cellF S x).args := ⟨_, rfl⟩
    obtain ⟨L, hL⟩ : ∃ L, L = A.map fun a => treeR S f a.toNat := ⟨_, rfl⟩
    have htr : treeR S (f + 1) x = withArgs sh L := by rw [hL, hA, hsh]; rfl
    rw [← hsh] at he1
    rw [← hA] at hi1 HDD HAA hal
    obtain rfl : e1 = .returned (.tuple #[.agg #[.int .i64 sh.k, .int .i64 sh.n, .string sh.s, .slice none 0 0], v1]) := he1
    obtain ⟨qa, ka, rfl⟩ := hi1.form
    have hLl : L.length = A.length := by rw [hL, List.length_map]
    have hsz0 : (w.alloc (.cells #[.int .i64 0, .int .i64 0, .string ⟨#[]⟩, .slice none 0 0] 33 (0, 0))).heap.size = w.heap.size + 1 := by simp
    have hz1 := hb1.size
    have hn1 := (hb1.block w.heap.size (by omega)).trans HN0.out
    have hb01 := HB0.out.trans (hb1.mono (by omega))
    have hb5 := below_new w1 (.cells #[.int .i64 sh.k, .int .i64 sh.n, .string sh.s, .slice none 0 0] 33 (0, 0))
    have hn5 := heap_alloc_new w1 (.cells #[.int .i64 sh.k, .int .i64 sh.n, .string sh.s, .slice none 0 0] 33 (0, 0))
    have hst : TrRel w1 w1.heap.size sh L (.int .i64 ((0 : Nat) : Int)) (w1.alloc (.cells #[.int .i64 sh.k, .int .i64 sh.n, .string sh.s, .slice none 0 0] 33 (0, 0))) := ⟨0, none, 0, by omega, rfl, hn5, Own.nil _ _ _, hb5⟩
    have HST := Lib.hid hst
    have HTR := Lib.hid htr
    have HLE := Lib.hid hL
    have HI1 := Lib.hid hi1
    have HN1 := Lib.hid hn1
    have HB1 := Lib.hid hb01
    have HS1 := Lib.hid (HS.out.below hb01)
    clear hst htr hL hi1 hn1 hb01 hb1 hb5 hn5 hsh hA HLOOK HB0 HN0 HS hva
    dsimp only
    go_upto_region 3 with fail
    obtain ⟨w2, hw2⟩ : ∃ w2, w2 = w1.alloc (.cells #[.int .i64 sh.k, .int .i64 sh.n, .string sh.s, .slice none 0 0] 33 (0, 0)) := ⟨_, rfl⟩
    rw [← hw2] at HST ⊢
    clear hw2
    obtain ⟨r, hr⟩ : ∃ r, r = w1.heap.size := ⟨_, rfl⟩
    rw [← hr] at HST ⊢
    have HR := Lib.hid hr
    have hrw : w.heap.size < r := by omega
    clear hr
    go_loopw [17] (fun v17 wr => TrRel w1 r sh L v17 wr) (fun v17 _ => A.length - (intOf v17).toNat)
    case atStart => exact HST.out
    case round =>
      clear HST
      obtain ⟨i, q, c, hi, rfl, hat⟩ := hrel
      have HAT := Lib.hid hat
      have hbel : Below w1.heap.size w1 wr := by rw [← HR.out]; exact hat.bel
      have HBEL := Lib.hid hbel
      clear hat hbel
      by_cases hil : i < A.length
      · have b2 : decide ((i : Int) < (A.length : Int)) = true := by simp; omega
        obtain ⟨b, off, e', hcx⟩ := ints_pickA (IntSl.move (P' := fun b => b < w1.heap.size) HI1.out.low (fun b hb _ => hb.2) fun b hb hlt => HBEL.out.block b hlt) i hil
        obtain rfl := e'
        have hrm := ints_roomA HI1.out
        obtain ⟨y, hy⟩ : ∃ y : Nat, A[i] = (y : Int) := ⟨_, (Int.toNat_of_nonneg (HAA.out _ (List.getElem_mem hil)).1).symm⟩
        have hyl := (HAA.out _ (List.getElem_mem hil)).2
        have hyd := HDD.out _ (List.getElem_mem hil)
        have hLi : L[i]'(by omega) = treeR S f y := by
          have h1 : L[i]? = some (treeR S f y) := by rw [HLE.out, List.getElem?_map, List.getElem?_eq_getElem hil, hy]; rfl
          exact (List.getElem?_eq_some_iff.1 h1).2
        rw [hy] at hcx hyl hyd
        rw [Int.toNat_natCast] at hyd
        have HLI := Lib.hid hLi
        clear hLi hy
        go_upto_region 5 with fail
        clear hcx
        refine wp_region_rest (by kernel_rfl) ?_
        have hdr := (Below.refl wr.heap.size wr).drew
        have HAT0 := Lib.hid (HAT.out.below hdr)
        have HBW := Lib.hid (HBEL.out.trans (hdr.mono HBEL.out.size))
        have hq := IH.out y wr.drew ((HS1.out.below HBEL.out).below hdr) (by omega) hyd
        have HQ := Lib.hid hq
        clear hdr hq HAT HBEL
        generalize wr.drew = W0 at *
        have hrl : r < W0.heap.size := (Array.getElem?_eq_some_iff.1 HAT0.out.row).1
        refine rest_chainP (fun u => Below W0.heap.size W0 u) 0 6 (.soft 0 (.soft 1 (.soft 2 (.soft 3 (.one 4 (.one 5 .nil)))))) (.soft _ (.soft _ (.soft _ (.soft _ (.one _ (.one _ .nil)))))) ⟨rfl, ⟨rfl, ⟨rfl, ⟨rfl, ⟨rfl, ⟨rfl, trivial⟩⟩⟩⟩⟩⟩ (by kernel_rfl) (by kernel_rfl) (by kernel_rfl) (by kernel_rfl) (.inr (by kernel_rfl)) (Below.refl _ _) ?_
        refine chainP_soft (a1 := ?ma11) (by kernel_rfl) (by kernel_rfl) ?mh11 ?mr11
        case mh11 =>
          intro u hu E hE
          go_wp2
          rfl
        refine chainP_soft (a1 := ?ma12) (by kernel_rfl) (by kernel_rfl) ?mh12 ?mr12
        case mh12 =>
          intro u hu E hE
          obtain ⟨y0, y1, y2, y3⟩ := row4 ((hu.block r hrl).trans HAT0.out.row)
          go_wp2
          rfl
        refine chainP_soft (a1 := ?ma13) (by kernel_rfl) (by kernel_rfl) ?mh13 ?mr13
        case mh13 =>
          intro u hu E hE
          go_wp2
          rfl
        refine chainP_soft (a1 := ?ma14) (by kernel_rfl) (by kernel_rfl) ?mh14 ?mr14
        case mh14 =>
          intro u hu E hE
          go_wp2
          rfl
        refine chainP_one ?_
        intro E hE
        go_wp2_with fail
        refine HQ.out.mono ?_
        rintro e6 w6 ⟨v6, rfl, hi6, hb6⟩
        obtain ⟨q6, c6, e6⟩ := hi6.form
        obtain ⟨X, hX⟩ : ∃ X, X = treeR S f y := ⟨_, rfl⟩
        rw [← hX] at hi6 e6
        rw [← hX] at HLI
        subst e6
        clear hX
        have HI6 := Lib.hid hi6
        have HB6 := Lib.hid hb6
        clear hi6 hb6 HQ
        go_wp2
        refine ⟨HB6.out, ?_⟩
        refine chainP_one ?_
        intro E hE
        go_wp2
        have hb7 := below_new w6 (.cells #[.int .i64 X.k, .int .i64 X.n, .string X.s, .slice q6 X.args.length c6] 33 (0, 0))
        refine ⟨HB6.out.trans (hb7.mono HB6.out.size), ?_⟩
        have HNA := Lib.hid (heap_alloc_new w6 (.cells #[.int .i64 X.k, .int .i64 X.n, .string X.s, .slice q6 X.args.length c6] 33 (0, 0)))
        have hz6 := HB6.out.size
        have HAT7 := Lib.hid (HAT0.out.below (HB6.out.trans (hb7.mono HB6.out.size)))
        have HY7 := Lib.hid (tmKind.mono (w' := w6.alloc (.cells #[.int .i64 X.k, .int .i64 X.n, .string X.s, .slice q6 X.args.length c6] 33 (0, 0))) (P' := fun b => r + 1 ≤ b ∧ (Value.slice q i c).ownBlock ≠ some b) (fun b hb => ⟨by have := hb.1; omega, fun e => by have := (HAT0.out.own.low b e).2; have := hb.1; omega⟩) (fun b hb hlt => hb7.block b hlt) (tmKind.lt HI6.out.cells))
        clear hb7
        have hlt7 : (L.take i).length = i := by rw [List.length_take]; omega
        refine chainP_nil ?_
        refine rest_lineL 6 9 [_, _, _] rfl (by kernel_rfl) (by decide) (by decide) (by kernel_rfl) ?_
        have HLT := Lib.hid hlt7
        have hzr := (Array.getElem?_eq_some_iff.1 HAT7.out.row).1
        clear hlt7
        go_wp2_with (with_reducible show wpList _ _ _ (⟨some 27, _, _, _, _, _⟩ :: _) _ _
                     refine wpList_put (K := tmKind) rfl (.tmp 22) (.tmp 26) _ rfl Try.underlying31 info_tm rfl (r + 1) (fun b => r + 1 ≤ b) (.slice q i c) (L.take i) [.int .i64 X.k, .int .i64 X.n, .string X.s, .slice q6 X.args.length c6] X _ _ _ _ rfl HAT7.out.own rfl HNA.out HY7.out (by rw [HLT.out]; unfold maxLen; omega) (by rw [HLT.out]; omega) (by omega) ?_
                     intro v8 w8 ho8 hb8 hg8 hv8
                     rw [← HLI.out] at ho8
                     obtain ⟨⟨u1, u2⟩, q3, c3, rfl, hat3⟩ := HAT7.out.put (by omega) ho8 hg8
                     have HAT3 := Lib.hid hat3
                     clear ho8 hb8 hg8 hv8 hat3)
        refine then_rest (rest_end (by decide) ?_)
        go_wp2
        go_roundw
        case measure => simp [intOf]; omega
        case rel => exact ⟨i + 1, q3, c3, by omega, rfl, HAT3.out⟩
      · have b2 : decide ((i : Int) < (A.length : Int)) = false := by simp; omega
        have ei : i = L.length := by omega
        subst ei
        have hfull := HAT.out.full
        rw [← HTR.out, hLl] at hfull
        obtain ⟨y0, y1, y2, y3⟩ := row4 HAT.out.row
        have hn4 := (HBEL.out.block w.heap.size (by have := HR.out; omega)).trans HN1.out
        have hbw := HB1.out.trans (HBEL.out.mono HB1.out.size)
        have HFU := Lib.hid hfull
        have HN4 := Lib.hid hn4
        have HBW := Lib.hid hbw
        have hzw := (Array.getElem?_eq_some_iff.1 HAT.out.row).1
        clear hfull hn4 hbw
        go_wp2_with (with_reducible show wpList _ _ _ (⟨none, .store _ (.tmp 4) _, _, _, _, _⟩ :: _) _ _
                     refine wpList_store_row rfl 33 (.tmp 4) (.tmp 30) rfl w.heap.size #[.int .i64 sh.k, .int .i64 sh.n, .string sh.s, .slice q A.length c] rfl rfl _ _ HN4.out size_term rfl (one4 _ _ _ _ _ _) ?_)
        have hz := setRow_heap _ w.heap.size _ #[.int .i64 sh.k, .int .i64 sh.n, .string sh.s, .slice q A.length c] _ _ HN4.out
        refine bodyPost_ret (v := .agg #[.int .i64 sh.k, .int .i64 sh.n, .string sh.s, .slice q A.length c]) (results_cell_row Try.results78 _ _ w.heap.size _ _ _ _ rfl hz Try.underlying33 rfl (by kernel_rfl)) rfl ⟨_, rfl, ?_, below_setRow HBW.out (Nat.le_refl _) _⟩
        exact HFU.out.imp (fun b hb => by omega) fun b hb _ => setRow_other _ _ _ _ (by omega)
end Go.Proofs.Ytoklbeogmcdgaaa.Tms
namespace Go.Proofs.Ytoklbeogmcdgaaa.Tms
open Go Go.RowKit Go.Proofs.Ytoklbeogmcdgaaa.Reg Go.Proofs.Ytoklbeogmcdgaaa.Rws Go.Proofs.Ytoklbeogmcdgaaa.Maps
set_option linter.unusedVariables false
set_option linter.unusedSimpArgs false

set_option maxRecDepth 100000 in
set_option maxHeartbeats 4000000 in
theorem ref_Get_no {S : Sto} {D : Nat → Prop} {p : Nat} (w : World) (hS : RefAt w D p S) (x : Int) (hx : ¬ (0 ≤ x ∧ x < S.cells.length)) :
    Calls Try.prog 41 #[.pointer (some ⟨p, 0, none⟩), .int .i64 x] w fun e w' => e = .returned (.tuple #[aggT zeroTm none 0, .int .i64 2]) ∧ Below w.heap.size w w' := by
  have hb0 := below_new w (.cells #[.int .i64 0, .int .i64 0, .string ⟨#[]⟩, .slice none 0 0] 33 (0, 0))
  have hn0 := heap_alloc_new w (.cells #[.int .i64 0, .int .i64 0, .string ⟨#[]⟩, .slice none 0 0] 33 (0, 0))
  have HS := Lib.hid (hS.below hb0)
  have HB := Lib.hid hb0
  have HN := Lib.hid hn0
  have HX := Lib.hid (dec_no hx)
  clear hb0 hn0 hx hS
  go_enter Try.func41, Try.ntmps41
  go_wp2_with fail
  refine (ref_there _ HS.out x).mono ?_
  rintro e1 w1 ⟨rfl, rfl⟩
  rw [HX.out]
  go_wp2_with (with_reducible show wpList _ _ _ (⟨none, .store _ (.tmp 4) _, _, _, _, _⟩ :: _) _ _
               refine wpList_store_row rfl 33 (.tmp 4) (.tmp 10) rfl w.heap.size #[.int .i64 0, .int .i64 0, .string ⟨#[]⟩, .slice none 0 0] rfl rfl _ _ HN.out size_term rfl (one4 _ _ _ _ _ _) ?_)
  have hz := setRow_heap _ w.heap.size _ #[.int .i64 0, .int .i64 0, .string ⟨#[]⟩, .slice none 0 0] _ _ HN.out
  exact bodyPost_ret (v := .tuple #[.agg #[.int .i64 0, .int .i64 0, .string ⟨#[]⟩, .slice none 0 0], .int .i64 2]) (Push.results_cell_tmp Try.results41 _ _ w.heap.size _ _ _ _ _ rfl (by simp) hz Try.underlying33 rfl (by kernel_rfl)) rfl ⟨rfl, below_setRow HB.out (Nat.le_refl _) _⟩
def RgPost (t : Tm) (er : Int) (w : World) (e : Ending) (w' : World) : Prop := ∃ v, e = .returned (.tuple #[v, .int .i64 er]) ∧ IsTm w' (fun b => w.heap.size ≤ b) v t ∧ Below w.heap.size w w'
set_option maxRecDepth 100000 in
set_option maxHeartbeats 4000000 in
theorem ref_Get {S : Sto} {D : Nat → Prop} {p : Nat} (hI : Inv S) (x : Nat) (w : World) (hS : RefAt w D p S) (hx : x < S.cells.length) :
    Calls Try.prog 41 #[.pointer (some ⟨p, 0, none⟩), .int .i64 x] w (RgPost (getT S x) (getE S x) w) := by
  have hb0 := below_new w (.cells #[.int .i64 0, .int .i64 0, .string ⟨#[]⟩, .slice none 0 0] 33 (0, 0))
  have hn0 := heap_alloc_new w (.cells #[.int .i64 0, .int .i64 0, .string ⟨#[]⟩, .slice none 0 0] 33 (0, 0))
  have HX := Lib.hid (dec_yes hx)
  have HE := Lib.hid (getE_is S x)
  have HT := Lib.hid (getT_is S x)
  have HS := Lib.hid (hS.below hb0)
  have HI := Lib.hid hI
  have hsz0 : w.heap.size < (w.alloc (.cells #[.int .i64 0, .int .i64 0, .string ⟨#[]⟩, .slice none 0 0] 33 (0, 0))).heap.size := by simp
  have hsl := sizeR_le hI 2000 x 0
  have HB := Lib.hid hb0
  have HN := Lib.hid hn0
  clear hb0 hn0 hS hI
  go_enter Try.func41, Try.ntmps41
  go_wp2_with fail
  refine (ref_there _ HS.out x).mono ?_
  rintro e1 w1 ⟨rfl, rfl⟩
  rw [HX.out]
  go_wp2_with fail
  refine (ref_far HI.out x _ HS.out hx).mono ?_
  rintro e2 w2 ⟨rfl, hb2⟩
  have HS2 := Lib.hid (HS.out.below hb2)
  have HN2 := Lib.hid ((hb2.block _ hsz0).trans HN.out)
  have HB2 := Lib.hid (HB.out.trans (hb2.mono HB.out.size))
  have hsz2 : w.heap.size < w2.heap.size := by have := hb2.size; omega
  clear hb2 HS HN HB hsz0
  cases hd : deepB S 2000 x with
  | true =>
    have e3 : getE S x = 4 := by rw [HE.out, if_pos hd]
    have t3 : getT S x = zeroTm := by rw [HT.out, e3]; rfl
    have E3 := Lib.hid e3
    have T3 := Lib.hid t3
    clear hd e3 t3
    go_wp2_with (with_reducible show wpList _ _ _ (⟨none, .store _ (.tmp 4) _, _, _, _, _⟩ :: _) _ _
                 refine wpList_store_row rfl 33 (.tmp 4) (.tmp 14) rfl w.heap.size #[.int .i64 0, .int .i64 0, .string ⟨#[]⟩, .slice none 0 0] rfl rfl _ _ HN2.out size_term rfl (one4 _ _ _ _ _ _) ?_)
    have hz := setRow_heap _ w.heap.size _ #[.int .i64 0, .int .i64 0, .string ⟨#[]⟩, .slice none 0 0] _ _ HN2.out
    refine bodyPost_ret (v := .tuple #[.agg #[.int .i64 0, .int .i64 0, .string ⟨#[]⟩, .slice none 0 0], .int .i64 4]) (Push.results_cell_tmp Try.results41 _ _ w.heap.size _ _ _ _ _ rfl (by simp) hz Try.underlying33 rfl (by kernel_rfl)) rfl ⟨_, by rw [E3.out], ?_, below_setRow HB2.out (Nat.le_refl _) _⟩
    rw [T3.out]
    exact ⟨none, 0, rfl, by unfold zeroTm; unfold ArgsFrom; trivial⟩
  | false =>
    have HD := Lib.hid hd
    clear hd
    go_wp2_with fail
    refine (ref_size8 HI.out 2000 x 0 _ HS2.out hx HD.out (by omega) (by omega)).mono ?_
    rintro e4 w4 ⟨rfl, hb4⟩
    have HS4 := Lib.hid (HS2.out.below hb4)
    have HN4 := Lib.hid ((hb4.block _ hsz2).trans HN2.out)
    have HB4 := Lib.hid (HB2.out.trans (hb4.mono HB2.out.size))
    have hsz4 : w.heap.size < w4.heap.size := by have := hb4.size; omega
    clear hb4 HS2 HN2 HB2 hsz2
    obtain ⟨z, hz0⟩ : ∃ z, z = sizeR S 2000 x 0 := ⟨_, rfl⟩
    have he := HE.out
    rw [HD.out, if_neg (by simp), ← hz0] at he
    rw [← hz0] at hsl ⊢
    clear hz0 HE
    by_cases hzl : 20000 < z
    · have b1 : decide ((20000 : Int) < (z : Int)) = true := by simp; omega
      have e3 : getE S x = 3 := by rw [he, if_pos hzl]
      have t3 : getT S x = zeroTm := by rw [HT.out, e3]; rfl
      have E3 := Lib.hid e3
      have T3 := Lib.hid t3
      clear he e3 t3
      go_wp2_with (with_reducible show wpList _ _ _ (⟨none, .store _ (.tmp 4) _, _, _, _, _⟩ :: _) _ _
                   refine wpList_store_row rfl 33 (.tmp 4) (.tmp 19) rfl w.heap.size #[.int .i64 0, .int .i64 0, .string ⟨#[]⟩, .slice none 0 0] rfl rfl _ _ HN4.out size_term rfl (one4 _ _ _ _ _ _) ?_)
      have hz := setRow_heap _ w.heap.size _ #[.int .i64 0, .int .i64 0, .string ⟨#[]⟩, .slice none 0 0] _ _ HN4.out
      refine bodyPost_ret (v := .tuple #[.agg #[.int .i64 0, .int .i64 0, .string ⟨#[]⟩, .slice none 0 0], .int .i64 3]) (Push.results_cell_tmp Try.results41 _ _ w.heap.size _ _ _ _ _ rfl (by simp) hz Try.underlying33 rfl (by kernel_rfl)) rfl ⟨_, by rw [E3.out], ?_, below_setRow HB4.out (Nat.le_refl _) _⟩
      rw [T3.out]
      exact ⟨none, 0, rfl, by unfold zeroTm; unfold ArgsFrom; trivial⟩
    · have b1 : decide ((20000 : Int) < (z : Int)) = false := by simp; omega
      have e3 : getE S x = 0 := by rw [he, if_neg hzl]
      have t3 : getT S x = treeR S 2000 x := by rw [HT.out, e3]; rfl
      have E3 := Lib.hid e3
      have T3 := Lib.hid t3
      clear he e3 t3
      go_wp2_with fail
      refine (ref_tree HI.out 2000 x _ HS4.out hx HD.out).mono ?_
      rintro e5 w5 ⟨v5, rfl, hi5, hb5⟩
      rw [← T3.out] at hi5
      have HN5 := Lib.hid ((hb5.block _ hsz4).trans HN4.out)
      have HB5 := Lib.hid (HB4.out.trans (hb5.mono HB4.out.size))
      obtain ⟨a, c, e5⟩ := hi5.form
      obtain ⟨t, ht⟩ : ∃ t, t = getT S x := ⟨_, rfl⟩
      rw [← ht] at e5 hi5
      subst e5
      have HI5 := Lib.hid hi5
      have HTT := Lib.hid ht
      clear hi5 hb5 HS4 HN4 HB4 ht HT T3
      go_wp2_with (with_reducible show wpList _ _ _ (⟨none, .store _ (.tmp 4) _, _, _, _, _⟩ :: _) _ _
                   refine wpList_store_row rfl 33 (.tmp 4) (.tmp 22) rfl w.heap.size #[.int .i64 t.k, .int .i64 t.n, .string t.s, .slice a t.args.length c] rfl rfl _ _ HN5.out size_term rfl (one4 _ _ _ _ _ _) ?_)
      have hz := setRow_heap _ w.heap.size _ #[.int .i64 t.k, .int .i64 t.n, .string t.s, .slice a t.args.length c] _ _ HN5.out
      refine bodyPost_ret (v := .tuple #[.agg #[.int .i64 t.k, .int .i64 t.n, .string t.s, .slice a t.args.length c], .int .i64 0]) (Push.results_cell_tmp Try.results41 _ _ w.heap.size _ _ _ _ _ rfl (by simp) hz Try.underlying33 rfl (by kernel_rfl)) rfl ⟨_, by rw [E3.out], ?_, below_setRow HB5.out (Nat.le_refl _) _⟩
      rw [← HTT.out]
      refine IsTm.imp (P' := fun b => w.heap.size ≤ b) HI5.out (fun b hb => ?_) (fun b hb _ => setRow_other _ _ _ _ ?_)
      · have hb' : w4.heap.size ≤ b := hb
        show w.heap.size ≤ b
        omega
      · have hb' : w4.heap.size ≤ b := hb
        omega
end Go.Proofs.Ytoklbeogmcdgaaa.Tms
namespace Go.Proofs.Ytoklbeogmcdgaaa.Tms
open Go Go.RowKit Go.Proofs.Ytoklbeogmcdgaaa.Reg Go.Proofs.Ytoklbeogmcdgaaa.Rws Go.Proofs.Ytoklbeogmcdgaaa.Maps
set_option linter.unusedVariables false
set_option linter.unusedSimpArgs false

def lkv (l : List SCell) (x : Int) : Int := match l[x.toNat]? with
  | none => -1
  | some c => c.lk
def Topped : Int → List SCell → Prop
  | _, [] => True
  | T, c :: l => c.top = maxA T c.args ∧ Topped c.top l
def BTop (f : Int → Int) : Int → List (Int × Int) → Prop
  | _, [] => True
  | T, b :: l => b.2 = max (max b.1 (f b.1)) T ∧ BTop f b.2 l
def endT (T : Int) (l : List SCell) : Int := match l.getLast? with
  | none => T
  | some c => c.top
def endB (T : Int) (l : List (Int × Int)) : Int := match l.getLast? with
  | none => T
  | some b => b.2
theorem endT_cons (T : Int) (c : SCell) (l : List SCell) : endT T (c :: l) = endT c.top l := by
  unfold endT
  cases l with
  | nil => rfl
  | cons d l => rw [List.getLast?_cons_cons, List.getLast?_eq_some_getLast (by simp)]
theorem endB_cons (T : Int) (c : Int × Int) (l : List (Int × Int)) : endB T (c :: l) = endB c.2 l := by
  unfold endB
  cases l with
  | nil => rfl
  | cons d l => rw [List.getLast?_cons_cons, List.getLast?_eq_some_getLast (by simp)]
theorem Topped.app : ∀ {l : List SCell} {m : List SCell} {T : Int}, Topped T (l ++ m) ↔ Topped T l ∧ Topped (endT T l) m
  | [], m, T => by simp [Topped, endT]
  | c :: l, m, T => by
    rw [List.cons_append]
    simp only [Topped]
    rw [Topped.app (l := l), endT_cons, and_assoc]
theorem BTop.app {f : Int → Int} : ∀ {l : List (Int × Int)} {m : List (Int × Int)} {T : Int}, BTop f T (l ++ m) ↔ BTop f T l ∧ BTop f (endB T l) m
  | [], m, T => by simp [BTop, endB]
  | c :: l, m, T => by
    rw [List.cons_append]
    simp only [BTop]
    rw [BTop.app (l := l), endB_cons, and_assoc]
theorem Topped.fix : ∀ (l : List SCell) (T : Int), Topped T (fixTop T l)
  | [], T => trivial
  | c :: l, T => ⟨rfl, Topped.fix l _⟩
theorem Topped.congr : ∀ {l m : List SCell} {T : Int}, l.map (fun c => (c.args, c.top)) = m.map (fun c => (c.args, c.top)) → Topped T l → Topped T m
  | [], [], T, _, h => h
  | [], _ :: _, _, e, _ => by simp at e
  | _ :: _, [], _, e, _ => by simp at e
  | c :: l, d :: m, T, e, h => by
    simp only [List.map_cons, List.cons.injEq, Prod.mk.injEq] at e
    refine ⟨by rw [← e.1.2, ← e.1.1]; exact h.1, ?_⟩
    rw [← e.1.2]
    exact Topped.congr e.2 h.2
theorem BTop.congr {f g : Int → Int} : ∀ {l : List (Int × Int)} {T : Int}, (∀ b ∈ l, f b.1 = g b.1) → BTop f T l → BTop g T l
  | [], T, _, h => h
  | c :: l, T, e, h => ⟨by rw [← e c (by simp)]; exact h.1, BTop.congr (fun b hb => e b (by simp [hb])) h.2⟩
theorem map_setlk {l : List SCell} {v : Nat} (hv : v < l.length) (x : Int) : (l.set v { l[v] with lk := x }).map (fun c => (c.args, c.top)) = l.map (fun c => (c.args, c.top)) := by
  rw [List.map_set]
  have : (l.map fun c => (c.args, c.top))[v]'(by simpa using hv) = (l[v].args, l[v].top) := by simp
  rw [← this, List.set_getElem_self]
/-- what the tops say -/
structure Tops (S : Sto) : Prop where
  cells : Topped (-1) S.cells
  bonds : BTop (lkv S.cells) (-1) S.bonds
  all : ∀ (x : Nat) (c : SCell), S.cells[x]? = some c → 0 ≤ c.lk → ∃ b ∈ S.bonds, b.1 = (x : Int)
theorem lkv_at {l : List SCell} {x : Nat} {c : SCell} (h : l[x]? = some c) : lkv l x = c.lk := by
  unfold lkv
  rw [Int.toNat_natCast, h]
theorem Tops.new (n : Int) : Tops ⟨n, [], []⟩ := ⟨trivial, trivial, fun x c h => by simp at h⟩
theorem Tops.plus {S : Sto} (h : Tops S) (hI : Inv S) {l : List SCell} (hT : Topped (lastTop S.cells) l) (hl : ∀ c ∈ l, c.lk = -1) : Tops (plusS S l) := by
  refine ⟨Topped.app.2 ⟨h.cells, hT⟩, h.bonds.congr fun b hb => ?_, fun x c hc h0 => ?_⟩
  · obtain ⟨v, c, e, hc, -⟩ := hI.bond b hb
    rw [e, lkv_at hc]
    refine (lkv_at (c := c) ?_).symm
    show (S.cells ++ l)[v]? = some c
    rw [List.getElem?_append_left (List.getElem?_eq_some_iff.1 hc).1]
    exact hc
  · have hc : (S.cells ++ l)[x]? = some c := hc
    by_cases hx : x < S.cells.length
    · rw [List.getElem?_append_left hx] at hc
      exact h.all x c hc h0
    · rw [List.getElem?_append_right (by omega)] at hc
      have := hl c (List.mem_of_getElem? hc)
      omega
theorem Tops.fresh {S : Sto} (h : Tops S) (hI : Inv S) : Tops (freshS S) :=
  h.plus hI (l := [⟨1, 0, ⟨#[]⟩, [], -1, lastTop S.cells⟩]) ⟨rfl, trivial⟩ (by simp)
theorem Tops.putW {S : Sto} (h : Tops S) (hI : Inv S) (M : List (Int × Int)) (t : Tm) : Tops (Tms.putW S M t) := by
  unfold Tms.putW
  split
  · exact h
  · split
    · exact h
    · split
      · exact h
      · rename_i h1 h2 h3
        have h2' : (cntM S M t).1 = true := by simpa using h2
        have hp : MayPut S M t := ⟨by simpa using h1, h2', by unfold cntM at h3; omega⟩
        refine h.plus hI (Topped.fix _ _) fun c hc => ?_
        obtain ⟨d, hd, he⟩ := fixTop_mem hc
        have := hp.ok.2.1 d hd
        rw [he.2.2.2.2]
        exact this.2
theorem setTo_get {S : Sto} {v : Nat} {x : Int} (hv : v < S.cells.length) {y : Nat} {c : SCell} (h : (setTo S v x)[y]? = some c) : (y ≠ v ∧ S.cells[y]? = some c) ∨ (y = v ∧ c = { S.cells[v] with lk := x }) := by
  rw [setTo_at hv, List.getElem?_set] at h
  by_cases e : v = y
  · subst e; rw [if_pos rfl, if_pos hv] at h; exact .inr ⟨rfl, (Option.some.inj h).symm⟩
  · rw [if_neg e] at h; exact .inl ⟨fun h => e h.symm, h⟩
theorem setTo_other {S : Sto} {v : Nat} {x : Int} (hv : v < S.cells.length) {y : Nat} (h : y ≠ v) : (setTo S v x)[y]? = S.cells[y]? := by
  rw [setTo_at hv, List.getElem?_set, if_neg (fun e => h e.symm)]
theorem setTo_same {S : Sto} {v : Nat} {x : Int} (hv : v < S.cells.length) : (setTo S v x)[v]? = some { S.cells[v] with lk := x } := by
  rw [setTo_at hv, List.getElem?_set, if_pos rfl, if_pos hv]
theorem Tops.bind {S : Sto} (h : Tops S) (hI : Inv S) {v t : Nat} (hv : v < S.cells.length) (hvl : (S.cells[v]).lk = -1) : Tops (bindS S v t) := by
  have hne : ∀ b ∈ S.bonds, b.1 ≠ (v : Int) := fun b hb e => by
    obtain ⟨u, c, e1, hcu, h0⟩ := hI.bond b hb
    have : u = v := by omega
    subst this
    rw [List.getElem?_eq_getElem hv] at hcu
    rw [← Option.some.inj hcu, hvl] at h0
    omega
  have hlv : lkv (setTo S v t) v = (t : Int) := lkv_at (setTo_same hv)
  refine ⟨h.cells.congr ?_, BTop.app.2 ⟨h.bonds.congr fun b hb => ?_, ?_, trivial⟩, fun x c hc h0 => ?_⟩
  · show _ = (setTo S v t).map _
    rw [setTo_at hv, map_setlk hv]
  · obtain ⟨u, c, e1, hcu, h0⟩ := hI.bond b hb
    have hu : u ≠ v := fun e => hne b hb (by rw [e1, e])
    rw [e1, lkv_at hcu]
    exact (lkv_at (c := c) ((setTo_other hv hu).trans hcu)).symm
  · show topB S.bonds (max v t) = max (max (v : Int) (lkv (setTo S v t) v)) (endB (-1) S.bonds)
    rw [hlv]
    unfold topB endB
    cases S.bonds.getLast? with
    | none => simp only; omega
    | some b => simp only
  · rcases setTo_get hv hc with ⟨-, h1⟩ | ⟨rfl, rfl⟩
    · obtain ⟨b, hb, e⟩ := h.all x c h1 h0
      exact ⟨b, List.mem_append.2 (.inl hb), e⟩
    · exact ⟨((x : Int), topB S.bonds (max x t)), List.mem_append.2 (.inr (by simp)), rfl⟩
theorem Tops.bindW {S : Sto} (h : Tops S) (hI : Inv S) (x y : Int) : Tops (Tms.bindW S x y) := by
  unfold Tms.bindW
  by_cases hn : ¬ (0 ≤ x ∧ x < S.cells.length) ∨ ¬ (0 ≤ y ∧ y < S.cells.length)
  · rw [if_pos hn]; exact h
  · rw [if_neg hn]
    have hx : x.toNat < S.cells.length := by omega
    split
    · exact h.bind hI (hI.fol_lt hx) (hI.fol_free hx)
    · exact h
end Go.Proofs.Ytoklbeogmcdgaaa.Tms
namespace Go.Proofs.Ytoklbeogmcdgaaa.Tms
open Go Go.RowKit Go.Proofs.Ytoklbeogmcdgaaa.Reg Go.Proofs.Ytoklbeogmcdgaaa.Rws Go.Proofs.Ytoklbeogmcdgaaa.Maps
set_option linter.unusedVariables false
set_option linter.unusedSimpArgs false

theorem Each.take {α : Type} {K : Rws.Kind α} {w : World} {P : Nat → Prop} : ∀ (k : Nat) {xss : List (List Value)} {l : List α}, Each K w P xss l → Each K w P (xss.take k) (l.take k)
  | 0, _, _, _ => trivial
  | k + 1, [], [], _ => trivial
  | k + 1, [], _ :: _, h => h.elim
  | k + 1, _ :: _, [], h => h.elim
  | k + 1, _ :: _, _ :: _, h => ⟨h.1, Each.take k h.2⟩
end Go.Proofs.Ytoklbeogmcdgaaa.Tms
