
/-
  Layer 19's reference: pattern, walked over the program.
-/
import Derived.Test.YtibjcfbilkkmkaaRtm
import Derived.Test.YtibjcfbilkkmkaaRvr
import Derived.Test.YtibjcfbilkkmkaaCpl
import Derived.Test.YtibjcfbilkkmkaaGfl
namespace Go.Proofs.Ytibjcfbilkkmkaa.Tms
open Go Go.RowKit Go.Proofs.Ytibjcfbilkkmkaa.Reg Go.Proofs.Ytibjcfbilkkmkaa.Rws Go.Proofs.Ytibjcfbilkkmkaa.Cod
set_option linter.unusedVariables false
set_option linter.unusedSimpArgs false

/-- an instruction of the reference's in four cells -/
def rinKind : Rws.Kind Ins where
  T := 54
  sz := 4
  R := fun w P cs i => cs = [.int .i64 i.op, .int .i64 i.a, .int .i64 i.n, .string i.s]
  pos := by decide
  len := by rintro w P cs a rfl; rfl
  one := by
    rintro w P cs a rfl v hv
    simp only [List.mem_cons, List.not_mem_nil, or_false] at hv
    rcases hv with rfl | rfl | rfl | rfl <;> rfl
  mono := by rintro w w' P P' cs a hP hw rfl; rfl
  lt := by rintro w P cs a rfl; rfl
theorem info_rin : (Try.prog.info? 54).map (fun i => (i.zero, i.size, i.bytes)) = some (some (.agg #[.int .i64 0, .int .i64 0, .int .i64 0, .string ⟨#[]⟩]), 4, 40) := by kernel_rfl
def oneA (all : Tm) (n : Int) : Bool := (timesT n all : Int) == 1
mutual
theorem patS_len (one : Int → Bool) : ∀ (t : Tm) (S : List Int), (patT one S t).2.length ≤ S.length + t.size
  | .mk k n s a, S => by
    have := patSL_len one a S
    unfold patT
    simp only [Tm.size]
    split
    · split
      · simp
      · cases place S n <;> simp <;> omega
    · split
      · simp
      · split
        · simp
        · simp; omega
theorem patSL_len (one : Int → Bool) : ∀ (l : List Tm) (S : List Int), (patL one S l).2.length ≤ S.length + sizeL l
  | [], S => by simp [patL, sizeL]
  | t :: l, S => by
    have h1 := patS_len one t S
    have h2 := patSL_len one l (patT one S t).2
    simp only [patL, sizeL]
    omega
end
theorem pat_pos (one : Int → Bool) (t : Tm) (S : List Int) : 0 < (patT one S t).1.length := by
  obtain ⟨k, n, s, a⟩ := t
  unfold patT
  split
  · split
    · simp
    · cases place S n <;> simp
  · split
    · simp
    · split <;> simp
/-- one instruction in a row of its own -/
theorem rin_one (w : World) (B : Nat) (hB : B ≤ w.heap.size) (i : Ins) : Own rinKind (w.alloc (.cells #[.int .i64 i.op, .int .i64 i.a, .int .i64 i.n, .string i.s] 54 (0, 0))) B (fun _ => False) (.slice (some ⟨w.heap.size, 0, none⟩) 1 1) [i] :=
  ⟨[[.int .i64 i.op, .int .i64 i.a, .int .i64 i.n, .string i.s]], World.ownsRow_lit w _ 1 hB (by decide) rfl, rfl, trivial⟩
def RpPost (B : Nat) (vs : Value) (r : List Ins × List Int) (w : World) (e : Ending) (w' : World) : Prop :=
  ∃ vl vs', e = .returned (.tuple #[vl, vs']) ∧ Own rinKind w' w.heap.size (fun _ => False) vl r.1 ∧ Own intKind w' B (fun _ => False) vs' r.2 ∧ Keeps w w' (fun b => vs.ownBlock = some b) ∧
    (∀ k, vs'.ownBlock = some k → vs.ownBlock = some k ∨ w.heap.size ≤ k) ∧ ∀ k, vl.ownBlock = some k → vs'.ownBlock ≠ some k
theorem rp_one {w w3 : World} {B : Nat} {vs : Value} {S : List Int} {i : Ins} (hs : Own intKind w B (fun _ => False) vs S) (hb : Below w.heap.size w w3) (hB : B ≤ w.heap.size) :
    RpPost B vs ([i], S) w (.returned (.tuple #[.slice (some ⟨w3.heap.size, 0, none⟩) 1 1, vs])) (w3.alloc (.cells #[.int .i64 i.op, .int .i64 i.a, .int .i64 i.n, .string i.s] 54 (0, 0))) := by
  have hb4 := hb.trans ((below_new w3 (.cells #[.int .i64 i.op, .int .i64 i.a, .int .i64 i.n, .string i.s] 54 (0, 0))).mono hb.size)
  refine ⟨_, _, rfl, rin_one w3 w.heap.size hb.size i, hs.below hb4, Keeps.of hb4, fun k e => .inl e, fun k e e' => ?_⟩
  have e : some w3.heap.size = some k := e
  have := hs.low k e'
  have := Option.some.inj e
  have := hb.size
  omega
theorem rp_first {w w5 w9 : World} {B : Nat} {vs v3 : Value} {S : List Int} {i : Ins} {n : Int} (hs : Own intKind w B (fun _ => False) vs S) (hb : Below w.heap.size w w5) (hB : B ≤ w.heap.size) (hown : Own intKind w9 B (fun _ => False) v3 (S ++ [n]))
    (hg : ((w5.alloc (.cells #[.int .i64 i.op, .int .i64 i.a, .int .i64 i.n, .string i.s] 54 (0, 0))).alloc (.cells #[.int .i64 n] 2 (0, 0))).grownBy w9 vs.ownBlock)
    (hv : ∀ k, v3.ownBlock = some k → vs.ownBlock = some k ∨ ((w5.alloc (.cells #[.int .i64 i.op, .int .i64 i.a, .int .i64 i.n, .string i.s] 54 (0, 0))).alloc (.cells #[.int .i64 n] 2 (0, 0))).heap.size ≤ k) :
    RpPost B vs ([i], S ++ [n]) w (.returned (.tuple #[.slice (some ⟨w5.heap.size, 0, none⟩) 1 1, v3])) w9 := by
  have hb4 := hb.trans ((below_new w5 (.cells #[.int .i64 i.op, .int .i64 i.a, .int .i64 i.n, .string i.s] 54 (0, 0))).mono hb.size)
  have h1 := rin_one w5 w.heap.size hb.size i
  have hz4 : (w5.alloc (.cells #[.int .i64 i.op, .int .i64 i.a, .int .i64 i.n, .string i.s] 54 (0, 0))).heap.size = w5.heap.size + 1 := by simp
  generalize w5.alloc (.cells #[.int .i64 i.op, .int .i64 i.a, .int .i64 i.n, .string i.s] 54 (0, 0)) = w6 at *
  have hb5 := below_new w6 (.cells #[.int .i64 n] 2 (0, 0))
  have hz5 : (w6.alloc (.cells #[.int .i64 n] 2 (0, 0))).heap.size = w6.heap.size + 1 := by simp
  generalize w6.alloc (.cells #[.int .i64 n] 2 (0, 0)) = w7 at *
  have h2 := h1.below hb5
  have hsz := hb.size
  have hlow := fun k e => hs.low k e
  refine ⟨_, _, rfl, h2.keep hg.size fun b hlt hq => hg.block b hlt fun e => ?_, hown, ?_, fun k e => ?_, fun k e e' => ?_⟩
  · rcases hq with hq | hq
    · exact hq
    · have hq : some w5.heap.size = some b := hq
      have := Option.some.inj hq
      have := (hlow b e.symm).2
      omega
  · exact (Keeps.of (hb4.trans (hb5.mono (by omega)))).trans (Keeps.grown hg (M := fun b => vs.ownBlock = some b) fun b e => .inl e) fun b e => .inl e
  · rcases hv k e with h | h
    · exact .inl h
    · exact .inr (by omega)
  · have e : some w5.heap.size = some k := e
    have := Option.some.inj e
    rcases hv k e' with h | h
    · have := (hlow k h).2; omega
    · omega
/-- behind q arguments -/
structure RpRow (all : Tm) (a2 : Option Addr) (d2 : Nat) (i : Ins) (S : List Int) (ts : List Tm) (B q : Nat) (vs : Value) (w : World) (vslots vl : Value) (wr : World) : Prop where
  le : q ≤ ts.length
  own : Own rinKind wr (w.heap.size + 2) (fun _ => False) vl (i :: (patL (oneA all) S (ts.take q)).1)
  slots : Own intKind wr B (fun _ => False) vslots (patL (oneA all) S (ts.take q)).2
  keeps : Keeps w wr (fun b => vs.ownBlock = some b)
  new : ∀ k, vslots.ownBlock = some k → vs.ownBlock = some k ∨ w.heap.size + 2 ≤ k
  ne : ∀ k, vl.ownBlock = some k → vslots.ownBlock ≠ some k
  big : w.heap.size + 2 ≤ wr.heap.size
  box : wr.heap[w.heap.size + 1]? = some (rowT all a2 d2)
def RpRel (all : Tm) (a2 : Option Addr) (d2 : Nat) (i : Ins) (S : List Int) (ts : List Tm) (B : Nat) (vs : Value) (w : World) (vslots vl vi : Value) (wr : World) : Prop :=
  ∃ q : Nat, vi = .int .i64 q ∧ RpRow all a2 d2 i S ts B q vs w vslots vl wr
theorem own_base {α : Type} {K : Rws.Kind α} {w : World} {base base' : Nat} {P : Nat → Prop} {v : Value} {l : List α} (h : Own K w base P v l) (hb : base' ≤ base) : Own K w base' P v l := by
  obtain ⟨xss, ⟨h1, h2⟩, h3⟩ := h
  refine ⟨xss, ⟨h1, ?_⟩, h3⟩
  rcases h2 with h2 | ⟨g, cap, cur, e, h4, rest⟩
  · exact .inl h2
  · exact .inr ⟨g, cap, cur, e, by omega, rest⟩
theorem own_slice {α : Type} {K : Rws.Kind α} {w : World} {base : Nat} {P : Nat → Prop} {v : Value} {l : List α} (h : Own K w base P v l) : ∃ q c, v = .slice q l.length c := by
  rcases h.form with ⟨rfl, e⟩ | ⟨g, c, rfl⟩
  · exact ⟨none, 0, by rw [e]; rfl⟩
  · exact ⟨_, c, rfl⟩

set_option maxRecDepth 100000 in
set_option maxHeartbeats 8000000 in
theorem ref_pattern (all : Tm) (hA : all.size ≤ 1000000) (N : Nat) : ∀ (t : Tm) (v va vs : Value) (P P2 : Nat → Prop) (B : Nat) (S : List Int) (w : World), t.size ≤ N → t.size + S.length ≤ 1000000 → IsTm w P v t → IsTm w P2 va all → (∀ b, P b → b < B) → (∀ b, P2 b → b < B) → B ≤ w.heap.size →
    Own intKind w B (fun _ => False) vs S → Calls Try.prog 34 #[v, va, vs] w (RpPost B vs (patT (oneA all) S t) w) := by
  induction N with
  | zero => intro t v va vs P P2 B S w hN; have := size_pos t; omega
  | succ N ih =>
    intro t v va vs P P2 B S w hN hM h1 h2 hP hP2 hB hs
    have IH := Lib.hid ih
    obtain ⟨a1, d1, rfl⟩ := h1.form
    obtain ⟨a2, d2, rfl⟩ := h2.form
    obtain ⟨qs, cs, rfl⟩ := own_slice hs
    obtain ⟨t0, t1, tsz, tbl⟩ := two w (rowT t a1 d1) (rowT all a2 d2)
    obtain ⟨x0, x1, x2, x3⟩ := row4 t0
    obtain ⟨y0, y1, y2, y3⟩ := row4 t1
    have H1 := Lib.hid h1
    have H2 := Lib.hid h2
    have HP := Lib.hid hP
    have HP2 := Lib.hid hP2
    have HS := Lib.hid hs
    have HT0 := Lib.hid t0
    have HT1 := Lib.hid t1
    have HTB := Lib.hid tbl
    have HTS := Lib.hid tsz
    have hsl : S.length ≤ 1000000 := by omega
    simp only [rowT] at x0 x1 x2 x3 y0 y1 y2 y3 HT0 HT1 HTB HTS
    clear ih h1 h2 hP hP2 hs t0 t1 tbl tsz
    by_cases k1 : t.k = 1
    · have b1 : (t.k == 1) = true := by simp [k1]
      have hr := patT_var (one := oneA all) (S := S) k1
      rw [hr]
      clear hr k1
      cases ho : oneA all t.n with
      | true =>
        have hv : varP (oneA all) S t.n = ([⟨1, 0, 0, ⟨#[]⟩⟩], S) := by simp [varP, ho]
        have hb : ((timesT t.n all : Int) == 1) = true := ho
        have HV := Lib.hid hv
        clear hv ho
        go_enter Try.func34, Try.ntmps34
        go_wp2_with fail
        refine (ref_times t.n all.size all _ _ _ (Nat.le_refl _) (by omega) (H2.out.below HTB.out)).mono ?_
        rintro e3 w3 ⟨rfl, hb3⟩
        have HB3 := Lib.hid (HTB.out.trans (hb3.mono HTB.out.size))
        have hz3 : w.heap.size + 2 ≤ w3.heap.size := by have := hb3.size; have := HTS.out; omega
        clear x0 x1 x2 x3 y0 y1 y2 y3 hb3
        go_wp2
        have hpost := rp_one (S := S) (i := ⟨1, 0, 0, ⟨#[]⟩⟩) HS.out HB3.out hB
        exact bodyPost_ret (v := .tuple #[.slice (some ⟨w3.heap.size, 0, none⟩) 1 1, .slice qs S.length cs]) (by simp [results, Try.results34, go_sem]) rfl (by rw [HV.out]; exact hpost)
      | false =>
        have hb : ((timesT t.n all : Int) == 1) = false := ho
        cases hp : place S t.n with
        | some p =>
          have hv : varP (oneA all) S t.n = ([⟨3, (p : Nat), 0, ⟨#[]⟩⟩], S) := by simp [varP, ho, hp]
          have hpl : placeI S t.n = p := by simp [placeI, hp]
          have hge : (0 : Int) ≤ placeI S t.n := by rw [hpl]; omega
          have HV := Lib.hid hv
          have HPL := Lib.hid hpl
          clear hv ho hp hpl
          go_enter Try.func34, Try.ntmps34
          go_wp2_with fail
          refine (ref_times t.n all.size all _ _ _ (Nat.le_refl _) (by omega) (H2.out.below HTB.out)).mono ?_
          rintro e3 w3 ⟨rfl, hb3⟩
          have HB3 := Lib.hid (HTB.out.trans (hb3.mono HTB.out.size))
          have hx0 := (hb3.block w.heap.size (by have := HTS.out; omega)).trans HT0.out
          clear x0 x1 x2 x3 y0 y1 y2 y3 hb3
          obtain ⟨x0, x1, x2, x3⟩ := row4 hx0
          clear hx0
          go_wp2_with fail
          refine (ref_place S t.n _ _ _ (own_ints (HS.out.below HB3.out))).mono ?_
          rintro e4 w4 ⟨rfl, rfl⟩
          rw [HPL.out] at hge ⊢
          go_wp2
          have hpost := rp_one (S := S) (i := ⟨3, (p : Nat), 0, ⟨#[]⟩⟩) HS.out HB3.out hB
          exact bodyPost_ret (v := .tuple #[.slice (some ⟨w3.heap.size, 0, none⟩) 1 1, .slice qs S.length cs]) (by simp [results, Try.results34, go_sem]) rfl (by rw [HV.out]; exact hpost)
        | none =>
          have hv : varP (oneA all) S t.n = ([⟨2, S.length, 0, ⟨#[]⟩⟩], S ++ [t.n]) := by simp [varP, ho, hp]
          have hpl : placeI S t.n = -1 := by simp [placeI, hp]
          have HV := Lib.hid hv
          have HPL := Lib.hid hpl
          clear hv ho hp hpl
          go_enter Try.func34, Try.ntmps34
          go_wp2_with fail
          refine (ref_times t.n all.size all _ _ _ (Nat.le_refl _) (by omega) (H2.out.below HTB.out)).mono ?_
          rintro e3 w3 ⟨rfl, hb3⟩
          have HB3 := Lib.hid (HTB.out.trans (hb3.mono HTB.out.size))
          have hx0 := (hb3.block w.heap.size (by have := HTS.out; omega)).trans HT0.out
          clear x0 x1 x2 x3 y0 y1 y2 y3 hb3
          obtain ⟨x0, x1, x2, x3⟩ := row4 hx0
          have HX0 := Lib.hid hx0
          have hlw : w.heap.size < w3.heap.size := (Array.getElem?_eq_some_iff.1 hx0).1
          clear hx0
          go_wp2_with fail
          refine (ref_place S t.n _ _ _ (own_ints (HS.out.below HB3.out))).mono ?_
          rintro e4 w4 ⟨rfl, rfl⟩
          rw [HPL.out]
          have hbI := below_new w3 (.cells #[.int .i64 2, .int .i64 S.length, .int .i64 0, .string ⟨#[]⟩] 54 (0, 0))
          obtain ⟨z0, z1, z2, z3⟩ := row4 ((hbI.block w.heap.size hlw).trans HX0.out)
          have HBI := Lib.hid hbI
          clear hbI
          go_wp2_with (with_reducible show wpList _ _ _ (⟨some 44, _, _, _, _, _⟩ :: _) _ _
                       have hbA := HBI.out.alloc HBI.out.size (.cells #[.int .i64 t.n] 2 (0, 0))
                       have hrow := heap_alloc2_new w3 (.cells #[.int .i64 2, .int .i64 S.length, .int .i64 0, .string ⟨#[]⟩] 54 (0, 0)) (.cells #[.int .i64 t.n] 2 (0, 0))
                       have hsA := hbA.size
                       refine wpList_put (K := intKind) rfl (.tmp 40) (.tmp 43) _ rfl Try.underlying79 info_int64 rfl B (fun _ => False) _ S [.int .i64 t.n] t.n (w3.heap.size + 1) _ _ _ rfl ((HS.out.below HB3.out).below hbA) rfl hrow rfl (by unfold maxLen; omega) (by omega) (by omega) ?_
                       intro v9 w9 hown9 hb9 hg9 hv9
                       have hpost := rp_first (i := ⟨2, S.length, 0, ⟨#[]⟩⟩) HS.out HB3.out hB hown9 hg9 hv9
                       have HPO := Lib.hid hpost
                       clear hpost hown9 hb9 hg9 hv9 hbA hrow hsA)
          exact bodyPost_ret (v := .tuple #[.slice (some ⟨w3.heap.size, 0, none⟩) 1 1, v9]) (by simp [results, Try.results34, go_sem]) rfl (by rw [HV.out]; exact HPO.out)
    have b1 : (t.k == 1) = false := by simpa using k1
    by_cases k2 : t.k = 2
    · have b2 : (t.k == 2) = true := by simp [k2]
      have hr := patT_int (one := oneA all) (S := S) k2
      have HR := Lib.hid hr
      clear hr k1 k2
      go_enter Try.func34, Try.ntmps34
      go_wp2
      have hpost := rp_one (S := S) (i := ⟨4, 0, t.n, ⟨#[]⟩⟩) HS.out HTB.out hB
      rw [HTS.out] at hpost
      exact bodyPost_ret (v := .tuple #[.slice (some ⟨w.heap.size + 2, 0, none⟩) 1 1, .slice qs S.length cs]) (by simp [results, Try.results34, go_sem]) rfl (by rw [HR.out]; exact hpost)
    have b2 : (t.k == 2) = false := by simpa using k2
    by_cases k3 : t.k = 3
    · have b3 : (t.k == 3) = true := by simp [k3]
      have hr := patT_atom (one := oneA all) (S := S) k3
      have HR := Lib.hid hr
      clear hr k1 k2 k3
      go_enter Try.func34, Try.ntmps34
      go_wp2
      have hpost := rp_one (S := S) (i := ⟨5, 0, 0, t.s⟩) HS.out HTB.out hB
      rw [HTS.out] at hpost
      exact bodyPost_ret (v := .tuple #[.slice (some ⟨w.heap.size + 2, 0, none⟩) 1 1, .slice qs S.length cs]) (by simp [results, Try.results34, go_sem]) rfl (by rw [HR.out]; exact hpost)
    have b3 : (t.k == 3) = false := by simpa using k3
    have hr : patT (oneA all) S t = (⟨6, t.args.length, 0, t.s⟩ :: (patL (oneA all) S t.args).1, (patL (oneA all) S t.args).2) := by
      obtain ⟨k, n, s, a⟩ := t
      simp only [Tm.k] at k1 k2 k3
      simp [patT, Tm.s, Tm.args, k1, k2, k3]
    have HR := Lib.hid hr
    have HSZ : Hid (t.size = sizeL t.args + 1) := Lib.hid (by obtain ⟨k, n, s, ar⟩ := t; simp [Tm.size, Tm.args])
    have hlen : t.args.length ≤ 1000000 := by have := len_le t.args; have := HSZ.out; omega
    clear hr k1 k2 k3
    have hown0 := rin_one ((w.alloc (rowT t a1 d1)).alloc (rowT all a2 d2)) (w.heap.size + 2) (by have := HTS.out; simp) ⟨6, t.args.length, 0, t.s⟩
    have hb0 := below_new ((w.alloc (rowT t a1 d1)).alloc (rowT all a2 d2)) (.cells #[.int .i64 6, .int .i64 t.args.length, .int .i64 0, .string t.s] 54 (0, 0))
    have hz0 : (((w.alloc (rowT t a1 d1)).alloc (rowT all a2 d2)).alloc (.cells #[.int .i64 6, .int .i64 t.args.length, .int .i64 0, .string t.s] 54 (0, 0))).heap.size = w.heap.size + 3 := by simp
    simp only [rowT] at hown0 hb0 hz0
    rw [HTS.out] at hown0
    have hst : RpRel all a2 d2 ⟨6, t.args.length, 0, t.s⟩ S t.args B (.slice qs S.length cs) w (.slice qs S.length cs) (.slice (some ⟨w.heap.size + 2, 0, none⟩) 1 1) (.int .i64 ((0 : Nat) : Int)) (((w.alloc (.cells #[.int .i64 t.k, .int .i64 t.n, .string t.s, .slice a1 t.args.length d1] 30 (0, 0))).alloc (.cells #[.int .i64 all.k, .int .i64 all.n, .string all.s, .slice a2 all.args.length d2] 30 (0, 0))).alloc (.cells #[.int .i64 6, .int .i64 t.args.length, .int .i64 0, .string t.s] 54 (0, 0))) := by
      have hbb := HTB.out.trans (hb0.mono HTB.out.size)
      refine ⟨0, rfl, by omega, by simpa [patL] using hown0, by simpa [patL] using HS.out.below hbb, Keeps.of hbb, fun k e => .inl e, fun k e e' => ?_, by omega, (hb0.block _ (by have := HTS.out; omega)).trans HT1.out⟩
      have e : some (w.heap.size + 2) = some k := e
      have := Option.some.inj e
      have := (HS.out.low k e').2
      omega
    have HST := Lib.hid hst
    have hx0 := (hb0.block w.heap.size (by have := HTS.out; omega)).trans HT0.out
    obtain ⟨u0, u1, u2, u3⟩ := row4 hx0
    clear hown0 hb0 hz0 hst hx0
    go_enter Try.func34, Try.ntmps34
    go_wp2
    clear x0 x1 x2 x3 y0 y1 y2 y3 u0 u1 u2 u3
    generalize (((w.alloc (.cells #[.int .i64 t.k, .int .i64 t.n, .string t.s, .slice a1 t.args.length d1] 30 (0, 0))).alloc (.cells #[.int .i64 all.k, .int .i64 all.n, .string all.s, .slice a2 all.args.length d2] 30 (0, 0))).alloc (.cells #[.int .i64 6, .int .i64 t.args.length, .int .i64 0, .string t.s] 54 (0, 0))) = WS at *
    go_loopw [2, 9, 69] (fun v2 v9 vi wr => RpRel all a2 d2 ⟨6, t.args.length, 0, t.s⟩ S t.args B (.slice qs S.length cs) w v2 v9 vi wr) (fun _ _ vi _ => t.args.length - (intOf vi).toNat)
    case atStart => exact HST.out
    case round =>
      obtain ⟨q, rfl, hr⟩ := hrel
      have HRW := Lib.hid hr
      have hq := hr.le
      obtain ⟨q9, c9, rfl⟩ := own_slice hr.own
      obtain ⟨q2, c2, rfl⟩ := own_slice hr.slots
      clear HST hr
      by_cases hql : q < t.args.length
      · have hnp : ∀ b, b < B → (Value.slice qs S.length cs).ownBlock ≠ some b := fun b hb e => by have := (HS.out.low b e).1; omega
        obtain ⟨g1, o1, rfl, p1, m1⟩ := (H1.out.args.imp (w' := wr) (fun _ h => h) fun b hb hlt => HRW.out.keeps.block b hlt (hnp b (HP.out b hb))).at q hql
        obtain ⟨cx, dx, x10, x11, x12, x13, i1, l1⟩ := m1.read
        have ia := H2.out.imp (w' := wr) (fun _ h => h) fun b hb hlt => HRW.out.keeps.block b hlt (hnp b (HP2.out b hb))
        have h1s := size_mem hql
        have hnx := patL_take (oneA all) S t.args q hql
        have hl1 := patL_len (oneA all) (t.args.take q) S
        have hl2 := patSL_len (oneA all) (t.args.take q) S
        have hl3 := sizeL_take t.args q
        have hl4 : sizeL (t.args.take q) + t.args[q].size ≤ sizeL t.args := by
          have e : t.args.take (q + 1) = t.args.take q ++ [t.args[q]] := List.take_succ_eq_append_getElem hql
          have e2 := sizeL_app (t.args.take q) [t.args[q]]
          rw [← e] at e2
          have := sizeL_take t.args (q + 1)
          simp only [sizeL] at e2
          omega
        have hpp := pat_pos (oneA all) t.args[q] (patL (oneA all) S (t.args.take q)).2
        have hpl := patT_len (oneA all) t.args[q] (patL (oneA all) S (t.args.take q)).2
        have hx1 : t.args[q].size ≤ N := by have := HSZ.out; omega
        have hx2 : t.args[q].size + (patL (oneA all) S (t.args.take q)).2.length ≤ 1000000 := by have := HSZ.out; omega
        have hx3 : (patL (oneA all) S (t.args.take q)).1.length + (patT (oneA all) (patL (oneA all) S (t.args.take q)).2 t.args[q]).1.length ≤ 2000000 := by have := HSZ.out; omega
        have hbx := below_new wr (rowT t.args[q] cx dx)
        have I1 := Lib.hid (i1.below hbx)
        have IA := Lib.hid (ia.below hbx)
        have HBX := Lib.hid hbx
        have HNX := Lib.hid hnx
        have hzx : (wr.alloc (rowT t.args[q] cx dx)).heap.size = wr.heap.size + 1 := by simp
        have HZX := Lib.hid hzx
        have HX1 := Lib.hid hx1
        have HX2 := Lib.hid hx2
        have HX3 := Lib.hid hx3
        have HPP := Lib.hid hpp
        clear m1 i1 ia hnx hl1 hl2 hl3 hl4 hpl h1s hbx hzx hx1 hx2 hx3 hpp hnp
        generalize hR : patL (oneA all) S (t.args.take q) = R at *
        obtain ⟨L1, S1⟩ := R
        have HR1 := Lib.hid hR
        clear hR
        have hown := HRW.out.own
        have hslo := HRW.out.slots
        rw [HR1.out] at hown hslo
        have HOW := Lib.hid hown
        have HSL := Lib.hid hslo
        clear hown hslo
        generalize t.args[q] = x at *
        have hin : (q : Int) < (t.args.length : Int) := by omega
        have hin0 : (0 : Int) ≤ (q : Int) := by omega
        simp only [rowT] at HBX HZX I1 IA
        obtain ⟨y0, y1, y2, y3⟩ := row4 ((HBX.out.block (w.heap.size + 1) (by have := HRW.out.big; omega)).trans HRW.out.box)
        go_wp2_with fail
        refine (IH.out x _ _ _ P P2 B S1 _ HX1.out HX2.out I1.out IA.out HP.out HP2.out (by have := HRW.out.big; have := HZX.out; omega) (HSL.out.below HBX.out)).mono ?_
        rintro e9 w9 ⟨vl, vs', rfl, ho9, hs9, hk9, hn9, hd9⟩
        obtain ⟨ql, cl, rfl⟩ := own_slice ho9
        obtain ⟨qn, cn, rfl⟩ := own_slice hs9
        have hz9 := hk9.size
        have hzx := HZX.out
        have hbig := HRW.out.big
        have hlo9 := fun k e => HOW.out.low k e
        have how9 := (HOW.out.below HBX.out).keep hk9.size fun b hb hq => hk9.block b hb fun e => by
          rcases hq with hq | hq
          · exact hq
          · exact HRW.out.ne b hq e
        obtain ⟨yss, ⟨r1, r2⟩, r3⟩ := ho9
        have hpos : 0 < (patT (oneA all) S1 x).1.length := HPP.out
        obtain ⟨gb, cb, cur, e8, hgb, hgc⟩ : ∃ g cap cur, Value.slice ql (patT (oneA all) S1 x).1.length cl = .slice (some ⟨g, 0, none⟩) (patT (oneA all) S1 x).1.length cap ∧ (wr.alloc (.cells #[.int .i64 x.k, .int .i64 x.n, .string x.s, .slice cx x.args.length dx] 30 (0, 0))).heap.size ≤ g ∧ w9.heap[g]? = some (.cells cur rinKind.T (0, 0)) ∧ (patT (oneA all) S1 x).1.length ≤ cap ∧ cap ≤ maxLen ∧ cur.size = cap * rinKind.sz ∧ cur.toList.take ((patT (oneA all) S1 x).1.length * rinKind.sz) = yss.flatten := by
          rcases r2 with ⟨-, hn⟩ | h
          · omega
          · exact h
        simp only [Value.slice.injEq, true_and] at e8
        obtain ⟨rfl, rfl⟩ := e8
        have hcell := World.ownsRow.cells (g := gb) (⟨r1, .inr ⟨gb, cl, cur, rfl, hgb, hgc⟩⟩ : w9.ownsRow (wr.alloc (.cells #[.int .i64 x.k, .int .i64 x.n, .string x.s, .slice cx x.args.length dx] 30 (0, 0))).heap.size rinKind.T rinKind.sz (.slice (some ⟨gb, 0, none⟩) (patT (oneA all) S1 x).1.length cl) (patT (oneA all) S1 x).1.length yss.flatten) rfl
        have hy : Each rinKind w9 (fun b => False ∧ (Value.slice q9 (⟨6, t.args.length, 0, t.s⟩ :: L1 : List Ins).length c9).ownBlock ≠ some b) yss (patT (oneA all) S1 x).1 := r3.mono (fun b h => h.1.elim) fun _ _ _ => rfl
        have HOW9 := Lib.hid how9
        have HCELL := Lib.hid hcell
        have HY := Lib.hid hy
        have HS9 := Lib.hid hs9
        have HK9 := Lib.hid hk9
        have HN9 := Lib.hid hn9
        have HLO9 := Lib.hid hlo9
        clear hcell hy r1 r3 hgc how9 hk9 hn9 hd9 hs9 hlo9
        go_wp2_with (with_reducible show wpList _ _ _ (⟨some 82, _, _, _, _, _⟩ :: _) _ _
                     refine wpList_putN (K := rinKind) rfl (.tmp 80) (.tmp 81) _ rfl Try.underlying23 info_rin rfl (w.heap.size + 2) (fun _ => False) (.slice q9 (L1.length + 1) c9) (⟨6, t.args.length, 0, t.s⟩ :: L1) yss (patT (oneA all) S1 x).1 ⟨gb, 0, none⟩ cl rfl HOW9.out rfl (fun j v hj => HCELL.out j v hj) hpos HY.out (by have := HX3.out; simp only [List.length_cons]; unfold maxLen; omega) (by have := HX3.out; simp only [List.length_cons]; omega) (by omega) ?_
                     intro v10 w10 hown hb10 hgr hv10
                     have hs10 := HS9.out.keep (w' := w10) hgr.size fun b hb hq => hgr.block b hb fun e => by
                       rcases hq with hq | hq
                       · exact hq
                       · rcases HN9.out b hq with h | h
                         · exact HRW.out.ne b e.symm h
                         · have := (HLO9.out b e.symm).2; omega
                     have hrow10 : RpRow all a2 d2 ⟨6, t.args.length, 0, t.s⟩ S t.args B (q + 1) (.slice qs S.length cs) w (.slice qn (patT (oneA all) S1 x).2.length cn) v10 w10 := by
                       refine ⟨by omega, by rw [HNX.out]; simpa using hown, by rw [HNX.out]; exact hs10, ?_, fun k e => ?_, fun k e e' => ?_, by have := hgr.size; omega, ?_⟩
                       · refine ((HRW.out.keeps.trans (Keeps.of HBX.out) (M' := fun b => (Value.slice qs S.length cs).ownBlock = some b) fun b e => .inl e).trans HK9.out fun b e => ?_).trans (Keeps.grown hgr (M := fun b => (Value.slice q9 (L1.length + 1) c9).ownBlock = some b) fun b e => .inl e) fun b e => .inr (by have := (HLO9.out b e).1; omega)
                         rcases HRW.out.new b e with h | h
                         · exact .inl h
                         · exact .inr (by omega)
                       · rcases HN9.out k e with h | h
                         · rcases HRW.out.new k h with h | h
                           · exact .inl h
                           · exact .inr h
                         · exact .inr (by omega)
                       · rcases hv10 k e with h | h
                         · rcases HN9.out k e' with h' | h'
                           · exact HRW.out.ne k h h'
                           · have := (HLO9.out k h).2; omega
                         · have := (HS9.out.low k e').2; omega
                       · refine (hgr.block _ (by omega) fun e => by have := (HLO9.out _ e.symm).1; omega).trans ((HK9.out.block _ (by omega) fun e => ?_).trans ((HBX.out.block _ (by omega)).trans HRW.out.box))
                         rcases HRW.out.new _ e with h | h
                         · have := (HS.out.low _ h).2; omega
                         · omega
                     have HRO := Lib.hid hrow10
                     clear hown hb10 hgr hv10 hs10 hrow10)
        go_roundw
        case rel => exact ⟨q + 1, by go_num, HRO.out⟩
        case measure => simp [intOf]; omega
      · obtain rfl : q = t.args.length := by omega
        have hin : decide ((t.args.length : Int) < (t.args.length : Int)) = false := by simp
        have hrr : patT (oneA all) S t = (⟨6, t.args.length, 0, t.s⟩ :: (patL (oneA all) S (t.args.take t.args.length)).1, (patL (oneA all) S (t.args.take t.args.length)).2) := by rw [List.take_length]; exact HR.out
        have hpost : RpPost B (.slice qs S.length cs) (patT (oneA all) S t) w (.returned (.tuple #[.slice q9 (⟨6, t.args.length, 0, t.s⟩ :: (patL (oneA all) S (t.args.take t.args.length)).1 : List Ins).length c9, .slice q2 (patL (oneA all) S (t.args.take t.args.length)).2.length c2])) wr := by
          rw [hrr]
          exact ⟨_, _, rfl, own_base (base' := w.heap.size) HRW.out.own (by omega), HRW.out.slots, HRW.out.keeps, fun k e => (HRW.out.new k e).imp id fun h => by omega, HRW.out.ne⟩
        have HPO := Lib.hid hpost
        clear hpost hrr HRW
        generalize (⟨6, t.args.length, 0, t.s⟩ :: (patL (oneA all) S (t.args.take t.args.length)).1 : List Ins).length = m9 at *
        generalize (patL (oneA all) S (t.args.take t.args.length)).2.length = m2 at *
        go_wp2
        exact bodyPost_ret (v := .tuple #[.slice q9 m9 c9, .slice q2 m2 c2]) (by simp [results, Try.results34, go_sem]) rfl HPO.out
end Go.Proofs.Ytibjcfbilkkmkaa.Tms
