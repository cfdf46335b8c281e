
/-
  UnifySame, walked over the program.
-/
import Derived.Test.YtoklbeogmcdgaaaUns
import Derived.Test.YtoklbeogmcdgaaaUal
import Derived.Test.YtoklbeogmcdgaaaGr9
namespace Go.Proofs.Ytoklbeogmcdgaaa.Tms
open Go Go.RowKit Go.Proofs.Ytoklbeogmcdgaaa.Reg Go.Proofs.Ytoklbeogmcdgaaa.Rws Go.Proofs.Ytoklbeogmcdgaaa.Maps
set_option linter.unusedVariables false
set_option linter.unusedSimpArgs false

/-- where the loop stands: the pair's row, the two answers' row -/
structure SmAt (w : World) (pb ob : Nat) (u1 u2 : Value) (x0 x1 : Bool) (wr : World) : Prop where
  bel : Below w.heap.size w wr
  box : wr.heap[pb]? = some (.cells #[u1, u2] 78 (0, 0))
  oks : wr.heap[ob]? = some (.cells #[.bool x0, .bool x1] 81 (0, 0))
  ne : pb ≠ ob
  ob : w.heap.size ≤ ob
def SmRel9 (w : World) (pb ob : Nat) (u1 u2 : Value) (r0 r1 : Option Bool) (v25 : Value) (wr : World) : Prop :=
  (v25 = .int .i64 ((0 : Nat) : Int) ∧ SmAt w pb ob u1 u2 false false wr) ∨ (v25 = .int .i64 ((1 : Nat) : Int) ∧ r0 ≠ none ∧ SmAt w pb ob u1 u2 (hasB r0) false wr) ∨ (v25 = .int .i64 ((2 : Nat) : Int) ∧ r0 ≠ none ∧ r1 ≠ none ∧ SmAt w pb ob u1 u2 (hasB r0) (hasB r1) wr)
/-- within a round: a store of its own beside these two rows -/
structure RndAt (w : World) (p pb ob : Nat) (u1 u2 : Value) (x0 x1 : Bool) (S : Sto) (D : Nat → Prop) (u : World) : Prop where
  law : Law8 w p S D u
  box : RowF D u pb (.cells #[u1, u2] 78 (0, 0))
  oks : RowF D u ob (.cells #[.bool x0, .bool x1] 81 (0, 0))
  ne : pb ≠ ob
  ob : w.heap.size ≤ ob
section
variable {w u u' : World} {p pb ob : Nat} {u1 u2 : Value} {x0 x1 : Bool} {S S' : Sto} {D D' : Nat → Prop}
theorem RndAt.step (h : RndAt w p pb ob u1 u2 x0 x1 S D u) (hl : Law8 w p S' D' u') (hs : Step D u D' u') : RndAt w p pb ob u1 u2 x0 x1 S' D' u' := ⟨hl, h.box.step hs, h.oks.step hs, h.ne, h.ob⟩
theorem RndAt.below (h : RndAt w p pb ob u1 u2 x0 x1 S D u) (hb : Below u.heap.size u u') : RndAt w p pb ob u1 u2 x0 x1 S D u' := h.step (h.law.below hb).1 (h.law.below hb).2.1
theorem RndAt.put {mb : Nat} (h : RndAt w p pb ob u1 u2 x0 x1 S D u) (hl : Law8 w p S' D' u') (hs : ∀ b, Free D u b → b ≠ mb → Free D' u' b ∧ u'.heap[b]? = u.heap[b]?) (n1 : pb ≠ mb) (n2 : ob ≠ mb) : RndAt w p pb ob u1 u2 x0 x1 S' D' u' :=
  ⟨hl, ⟨(hs pb h.box.1 n1).1, (hs pb h.box.1 n1).2.trans h.box.2⟩, ⟨(hs ob h.oks.1 n2).1, (hs ob h.oks.1 n2).2.trans h.oks.2⟩, h.ne, h.ob⟩
theorem RndAt.end_ (h : RndAt w p pb ob u1 u2 x0 x1 S D u) : SmAt w pb ob u1 u2 x0 x1 u := ⟨h.law.bel, h.box.2, h.oks.2, h.ne, h.ob⟩
theorem RndAt.cells (h : RndAt w p pb ob u1 u2 x0 x1 S D u) : (u.cell? ⟨pb, 0, none⟩ = some u1 ∧ u.cell? ⟨pb, 1, none⟩ = some u2) ∧ (u.cell? ⟨ob, 0, none⟩ = some (.bool x0) ∧ u.cell? ⟨ob, 1, none⟩ = some (.bool x1)) ∧ u.frozen? ⟨ob, 0, none⟩ = false ∧ u.frozen? ⟨ob, 1, none⟩ = false :=
  ⟨⟨by simpa using cell_of_row u pb 0 _ _ _ h.box.2, by simpa using cell_of_row u pb 1 _ _ _ h.box.2⟩, ⟨by simpa using cell_of_row u ob 0 _ _ _ h.oks.2, by simpa using cell_of_row u ob 1 _ _ _ h.oks.2⟩, frozen_of_row u ob 0 _ _ h.oks.2, frozen_of_row u ob 1 _ _ h.oks.2⟩
/-- an answer is kept -/
theorem RndAt.keep {y0 y1 : Bool} {o : Nat} {v : Value} (h : RndAt w p pb ob u1 u2 x0 x1 S D u) (hrow : (u.setCell ⟨ob, o, none⟩ v).heap[ob]? = some (.cells (#[.bool x0, .bool x1].set! (0 + o) v) 81 (0, 0)) → (u.setCell ⟨ob, o, none⟩ v).heap[ob]? = some (.cells #[.bool y0, .bool y1] 81 (0, 0))) :
    RndAt w p pb ob u1 u2 y0 y1 S D (u.setCell ⟨ob, o, none⟩ v) ∧ ∀ b, Free D u b → b ≠ ob → Free D (u.setCell ⟨ob, o, none⟩ v) b ∧ (u.setCell ⟨ob, o, none⟩ v).heap[b]? = u.heap[b]? := by
  have hz : (u.setCell ⟨ob, o, none⟩ v).heap.size = u.heap.size := by simp [World.setCell]
  have hb : ∀ b, b ≠ ob → (u.setCell ⟨ob, o, none⟩ v).heap[b]? = u.heap[b]? := fun b hb => Below.heap_setCell _ _ _ _ hb
  have hr := heap_setCell_same u ob o _ _ v h.oks.2
  have hf : ∀ b, Free D u b → Free D (u.setCell ⟨ob, o, none⟩ v) b := fun b hb => ⟨hb.1, by rw [hz]; exact hb.2⟩
  exact ⟨⟨⟨h.law.sto.keep (by omega) fun b _ hd => hb b fun e => h.oks.1.1 (e ▸ hd), h.law.own, h.law.bel.setCell h.ob _⟩, ⟨hf pb h.box.1, (hb pb h.ne).trans h.box.2⟩, ⟨hf ob h.oks.1, hrow (by simpa using hr)⟩, h.ne, h.ob⟩, fun b hb1 hb2 => ⟨hf b hb1, hb b hb2⟩⟩
end
/-- another row is written -/
theorem RndAt.set {w u : World} {p pb ob r : Nat} {u1 u2 : Value} {x0 x1 : Bool} {S : Sto} {D : Nat → Prop} (h : RndAt w p pb ob u1 u2 x0 x1 S D u) (hr : Free D u r) (hw : w.heap.size ≤ r) (n1 : pb ≠ r) (n2 : ob ≠ r) (cs : Array Value) : RndAt w p pb ob u1 u2 x0 x1 S D (u.setRow r cs) := by
  have hz : (u.setRow r cs).heap.size = u.heap.size := by simp [World.setRow]
  have hb : ∀ b, b ≠ r → (u.setRow r cs).heap[b]? = u.heap[b]? := fun b hb => setRow_other u r b cs hb
  have hf : ∀ b, Free D u b → Free D (u.setRow r cs) b := fun b hb => ⟨hb.1, by rw [hz]; exact hb.2⟩
  exact ⟨⟨h.law.sto.keep (by omega) fun b _ hd => hb b fun e => hr.1 (e ▸ hd), h.law.own, below_setRow h.law.bel hw _⟩, ⟨hf pb h.box.1, (hb pb n1).trans h.box.2⟩, ⟨hf ob h.oks.1, (hb ob n2).trans h.oks.2⟩, h.ne, h.ob⟩
theorem grP_one {A B : List Pt} (h : grP [(A, B)] = false) : A.length ≤ 60 ∧ B.length ≤ 60 := by
  unfold grP prG at h
  simp at h
  omega
/-- a term that was got lies beside the store -/
theorem IsTm.kept {u u' : World} {D D' : Nat → Prop} {ob : Nat} {v : Value} {t : Tm} (h : IsTm u (fun b => Free D u b ∧ b ≠ ob) v t) (hs : ∀ b, Free D u b → b ≠ ob → Free D' u' b ∧ u'.heap[b]? = u.heap[b]?) : IsTm u' (fun b => Free D' u' b ∧ b ≠ ob) v t :=
  h.imp (fun b hb => ⟨(hs b hb.1 hb.2).1, hb.2⟩) fun b hb _ => (hs b hb.1 hb.2).2
mutual
theorem TmAt.apart {w : World} {P : Nat → Prop} {g : Nat} (hz : ∀ o k n, w.cell? ⟨g, o, none⟩ ≠ some (.int k n)) : ∀ (t : Tm) (b o : Nat), TmAt w P b o t → b ≠ g ∧ TmAt w (fun x => P x ∧ x ≠ g) b o t
  | .mk k n s ts, b, o, h => by
    unfold TmAt at h ⊢
    obtain ⟨a, cap, h0, h1, h2, h3, h4⟩ := h
    exact ⟨fun e => by rw [e] at h0; exact hz _ _ _ h0, a, cap, h0, h1, h2, h3, ArgsFrom.apart hz ts a 0 h4⟩
theorem ArgsFrom.apart {w : World} {P : Nat → Prop} {g : Nat} (hz : ∀ o k n, w.cell? ⟨g, o, none⟩ ≠ some (.int k n)) : ∀ (l : List Tm) (q : Option Addr) (j : Nat), ArgsFrom w P q j l → ArgsFrom w (fun x => P x ∧ x ≠ g) q j l
  | [], q, j, h => by unfold ArgsFrom; trivial
  | t :: l, q, j, h => by
    unfold ArgsFrom at h ⊢
    obtain ⟨⟨b, off, e, hb, ht⟩, h2⟩ := h
    obtain ⟨h3, h4⟩ := TmAt.apart hz t b _ ht
    exact ⟨⟨b, off, e, ⟨hb, h3⟩, h4⟩, ArgsFrom.apart hz l q (j + 1) h2⟩
end
/-- a term does not lie in a row of bools -/
theorem IsTm.notrow {w : World} {P : Nat → Prop} {g : Nat} {x0 x1 : Bool} {T : TypeId} {fr : Nat × Nat} {v : Value} {t : Tm} (h : IsTm w P v t) (hg : w.heap[g]? = some (.cells #[.bool x0, .bool x1] T fr)) : IsTm w (fun b => P b ∧ b ≠ g) v t := by
  obtain ⟨a, cap, e, h⟩ := h
  refine ⟨a, cap, e, ArgsFrom.apart (fun o k n hc => ?_) t.args a 0 h⟩
  rw [cell_of_row w g o _ _ _ hg] at hc
  match o, hc with
  | 0, hc => simp at hc
  | 1, hc => simp at hc
  | o + 2, hc => simp at hc
theorem IsTm.kept2 {u u' : World} {D D' : Nat → Prop} {ob N : Nat} {v : Value} {t : Tm} (h : IsTm u (fun b => (Free D u b ∧ b ≠ ob) ∧ b < N) v t) (hs : ∀ b, Free D u b → Free D' u' b ∧ u'.heap[b]? = u.heap[b]?) : IsTm u' (fun b => Free D' u' b ∧ b ≠ ob ∧ b < N) v t :=
  h.imp (fun b hb => ⟨(hs b hb.1.1).1, hb.1.2, hb.2⟩) fun b hb _ => (hs b hb.1.1).2
theorem IsTm.kept3 {u u' : World} {D D' : Nat → Prop} {ob N : Nat} {v : Value} {t : Tm} (h : IsTm u (fun b => Free D u b ∧ b ≠ ob ∧ b < N) v t) (hs : ∀ b, Free D u b → Free D' u' b ∧ u'.heap[b]? = u.heap[b]?) : IsTm u' (fun b => Free D' u' b ∧ b ≠ ob ∧ b < N) v t :=
  h.imp (fun b hb => ⟨(hs b hb.1).1, hb.2⟩) fun b hb _ => (hs b hb.1).2
set_option maxRecDepth 100000 in
set_option maxHeartbeats 32000000 in
theorem law_same (A B : List Pt) (u1 u2 : Value) (w : World) (h1 : PtSl w u1 A) (h2 : PtSl w u2 B) : Calls Try.prog 8 #[.agg #[u1, u2]] w (Says true w) := by
  obtain ⟨a1, c1, rfl, hc1, hm1⟩ := h1.form
  obtain ⟨a2, c2, rfl, hc2, hm2⟩ := h2.form
  unfold maxLen at hm1 hm2
  have H1 := Lib.hid h1
  have H2 := Lib.hid h2
  have hbN := below_new w (.cells #[.slice a1 A.length c1, .slice a2 B.length c2] 78 (0, 0))
  have hrN := heap_alloc_new w (.cells #[.slice a1 A.length c1, .slice a2 B.length c2] 78 (0, 0))
  have HBN := Lib.hid hbN
  have HRN := Lib.hid hrN
  clear h1 h2 hbN hrN
  go_enter Try.func8, Try.ntmps8
  go_wp2_with fail
  generalize w.alloc (.cells #[.slice a1 A.length c1, .slice a2 B.length c2] 78 (0, 0)) = w0 at *
  refine (alive9 _).mono ?_
  rintro e1 w1 ⟨rfl, hb1⟩
  have hlt0 : w.heap.size < w0.heap.size := (Array.getElem?_eq_some_iff.1 HRN.out).1
  have hbx := (hb1.block w.heap.size hlt0).trans HRN.out
  have z0 : w1.cell? ⟨w.heap.size, 0, none⟩ = some (.slice a1 A.length c1) := cell_of_row w1 w.heap.size 0 _ _ _ hbx
  have z1 : w1.cell? ⟨w.heap.size, 1, none⟩ = some (.slice a2 B.length c2) := cell_of_row w1 w.heap.size 1 _ _ _ hbx
  have hb1' := HBN.out.trans (hb1.mono HBN.out.size)
  have hbP := below_new w1 (.cells #[.slice a1 A.length c1, .slice a2 B.length c2] 78 (0, 0))
  have hrP := heap_alloc_new w1 (.cells #[.slice a1 A.length c1, .slice a2 B.length c2] 78 (0, 0))
  have hb2 := hb1'.trans (hbP.mono hb1'.size)
  have hbx2 := (hbP.block w.heap.size (by have := hb1.size; omega)).trans hbx
  have hps := PrSl.one (H1.out.below hb2) (H2.out.below hb2) hrP
  have HPS := Lib.hid hps
  have HB2 := Lib.hid hb2
  have HBX := Lib.hid hbx2
  clear hb1 hbx hb1' hbP hrP hb2 hbx2 hps HBN HRN
  go_wp2_with fail
  generalize w1.alloc (.cells #[.slice a1 A.length c1, .slice a2 B.length c2] 78 (0, 0)) = w2 at *
  refine (great9 [(A, B)] _ _ HPS.out).mono ?_
  rintro e3 w3 ⟨rfl, hb3⟩
  have HB3 := Lib.hid (HB2.out.trans (hb3.mono HB2.out.size))
  have HBX3 := Lib.hid ((hb3.block _ (Array.getElem?_eq_some_iff.1 HBX.out).1).trans HBX.out)
  clear hb3 HPS HB2 HBX z0 z1
  cases hg : grP [(A, B)] with
  | true =>
    clear hg
    go_wp2
    go_ret
    exact ⟨rfl, HB3.out⟩
  | false =>
  obtain ⟨hA, hB⟩ := grP_one hg
  obtain ⟨a, S1, M1, b, S2, M2, hp1, hp2⟩ := two_put A B hA hB
  have sA := goodT_size A
  have sB := goodT_size B
  have HP1 := Lib.hid hp1
  have HP2 := Lib.hid hp2
  have hbon : S2.bonds.length = 0 := by rw [hp2.bonds, hp1.bonds]; rfl
  have HBON := Lib.hid hbon
  clear hg hp1 hp2 hbon
  have hbx3 := HBX3.out
  have hl3 : w.heap.size < w3.heap.size := (Array.getElem?_eq_some_iff.1 hbx3).1
  have hbO := below_new w3 (.cells #[.bool false, .bool false] 81 (0, 0))
  have hst : SmRel9 w w.heap.size w3.heap.size (.slice a1 A.length c1) (.slice a2 B.length c2) (uniR S2 false a b) (uniR S2 false b a) (.int .i64 ((0 : Nat) : Int)) (w3.alloc (.cells #[.bool false, .bool false] 81 (0, 0))) :=
    .inl ⟨rfl, HB3.out.trans (hbO.mono HB3.out.size), (hbO.block _ hl3).trans hbx3, heap_alloc_new w3 _, by omega, by omega⟩
  have HST := Lib.hid hst
  clear hst hbO hbx3 HB3 HBX3
  go_wp2
  generalize w3.alloc (.cells #[.bool false, .bool false] 81 (0, 0)) = w4 at *
  generalize w3.heap.size = ob at *
  obtain ⟨pb, hpb⟩ : ∃ pb, pb = w.heap.size := ⟨_, rfl⟩
  rw [← hpb] at HST hl3 ⊢
  have HPBW := Lib.hid hpb
  clear hpb
  go_loopw [25] (fun v25 wr => SmRel9 w pb ob (.slice a1 A.length c1) (.slice a2 B.length c2) (uniR S2 false a b) (uniR S2 false b a) v25 wr) (fun v25 _ => 2 - (intOf v25).toNat)
  case atStart => exact HST.out
  case round =>
    clear HST
    rcases hrel with ⟨rfl, hat⟩ | ⟨rfl, hr0, hat⟩ | ⟨rfl, hr0, hr1, hat⟩
    · have HAT := Lib.hid hat
      have b1 : decide (((0 : Nat) : Int) < 2) = true := by simp
      have b2 : (((0 : Nat) : Int) == 1) = false := by simp
      clear hat
      go_wp2_with fail
      refine (law_NewF w wr HAT.out.bel 1000 (by decide) (by decide)).mono ?_
      rintro e5 w5 ⟨rfl, D5, hl5, hb5, hf5⟩
      have hpl := (Array.getElem?_eq_some_iff.1 HAT.out.box).1
      have hol := (Array.getElem?_eq_some_iff.1 HAT.out.oks).1
      have hR5 : RndAt w wr.heap.size pb ob (.slice a1 A.length c1) (.slice a2 B.length c2) false false st0 D5 w5 :=
        ⟨hl5, ⟨hf5 pb hpl, (hb5.block pb hpl).trans HAT.out.box⟩, ⟨hf5 ob hol, (hb5.block ob hol).trans HAT.out.oks⟩, HAT.out.ne, HAT.out.ob⟩
      obtain ⟨h6, s6, f6, -⟩ := hl5.alloc (.map #[] 0)
      have hv6 : VarsAt w D5 w5.heap.size [] (w5.alloc (.map #[] 0)) := ⟨⟨[], IMapB.made w5, List.Perm.refl _⟩, f6.1, hl5.bel.size⟩
      have hR6 : RndAt w wr.heap.size pb ob (.slice a1 A.length c1) (.slice a2 B.length c2) false false st0 D5 (w5.alloc (.map #[] 0)) := hR5.step h6 s6
      have HR6 := Lib.hid hR6
      have HV6 := Lib.hid hv6
      have npm : pb ≠ w5.heap.size := by have := hb5.size; omega
      have nom : ob ≠ w5.heap.size := by have := hb5.size; omega
      clear hl5 hb5 hf5 h6 s6 f6 hv6 hpl hol hR5 hR6 HAT
      generalize wr.heap.size = p at *
      dsimp only
      go_wp2_with (with_reducible show wpList _ _ _ (⟨some 32, _, _, _, _, _⟩ :: _) _ _
                   refine wpList_imap_made rfl _ rfl ?_
                   generalize w5.alloc (.map #[] 0) = w6 at *
                   generalize w5.heap.size = mb at *
                   obtain ⟨⟨z0, z1⟩, -⟩ := HR6.out.cells)
      refine (ref_good A _ _ (by omega) (H1.out.below HR6.out.law.bel)).mono ?_
      rintro e7 w7 ⟨v7, rfl, hi7, hb7⟩
      obtain ⟨q7, k7, rfl⟩ := hi7.form
      obtain ⟨-, -, n7⟩ := HR6.out.law.below hb7
      have HR7 := Lib.hid (HR6.out.below hb7)
      have HV7 := Lib.hid (HV6.out.below hb7)
      have HI7 := Lib.hid (hi7.low.imp (P' := fun b => ¬ D5 b) (fun b hb => by rcases hb with ⟨hb | hb, hb2⟩; exact hb.elim; exact (n7 b hb hb2).1) fun _ _ _ => rfl)
      clear hi7 hb7 n7 z0 z1 HR6 HV6
      go_wp2_with fail
      have hput := law_PutM HR7.out.law st0_inv HV7.out (by simp) HI7.out (fun b hb => hb) (by omega)
      rw [HP1.out.a, HP1.out.w, HP1.out.n] at hput
      refine hput.mono ?_
      rintro e8 w8 ⟨rfl, D8, hl8, hv8, hz8, hk8⟩
      have HR8 := Lib.hid (HR7.out.put hl8 hk8 npm nom)
      have HV8 := Lib.hid hv8
      obtain ⟨⟨z0, z1⟩, -⟩ := HR8.out.cells
      clear hput hl8 hv8 hz8 hk8 HR7 HV7 HI7
      dsimp only
      go_wp2_with fail
      refine (ref_good B _ _ (by omega) (H2.out.below HR8.out.law.bel)).mono ?_
      rintro e9 w9 ⟨v9, rfl, hi9, hb9⟩
      obtain ⟨q9, k9, rfl⟩ := hi9.form
      obtain ⟨-, -, n9⟩ := HR8.out.law.below hb9
      have HR9 := Lib.hid (HR8.out.below hb9)
      have HV9 := Lib.hid (HV8.out.below hb9)
      have HI9 := Lib.hid (hi9.low.imp (P' := fun b => ¬ D8 b) (fun b hb => by rcases hb with ⟨hb | hb, hb2⟩; exact hb.elim; exact (n9 b hb hb2).1) fun _ _ _ => rfl)
      clear hi9 hb9 n9 z0 z1 HR8 HV8
      go_wp2_with fail
      have hput := law_PutM HR9.out.law HP1.out.inv HV9.out HP1.out.mok.nd HI9.out (fun b hb => hb) (by omega)
      rw [HP2.out.a, HP2.out.w, HP2.out.n] at hput
      refine hput.mono ?_
      rintro e10 w10 ⟨rfl, D10, hl10, hv10, hz10, hk10⟩
      have HR10 := Lib.hid (HR9.out.put hl10 hk10 npm nom)
      clear hput hl10 hv10 hz10 hk10 HR9 HV9 HI9
      have haS : a < S2.cells.length := by have := HP1.out.lt; have := HP2.out.le.1; omega
      have hbS : b < S2.cells.length := HP2.out.lt
      dsimp only
      go_wp2_with fail
      refine (law_GetE HR10.out.law HP2.out.inv a haS).mono ?_
      rintro e11 w11 ⟨q11, c11, he11, l11, s11, hi11⟩
      obtain ⟨wT, hwT⟩ : ∃ t, t = getT S2 a := ⟨_, rfl⟩
      rw [← hwT] at he11 hi11
      obtain rfl : e11 = .returned (.tuple #[.agg #[.int .i64 wT.k, .int .i64 wT.n, .string wT.s, .slice q11 wT.args.length c11], .int .i64 (getE S2 a)]) := he11
      have hb12 := below_new w11 (.cells #[.int .i64 wT.k, .int .i64 wT.n, .string wT.s, .slice q11 wT.args.length c11] 33 (0, 0))
      have hr12 := heap_alloc_new w11 (.cells #[.int .i64 wT.k, .int .i64 wT.n, .string wT.s, .slice q11 wT.args.length c11] 33 (0, 0))
      have hR11 := HR10.out.step l11 s11
      obtain ⟨l12, s12, n12⟩ := l11.below hb12
      have HR12 := Lib.hid (hR11.step l12 s12)
      have hol := (Array.getElem?_eq_some_iff.1 hR11.oks.2).1
      have hi12 : IsTm w11 (fun b => Free D10 w11 b ∧ b ≠ ob) (aggT wT q11 c11) wT := (hi11.notrow hR11.oks.2).imp (fun b hb => ⟨hb.1.1, hb.2⟩) fun _ _ _ => rfl
      have HW12 := Lib.hid (hi12.kept fun b hb _ => s12.blk b hb)
      have HRW12 : Hid (RowF D10 (w11.alloc (.cells #[.int .i64 wT.k, .int .i64 wT.n, .string wT.s, .slice q11 wT.args.length c11] 33 (0, 0))) w11.heap.size (.cells #[.int .i64 wT.k, .int .i64 wT.n, .string wT.s, .slice q11 wT.args.length c11] 33 (0, 0))) := Lib.hid ⟨n12 _ (Nat.le_refl _) (by simp), hr12⟩
      have nwo : w11.heap.size ≠ ob := by omega
      have HWT := Lib.hid hwT
      clear hb12 hr12 l12 s12 n12 l11 s11 hi11 hi12 hol hR11 HR10 hwT
      go_upto_region 16 with fail
      generalize w11.alloc (.cells #[.int .i64 wT.k, .int .i64 wT.n, .string wT.s, .slice q11 wT.args.length c11] 33 (0, 0)) = w12 at *
      generalize w11.heap.size = tb at *
      obtain ⟨r, hr⟩ : ∃ r, r = uniR S2 false a b := ⟨_, rfl⟩
      obtain ⟨T, hT⟩ : ∃ T, T = uniW S2 false a b := ⟨_, rfl⟩
      have hun := un_Unify HR12.out.law HP2.out.inv a b haS hbS
      rw [← hr, ← hT] at hun
      have hext := uniW_ext HP2.out.inv (sf := false) haS hbS
      have hno : r ≠ some true → T = S2 := fun h => by rw [hT]; exact uni_other (by rw [← hr]; exact h)
      have hyes : r = some true → getT T a = getT T b ∧ getE T a = getE T b := fun h => by rw [hT]; exact alike_get (uni_alike HP2.out.inv haS hbS (by rw [← hr]; exact h))
      rw [← hT] at hext
      have hTp : a < T.cells.length := by rw [hext.len]; exact haS
      have hTq : b < T.cells.length := by rw [hext.len]; exact hbS
      have HTI := Lib.hid hext.inv
      have HNO := Lib.hid hno
      have HYES := Lib.hid hyes
      have HRR := Lib.hid hr
      clear hext hno hyes hr hT
      go_wp2_with fail
      refine hun.mono ?_
      rintro e13 w13 ⟨rfl, D13, l13, s13⟩
      have HR13 := Lib.hid (HR12.out.step l13 s13)
      have HW13 := Lib.hid (HW12.out.kept fun b hb _ => s13.blk b hb)
      have HRW13 := Lib.hid (HRW12.out.step s13)
      clear hun l13 s13 HR12 HW12 HRW12
      cases r with
      | none =>
        have hT := (HNO.out (by simp)).symm
        subst hT
        have hlb := HBON.out
        simp only [hasB, hasE]
        go_wp2_with fail
        refine (sto_Mark _ HR13.out.law.sto).mono ?_
        rintro e14 w14 ⟨rfl, rfl⟩
        rw [HBON.out]
        go_wp2
        go_ret
        exact ⟨by simp, HR13.out.law.bel⟩
      | some ok =>
      cases ok with
      | false =>
        have hT := (HNO.out (by simp)).symm
        subst hT
        simp only [hasB, hasE]
        have hor := RndAt.cells HR13.out
        obtain ⟨-, ⟨o0, o1⟩, fz0, fz1⟩ := hor
        have hkeep := HR13.out.keep (o := 0) (v := .bool false) (y0 := false) (y1 := false) (fun h => by rw [h]; rfl)
        have HK := Lib.hid hkeep
        clear hkeep
        go_wp2_with fail
        have hgo := HK.out.2
        have HR14 := Lib.hid HK.out.1
        have HW14 := Lib.hid (HW13.out.kept hgo)
        have HRW14 : Hid (RowF D13 (w13.setCell ⟨ob, 0, none⟩ (.bool false)) tb _) := Lib.hid ⟨(hgo tb HRW13.out.1 nwo).1, (hgo tb HRW13.out.1 nwo).2.trans HRW13.out.2⟩
        clear hgo HK HR13 HW13 HRW13 o0 o1 fz0 fz1
        generalize w13.setCell ⟨ob, 0, none⟩ (.bool false) = w14 at *
        refine (law_GetE HR14.out.law HTI.out a hTp).mono ?_
        rintro e15 w15 ⟨q15, c15, he15, l15, s15, hi15⟩
        obtain ⟨X, hX⟩ : ∃ X, X = getT S2 a := ⟨_, rfl⟩
        obtain ⟨EX, hEX⟩ : ∃ E, E = getE S2 a := ⟨_, rfl⟩
        rw [← hX, ← hEX] at he15
        rw [← hX] at hi15
        obtain rfl : e15 = .returned (.tuple #[.agg #[.int .i64 X.k, .int .i64 X.n, .string X.s, .slice q15 X.args.length c15], .int .i64 EX]) := he15
        have hb16 := below_new w15 (.cells #[.int .i64 X.k, .int .i64 X.n, .string X.s, .slice q15 X.args.length c15] 33 (0, 0))
        have hr16 := heap_alloc_new w15 (.cells #[.int .i64 X.k, .int .i64 X.n, .string X.s, .slice q15 X.args.length c15] 33 (0, 0))
        obtain ⟨l16, s16, n16⟩ := l15.below hb16
        have hR15 := HR14.out.step l15 s15
        have HR16 := Lib.hid (hR15.step l16 s16)
        have HW16 := Lib.hid ((HW14.out.kept fun b hb _ => s15.blk b hb).low.kept2 fun b hb => s16.blk b hb)
        have HRW16 := Lib.hid ((HRW14.out.step s15).step s16)
        have HX16 := Lib.hid ((((hi15.notrow hR15.oks.2).low.imp (P' := fun b => (Free D13 w15 b ∧ b ≠ ob) ∧ b < w15.heap.size) (fun b hb => ⟨⟨hb.1.1.1, hb.1.2⟩, hb.2⟩) fun _ _ _ => rfl)).kept2 fun b hb => s16.blk b hb)
        have HRX16 : Hid (RowF D13 (w15.alloc (.cells #[.int .i64 X.k, .int .i64 X.n, .string X.s, .slice q15 X.args.length c15] 33 (0, 0))) w15.heap.size _) := Lib.hid ⟨n16 _ (Nat.le_refl _) (by simp), hr16⟩
        have nxo : w15.heap.size ≠ ob ∧ w15.heap.size ≠ pb := ⟨by have := (Array.getElem?_eq_some_iff.1 hR15.oks.2).1; omega, by have := (Array.getElem?_eq_some_iff.1 hR15.box.2).1; omega⟩
        have nxt : tb < w15.heap.size := by have := HRW14.out.1.2; have := s15.size; omega
        have nxw : w.heap.size ≤ w15.heap.size := l15.bel.size
        have HEX := Lib.hid hEX
        have HXX := Lib.hid hX
        clear hb16 hr16 l16 s16 n16 l15 s15 hi15 hR15 hX hEX HR14 HW14 HRW14
        go_wp2_with fail
        generalize w15.alloc (.cells #[.int .i64 X.k, .int .i64 X.n, .string X.s, .slice q15 X.args.length c15] 33 (0, 0)) = w16 at *
        have hxl : w15.heap.size < w16.heap.size := HRX16.out.1.2
        generalize w15.heap.size = xb at *
        refine (law_GetE HR16.out.law HTI.out b hTq).mono ?_
        rintro e17 w17 ⟨q17, c17, he17, l17, s17, hi17⟩
        obtain ⟨Y, hY⟩ : ∃ X, X = getT S2 b := ⟨_, rfl⟩
        obtain ⟨EY, hEY⟩ : ∃ E, E = getE S2 b := ⟨_, rfl⟩
        rw [← hY, ← hEY] at he17
        rw [← hY] at hi17
        obtain rfl : e17 = .returned (.tuple #[.agg #[.int .i64 Y.k, .int .i64 Y.n, .string Y.s, .slice q17 Y.args.length c17], .int .i64 EY]) := he17
        have hb18 := below_new w17 (.cells #[.int .i64 Y.k, .int .i64 Y.n, .string Y.s, .slice q17 Y.args.length c17] 33 (0, 0))
        have hr18 := heap_alloc_new w17 (.cells #[.int .i64 Y.k, .int .i64 Y.n, .string Y.s, .slice q17 Y.args.length c17] 33 (0, 0))
        obtain ⟨l18, s18, n18⟩ := l17.below hb18
        have hR17 := HR16.out.step l17 s17
        have HR18 := Lib.hid (hR17.step l18 s18)
        have HW18 := Lib.hid ((HW16.out.kept3 fun b hb => s17.blk b hb).kept3 fun b hb => s18.blk b hb)
        have HRW18 := Lib.hid ((HRW16.out.step s17).step s18)
        have HX18 := Lib.hid ((HX16.out.kept3 fun b hb => s17.blk b hb).kept3 fun b hb => s18.blk b hb)
        have HRX18 := Lib.hid ((HRX16.out.step s17).step s18)
        have HY18 := Lib.hid (((hi17.notrow hR17.oks.2).low.imp (P' := fun b => Free D13 w17 b ∧ b ≠ ob ∧ xb < b ∧ b < w17.heap.size) (fun b hb => ⟨hb.1.1.1, hb.1.2, by have := hb.1.1.2; omega, hb.2⟩) fun _ _ _ => rfl).imp (P' := fun b => Free D13 (w17.alloc (.cells #[.int .i64 Y.k, .int .i64 Y.n, .string Y.s, .slice q17 Y.args.length c17] 33 (0, 0))) b ∧ b ≠ ob ∧ xb < b ∧ b < w17.heap.size) (fun b hb => ⟨(s18.blk b hb.1).1, hb.2⟩) fun b hb _ => (s18.blk b hb.1).2)
        have HRY18 : Hid (RowF D13 (w17.alloc (.cells #[.int .i64 Y.k, .int .i64 Y.n, .string Y.s, .slice q17 Y.args.length c17] 33 (0, 0))) w17.heap.size _) := Lib.hid ⟨n18 _ (Nat.le_refl _) (by simp), hr18⟩
        have nyo : w17.heap.size ≠ ob ∧ w17.heap.size ≠ pb := ⟨by have := (Array.getElem?_eq_some_iff.1 hR17.oks.2).1; omega, by have := (Array.getElem?_eq_some_iff.1 hR17.box.2).1; omega⟩
        have nyx : xb < w17.heap.size := by have := s17.size; omega
        have HEY := Lib.hid hEY
        have HYY := Lib.hid hY
        clear hb18 hr18 l18 s18 n18 l17 s17 hi17 hR17 hY hEY HR16 HW16 HRW16 HX16 HRX16 hxl
        go_upto_region 26 with fail
        generalize w17.alloc (.cells #[.int .i64 Y.k, .int .i64 Y.n, .string Y.s, .slice q17 Y.args.length c17] 33 (0, 0)) = w18 at *
        generalize w17.heap.size = yb at *
        obtain ⟨u0, u1, u2, u3⟩ := row4 HRX18.out.2
        obtain ⟨v0, v1, v2, v3⟩ := row4 HRY18.out.2
        obtain ⟨t0, t1, t2, t3⟩ := row4 HRW18.out.2
        have hX1 : X = wT := by rw [HXX.out, HWT.out]
        subst hX1
        go_wp2_with fail
        refine (sto_Mark _ HR18.out.law.sto).mono ?_
        rintro e19 w19 ⟨rfl, rfl⟩
        rw [HBON.out]
        go_wp2_with fail
        have hsz : X.size ≤ 1000000000 := by have := getT_size S2 a; rw [HXX.out]; omega
        refine (ref_same X.size X X _ _ _ _ _ (Nat.le_refl _) hsz HX18.out HW18.out).mono ?_
        rintro e20 w20 ⟨rfl, hb20⟩
        rw [sameT_refl]
        have HR20 := Lib.hid (HR18.out.below hb20)
        clear hb20 u0 u1 u2 u3 v0 v1 v2 v3 t0 t1 t2 t3
        have hrel : SmRel9 w pb ob (.slice a1 A.length c1) (.slice a2 B.length c2) (uniR S2 false a b) (uniR S2 false b a) (.int .i64 ((1 : Nat) : Int)) w20 := by
          unfold SmRel9
          rw [← HRR.out]
          exact .inr (.inl ⟨rfl, by simp, HR20.out.end_⟩)
        have HREL := Lib.hid hrel
        clear hrel
        go_wp2
        go_roundw
        case measure => simp [intOf]
        case rel => exact HREL.out
      | true =>
        simp only [hasB, hasE]
        have hor := RndAt.cells HR13.out
        obtain ⟨-, ⟨o0, o1⟩, fz0, fz1⟩ := hor
        have hkeep := HR13.out.keep (o := 0) (v := .bool true) (y0 := true) (y1 := false) (fun h => by rw [h]; rfl)
        have HK := Lib.hid hkeep
        clear hkeep
        go_wp2_with fail
        have hgo := HK.out.2
        have HR14 := Lib.hid HK.out.1
        have HW14 := Lib.hid (HW13.out.kept hgo)
        have HRW14 : Hid (RowF D13 (w13.setCell ⟨ob, 0, none⟩ (.bool true)) tb _) := Lib.hid ⟨(hgo tb HRW13.out.1 nwo).1, (hgo tb HRW13.out.1 nwo).2.trans HRW13.out.2⟩
        clear hgo HK HR13 HW13 HRW13 o0 o1 fz0 fz1
        generalize w13.setCell ⟨ob, 0, none⟩ (.bool true) = w14 at *
        refine (law_GetE HR14.out.law HTI.out a hTp).mono ?_
        rintro e15 w15 ⟨q15, c15, he15, l15, s15, hi15⟩
        obtain ⟨X, hX⟩ : ∃ X, X = getT T a := ⟨_, rfl⟩
        obtain ⟨EX, hEX⟩ : ∃ E, E = getE T a := ⟨_, rfl⟩
        rw [← hX, ← hEX] at he15
        rw [← hX] at hi15
        obtain rfl : e15 = .returned (.tuple #[.agg #[.int .i64 X.k, .int .i64 X.n, .string X.s, .slice q15 X.args.length c15], .int .i64 EX]) := he15
        have hb16 := below_new w15 (.cells #[.int .i64 X.k, .int .i64 X.n, .string X.s, .slice q15 X.args.length c15] 33 (0, 0))
        have hr16 := heap_alloc_new w15 (.cells #[.int .i64 X.k, .int .i64 X.n, .string X.s, .slice q15 X.args.length c15] 33 (0, 0))
        obtain ⟨l16, s16, n16⟩ := l15.below hb16
        have hR15 := HR14.out.step l15 s15
        have HR16 := Lib.hid (hR15.step l16 s16)
        have HW16 := Lib.hid ((HW14.out.kept fun b hb _ => s15.blk b hb).low.kept2 fun b hb => s16.blk b hb)
        have HRW16 := Lib.hid ((HRW14.out.step s15).step s16)
        have HX16 := Lib.hid ((((hi15.notrow hR15.oks.2).low.imp (P' := fun b => (Free D13 w15 b ∧ b ≠ ob) ∧ b < w15.heap.size) (fun b hb => ⟨⟨hb.1.1.1, hb.1.2⟩, hb.2⟩) fun _ _ _ => rfl)).kept2 fun b hb => s16.blk b hb)
        have HRX16 : Hid (RowF D13 (w15.alloc (.cells #[.int .i64 X.k, .int .i64 X.n, .string X.s, .slice q15 X.args.length c15] 33 (0, 0))) w15.heap.size _) := Lib.hid ⟨n16 _ (Nat.le_refl _) (by simp), hr16⟩
        have nxo : w15.heap.size ≠ ob ∧ w15.heap.size ≠ pb := ⟨by have := (Array.getElem?_eq_some_iff.1 hR15.oks.2).1; omega, by have := (Array.getElem?_eq_some_iff.1 hR15.box.2).1; omega⟩
        have nxt : tb < w15.heap.size := by have := HRW14.out.1.2; have := s15.size; omega
        have nxw : w.heap.size ≤ w15.heap.size := l15.bel.size
        have HEX := Lib.hid hEX
        have HXX := Lib.hid hX
        clear hb16 hr16 l16 s16 n16 l15 s15 hi15 hR15 hX hEX HR14 HW14 HRW14
        go_wp2_with fail
        generalize w15.alloc (.cells #[.int .i64 X.k, .int .i64 X.n, .string X.s, .slice q15 X.args.length c15] 33 (0, 0)) = w16 at *
        have hxl : w15.heap.size < w16.heap.size := HRX16.out.1.2
        generalize w15.heap.size = xb at *
        refine (law_GetE HR16.out.law HTI.out b hTq).mono ?_
        rintro e17 w17 ⟨q17, c17, he17, l17, s17, hi17⟩
        obtain ⟨Y, hY⟩ : ∃ X, X = getT T b := ⟨_, rfl⟩
        obtain ⟨EY, hEY⟩ : ∃ E, E = getE T b := ⟨_, rfl⟩
        rw [← hY, ← hEY] at he17
        rw [← hY] at hi17
        obtain rfl : e17 = .returned (.tuple #[.agg #[.int .i64 Y.k, .int .i64 Y.n, .string Y.s, .slice q17 Y.args.length c17], .int .i64 EY]) := he17
        have hb18 := below_new w17 (.cells #[.int .i64 Y.k, .int .i64 Y.n, .string Y.s, .slice q17 Y.args.length c17] 33 (0, 0))
        have hr18 := heap_alloc_new w17 (.cells #[.int .i64 Y.k, .int .i64 Y.n, .string Y.s, .slice q17 Y.args.length c17] 33 (0, 0))
        obtain ⟨l18, s18, n18⟩ := l17.below hb18
        have hR17 := HR16.out.step l17 s17
        have HR18 := Lib.hid (hR17.step l18 s18)
        have HW18 := Lib.hid ((HW16.out.kept3 fun b hb => s17.blk b hb).kept3 fun b hb => s18.blk b hb)
        have HRW18 := Lib.hid ((HRW16.out.step s17).step s18)
        have HX18 := Lib.hid ((HX16.out.kept3 fun b hb => s17.blk b hb).kept3 fun b hb => s18.blk b hb)
        have HRX18 := Lib.hid ((HRX16.out.step s17).step s18)
        have HY18 := Lib.hid (((hi17.notrow hR17.oks.2).low.imp (P' := fun b => Free D13 w17 b ∧ b ≠ ob ∧ xb < b ∧ b < w17.heap.size) (fun b hb => ⟨hb.1.1.1, hb.1.2, by have := hb.1.1.2; omega, hb.2⟩) fun _ _ _ => rfl).imp (P' := fun b => Free D13 (w17.alloc (.cells #[.int .i64 Y.k, .int .i64 Y.n, .string Y.s, .slice q17 Y.args.length c17] 33 (0, 0))) b ∧ b ≠ ob ∧ xb < b ∧ b < w17.heap.size) (fun b hb => ⟨(s18.blk b hb.1).1, hb.2⟩) fun b hb _ => (s18.blk b hb.1).2)
        have HRY18 : Hid (RowF D13 (w17.alloc (.cells #[.int .i64 Y.k, .int .i64 Y.n, .string Y.s, .slice q17 Y.args.length c17] 33 (0, 0))) w17.heap.size _) := Lib.hid ⟨n18 _ (Nat.le_refl _) (by simp), hr18⟩
        have nyo : w17.heap.size ≠ ob ∧ w17.heap.size ≠ pb := ⟨by have := (Array.getElem?_eq_some_iff.1 hR17.oks.2).1; omega, by have := (Array.getElem?_eq_some_iff.1 hR17.box.2).1; omega⟩
        have nyx : xb < w17.heap.size := by have := s17.size; omega
        have HEY := Lib.hid hEY
        have HYY := Lib.hid hY
        clear hb18 hr18 l18 s18 n18 l17 s17 hi17 hR17 hY hEY HR16 HW16 HRW16 HX16 HRX16 hxl
        go_upto_region 26 with fail
        generalize w17.alloc (.cells #[.int .i64 Y.k, .int .i64 Y.n, .string Y.s, .slice q17 Y.args.length c17] 33 (0, 0)) = w18 at *
        generalize w17.heap.size = yb at *
        obtain ⟨u0, u1, u2, u3⟩ := row4 HRX18.out.2
        obtain ⟨v0, v1, v2, v3⟩ := row4 HRY18.out.2
        obtain ⟨t0, t1, t2, t3⟩ := row4 HRW18.out.2
        obtain ⟨hxy, hee⟩ := HYES.out (by first | rfl | trivial)
        have hX1 : Y = X := by rw [HYY.out, HXX.out, hxy]
        have hE1 : EY = EX := by rw [HEY.out, HEX.out, hee]
        subst hX1 hE1
        have hbe : (EY != EY) = false := by simp
        clear hxy hee
        go_wp2_with fail
        have hsz : Y.size ≤ 1000000000 := by have := getT_size T a; rw [HXX.out]; omega
        refine (ref_same Y.size Y Y _ _ _ _ _ (Nat.le_refl _) hsz HX18.out HY18.out).mono ?_
        rintro e19 w19 ⟨rfl, hb19⟩
        rw [sameT_refl]
        have HR19 := Lib.hid (HR18.out.below hb19)
        clear hb19 u0 u1 u2 u3 v0 v1 v2 v3 t0 t1 t2 t3
        have hrel : SmRel9 w pb ob (.slice a1 A.length c1) (.slice a2 B.length c2) (uniR S2 false a b) (uniR S2 false b a) (.int .i64 ((1 : Nat) : Int)) w19 := by
          unfold SmRel9
          rw [← HRR.out]
          exact .inr (.inl ⟨rfl, by simp, HR19.out.end_⟩)
        have HREL := Lib.hid hrel
        clear hrel
        go_wp2
        go_roundw
        case measure => simp [intOf]
        case rel => exact HREL.out
    · have HAT := Lib.hid hat
      have HR0 := Lib.hid hr0
      clear hr0
      have b1 : decide (((1 : Nat) : Int) < 2) = true := by simp
      have b2 : (((1 : Nat) : Int) == 1) = true := by simp
      clear hat
      go_wp2_with fail
      refine (law_NewF w wr HAT.out.bel 1000 (by decide) (by decide)).mono ?_
      rintro e5 w5 ⟨rfl, D5, hl5, hb5, hf5⟩
      have hpl := (Array.getElem?_eq_some_iff.1 HAT.out.box).1
      have hol := (Array.getElem?_eq_some_iff.1 HAT.out.oks).1
      have hR5 : RndAt w wr.heap.size pb ob (.slice a1 A.length c1) (.slice a2 B.length c2) (hasB (uniR S2 false a b)) false st0 D5 w5 :=
        ⟨hl5, ⟨hf5 pb hpl, (hb5.block pb hpl).trans HAT.out.box⟩, ⟨hf5 ob hol, (hb5.block ob hol).trans HAT.out.oks⟩, HAT.out.ne, HAT.out.ob⟩
      obtain ⟨h6, s6, f6, -⟩ := hl5.alloc (.map #[] 0)
      have hv6 : VarsAt w D5 w5.heap.size [] (w5.alloc (.map #[] 0)) := ⟨⟨[], IMapB.made w5, List.Perm.refl _⟩, f6.1, hl5.bel.size⟩
      have hR6 : RndAt w wr.heap.size pb ob (.slice a1 A.length c1) (.slice a2 B.length c2) (hasB (uniR S2 false a b)) false st0 D5 (w5.alloc (.map #[] 0)) := hR5.step h6 s6
      have HR6 := Lib.hid hR6
      have HV6 := Lib.hid hv6
      have npm : pb ≠ w5.heap.size := by have := hb5.size; omega
      have nom : ob ≠ w5.heap.size := by have := hb5.size; omega
      clear hl5 hb5 hf5 h6 s6 f6 hv6 hpl hol hR5 hR6 HAT
      generalize wr.heap.size = p at *
      dsimp only
      go_wp2_with (with_reducible show wpList _ _ _ (⟨some 32, _, _, _, _, _⟩ :: _) _ _
                   refine wpList_imap_made rfl _ rfl ?_
                   generalize w5.alloc (.map #[] 0) = w6 at *
                   generalize w5.heap.size = mb at *
                   obtain ⟨⟨z0, z1⟩, -⟩ := HR6.out.cells)
      refine (ref_good A _ _ (by omega) (H1.out.below HR6.out.law.bel)).mono ?_
      rintro e7 w7 ⟨v7, rfl, hi7, hb7⟩
      obtain ⟨q7, k7, rfl⟩ := hi7.form
      obtain ⟨-, -, n7⟩ := HR6.out.law.below hb7
      have HR7 := Lib.hid (HR6.out.below hb7)
      have HV7 := Lib.hid (HV6.out.below hb7)
      have HI7 := Lib.hid (hi7.low.imp (P' := fun b => ¬ D5 b) (fun b hb => by rcases hb with ⟨hb | hb, hb2⟩; exact hb.elim; exact (n7 b hb hb2).1) fun _ _ _ => rfl)
      clear hi7 hb7 n7 z0 z1 HR6 HV6
      go_wp2_with fail
      have hput := law_PutM HR7.out.law st0_inv HV7.out (by simp) HI7.out (fun b hb => hb) (by omega)
      rw [HP1.out.a, HP1.out.w, HP1.out.n] at hput
      refine hput.mono ?_
      rintro e8 w8 ⟨rfl, D8, hl8, hv8, hz8, hk8⟩
      have HR8 := Lib.hid (HR7.out.put hl8 hk8 npm nom)
      have HV8 := Lib.hid hv8
      obtain ⟨⟨z0, z1⟩, -⟩ := HR8.out.cells
      clear hput hl8 hv8 hz8 hk8 HR7 HV7 HI7
      dsimp only
      go_wp2_with fail
      refine (ref_good B _ _ (by omega) (H2.out.below HR8.out.law.bel)).mono ?_
      rintro e9 w9 ⟨v9, rfl, hi9, hb9⟩
      obtain ⟨q9, k9, rfl⟩ := hi9.form
      obtain ⟨-, -, n9⟩ := HR8.out.law.below hb9
      have HR9 := Lib.hid (HR8.out.below hb9)
      have HV9 := Lib.hid (HV8.out.below hb9)
      have HI9 := Lib.hid (hi9.low.imp (P' := fun b => ¬ D8 b) (fun b hb => by rcases hb with ⟨hb | hb, hb2⟩; exact hb.elim; exact (n9 b hb hb2).1) fun _ _ _ => rfl)
      clear hi9 hb9 n9 z0 z1 HR8 HV8
      go_wp2_with fail
      have hput := law_PutM HR9.out.law HP1.out.inv HV9.out HP1.out.mok.nd HI9.out (fun b hb => hb) (by omega)
      rw [HP2.out.a, HP2.out.w, HP2.out.n] at hput
      refine hput.mono ?_
      rintro e10 w10 ⟨rfl, D10, hl10, hv10, hz10, hk10⟩
      have HR10 := Lib.hid (HR9.out.put hl10 hk10 npm nom)
      clear hput hl10 hv10 hz10 hk10 HR9 HV9 HI9
      have haS : a < S2.cells.length := by have := HP1.out.lt; have := HP2.out.le.1; omega
      have hbS : b < S2.cells.length := HP2.out.lt
      dsimp only
      go_wp2_with fail
      refine (law_GetE HR10.out.law HP2.out.inv a haS).mono ?_
      rintro e11 w11 ⟨q11, c11, he11, l11, s11, hi11⟩
      obtain ⟨wT, hwT⟩ : ∃ t, t = getT S2 a := ⟨_, rfl⟩
      rw [← hwT] at he11 hi11
      obtain rfl : e11 = .returned (.tuple #[.agg #[.int .i64 wT.k, .int .i64 wT.n, .string wT.s, .slice q11 wT.args.length c11], .int .i64 (getE S2 a)]) := he11
      have hb12 := below_new w11 (.cells #[.int .i64 wT.k, .int .i64 wT.n, .string wT.s, .slice q11 wT.args.length c11] 33 (0, 0))
      have hr12 := heap_alloc_new w11 (.cells #[.int .i64 wT.k, .int .i64 wT.n, .string wT.s, .slice q11 wT.args.length c11] 33 (0, 0))
      have hR11 := HR10.out.step l11 s11
      obtain ⟨l12, s12, n12⟩ := l11.below hb12
      have HR12 := Lib.hid (hR11.step l12 s12)
      have hol := (Array.getElem?_eq_some_iff.1 hR11.oks.2).1
      have hi12 : IsTm w11 (fun b => Free D10 w11 b ∧ b ≠ ob) (aggT wT q11 c11) wT := (hi11.notrow hR11.oks.2).imp (fun b hb => ⟨hb.1.1, hb.2⟩) fun _ _ _ => rfl
      have HW12 := Lib.hid (hi12.kept fun b hb _ => s12.blk b hb)
      have HRW12 : Hid (RowF D10 (w11.alloc (.cells #[.int .i64 wT.k, .int .i64 wT.n, .string wT.s, .slice q11 wT.args.length c11] 33 (0, 0))) w11.heap.size (.cells #[.int .i64 wT.k, .int .i64 wT.n, .string wT.s, .slice q11 wT.args.length c11] 33 (0, 0))) := Lib.hid ⟨n12 _ (Nat.le_refl _) (by simp), hr12⟩
      have nwo : w11.heap.size ≠ ob := by omega
      have HWT := Lib.hid hwT
      clear hb12 hr12 l12 s12 n12 l11 s11 hi11 hi12 hol hR11 HR10 hwT
      go_upto_region 16 with fail
      generalize w11.alloc (.cells #[.int .i64 wT.k, .int .i64 wT.n, .string wT.s, .slice q11 wT.args.length c11] 33 (0, 0)) = w12 at *
      generalize w11.heap.size = tb at *
      obtain ⟨r, hr⟩ : ∃ r, r = uniR S2 false b a := ⟨_, rfl⟩
      obtain ⟨T, hT⟩ : ∃ T, T = uniW S2 false b a := ⟨_, rfl⟩
      have hun := un_Unify HR12.out.law HP2.out.inv b a hbS haS
      rw [← hr, ← hT] at hun
      have hext := uniW_ext HP2.out.inv (sf := false) hbS haS
      have hno : r ≠ some true → T = S2 := fun h => by rw [hT]; exact uni_other (by rw [← hr]; exact h)
      have hyes : r = some true → getT T b = getT T a ∧ getE T b = getE T a := fun h => by rw [hT]; exact alike_get (uni_alike HP2.out.inv hbS haS (by rw [← hr]; exact h))
      rw [← hT] at hext
      have hTp : b < T.cells.length := by rw [hext.len]; exact hbS
      have hTq : a < T.cells.length := by rw [hext.len]; exact haS
      have HTI := Lib.hid hext.inv
      have HNO := Lib.hid hno
      have HYES := Lib.hid hyes
      have HRR := Lib.hid hr
      clear hext hno hyes hr hT
      go_wp2_with fail
      refine hun.mono ?_
      rintro e13 w13 ⟨rfl, D13, l13, s13⟩
      have HR13 := Lib.hid (HR12.out.step l13 s13)
      have HW13 := Lib.hid (HW12.out.kept fun b hb _ => s13.blk b hb)
      have HRW13 := Lib.hid (HRW12.out.step s13)
      clear hun l13 s13 HR12 HW12 HRW12
      cases r with
      | none =>
        have hT := (HNO.out (by simp)).symm
        subst hT
        have hlb := HBON.out
        simp only [hasB, hasE]
        go_wp2_with fail
        refine (sto_Mark _ HR13.out.law.sto).mono ?_
        rintro e14 w14 ⟨rfl, rfl⟩
        rw [HBON.out]
        go_wp2
        go_ret
        exact ⟨by simp, HR13.out.law.bel⟩
      | some ok =>
      cases ok with
      | false =>
        have hT := (HNO.out (by simp)).symm
        subst hT
        simp only [hasB, hasE]
        have hor := RndAt.cells HR13.out
        obtain ⟨-, ⟨o0, o1⟩, fz0, fz1⟩ := hor
        have hkeep := HR13.out.keep (o := 1) (v := .bool false) (y0 := (hasB (uniR S2 false a b))) (y1 := false) (fun h => by rw [h]; rfl)
        have HK := Lib.hid hkeep
        clear hkeep
        go_wp2_with fail
        have hgo := HK.out.2
        have HR14 := Lib.hid HK.out.1
        have HW14 := Lib.hid (HW13.out.kept hgo)
        have HRW14 : Hid (RowF D13 (w13.setCell ⟨ob, 1, none⟩ (.bool false)) tb _) := Lib.hid ⟨(hgo tb HRW13.out.1 nwo).1, (hgo tb HRW13.out.1 nwo).2.trans HRW13.out.2⟩
        clear hgo HK HR13 HW13 HRW13 o0 o1 fz0 fz1
        generalize w13.setCell ⟨ob, 1, none⟩ (.bool false) = w14 at *
        refine (law_GetE HR14.out.law HTI.out b hTp).mono ?_
        rintro e15 w15 ⟨q15, c15, he15, l15, s15, hi15⟩
        obtain ⟨X, hX⟩ : ∃ X, X = getT S2 b := ⟨_, rfl⟩
        obtain ⟨EX, hEX⟩ : ∃ E, E = getE S2 b := ⟨_, rfl⟩
        rw [← hX, ← hEX] at he15
        rw [← hX] at hi15
        obtain rfl : e15 = .returned (.tuple #[.agg #[.int .i64 X.k, .int .i64 X.n, .string X.s, .slice q15 X.args.length c15], .int .i64 EX]) := he15
        have hb16 := below_new w15 (.cells #[.int .i64 X.k, .int .i64 X.n, .string X.s, .slice q15 X.args.length c15] 33 (0, 0))
        have hr16 := heap_alloc_new w15 (.cells #[.int .i64 X.k, .int .i64 X.n, .string X.s, .slice q15 X.args.length c15] 33 (0, 0))
        obtain ⟨l16, s16, n16⟩ := l15.below hb16
        have hR15 := HR14.out.step l15 s15
        have HR16 := Lib.hid (hR15.step l16 s16)
        have HW16 := Lib.hid ((HW14.out.kept fun b hb _ => s15.blk b hb).low.kept2 fun b hb => s16.blk b hb)
        have HRW16 := Lib.hid ((HRW14.out.step s15).step s16)
        have HX16 := Lib.hid ((((hi15.notrow hR15.oks.2).low.imp (P' := fun b => (Free D13 w15 b ∧ b ≠ ob) ∧ b < w15.heap.size) (fun b hb => ⟨⟨hb.1.1.1, hb.1.2⟩, hb.2⟩) fun _ _ _ => rfl)).kept2 fun b hb => s16.blk b hb)
        have HRX16 : Hid (RowF D13 (w15.alloc (.cells #[.int .i64 X.k, .int .i64 X.n, .string X.s, .slice q15 X.args.length c15] 33 (0, 0))) w15.heap.size _) := Lib.hid ⟨n16 _ (Nat.le_refl _) (by simp), hr16⟩
        have nxo : w15.heap.size ≠ ob ∧ w15.heap.size ≠ pb := ⟨by have := (Array.getElem?_eq_some_iff.1 hR15.oks.2).1; omega, by have := (Array.getElem?_eq_some_iff.1 hR15.box.2).1; omega⟩
        have nxt : tb < w15.heap.size := by have := HRW14.out.1.2; have := s15.size; omega
        have nxw : w.heap.size ≤ w15.heap.size := l15.bel.size
        have HEX := Lib.hid hEX
        have HXX := Lib.hid hX
        clear hb16 hr16 l16 s16 n16 l15 s15 hi15 hR15 hX hEX HR14 HW14 HRW14
        go_wp2_with fail
        generalize w15.alloc (.cells #[.int .i64 X.k, .int .i64 X.n, .string X.s, .slice q15 X.args.length c15] 33 (0, 0)) = w16 at *
        have hxl : w15.heap.size < w16.heap.size := HRX16.out.1.2
        generalize w15.heap.size = xb at *
        refine (law_GetE HR16.out.law HTI.out a hTq).mono ?_
        rintro e17 w17 ⟨q17, c17, he17, l17, s17, hi17⟩
        obtain ⟨Y, hY⟩ : ∃ X, X = getT S2 a := ⟨_, rfl⟩
        obtain ⟨EY, hEY⟩ : ∃ E, E = getE S2 a := ⟨_, rfl⟩
        rw [← hY, ← hEY] at he17
        rw [← hY] at hi17
        obtain rfl : e17 = .returned (.tuple #[.agg #[.int .i64 Y.k, .int .i64 Y.n, .string Y.s, .slice q17 Y.args.length c17], .int .i64 EY]) := he17
        have hb18 := below_new w17 (.cells #[.int .i64 Y.k, .int .i64 Y.n, .string Y.s, .slice q17 Y.args.length c17] 33 (0, 0))
        have hr18 := heap_alloc_new w17 (.cells #[.int .i64 Y.k, .int .i64 Y.n, .string Y.s, .slice q17 Y.args.length c17] 33 (0, 0))
        obtain ⟨l18, s18, n18⟩ := l17.below hb18
        have hR17 := HR16.out.step l17 s17
        have HR18 := Lib.hid (hR17.step l18 s18)
        have HW18 := Lib.hid ((HW16.out.kept3 fun b hb => s17.blk b hb).kept3 fun b hb => s18.blk b hb)
        have HRW18 := Lib.hid ((HRW16.out.step s17).step s18)
        have HX18 := Lib.hid ((HX16.out.kept3 fun b hb => s17.blk b hb).kept3 fun b hb => s18.blk b hb)
        have HRX18 := Lib.hid ((HRX16.out.step s17).step s18)
        have HY18 := Lib.hid (((hi17.notrow hR17.oks.2).low.imp (P' := fun b => Free D13 w17 b ∧ b ≠ ob ∧ xb < b ∧ b < w17.heap.size) (fun b hb => ⟨hb.1.1.1, hb.1.2, by have := hb.1.1.2; omega, hb.2⟩) fun _ _ _ => rfl).imp (P' := fun b => Free D13 (w17.alloc (.cells #[.int .i64 Y.k, .int .i64 Y.n, .string Y.s, .slice q17 Y.args.length c17] 33 (0, 0))) b ∧ b ≠ ob ∧ xb < b ∧ b < w17.heap.size) (fun b hb => ⟨(s18.blk b hb.1).1, hb.2⟩) fun b hb _ => (s18.blk b hb.1).2)
        have HRY18 : Hid (RowF D13 (w17.alloc (.cells #[.int .i64 Y.k, .int .i64 Y.n, .string Y.s, .slice q17 Y.args.length c17] 33 (0, 0))) w17.heap.size _) := Lib.hid ⟨n18 _ (Nat.le_refl _) (by simp), hr18⟩
        have nyo : w17.heap.size ≠ ob ∧ w17.heap.size ≠ pb := ⟨by have := (Array.getElem?_eq_some_iff.1 hR17.oks.2).1; omega, by have := (Array.getElem?_eq_some_iff.1 hR17.box.2).1; omega⟩
        have nyx : xb < w17.heap.size := by have := s17.size; omega
        have HEY := Lib.hid hEY
        have HYY := Lib.hid hY
        clear hb18 hr18 l18 s18 n18 l17 s17 hi17 hR17 hY hEY HR16 HW16 HRW16 HX16 HRX16 hxl
        go_upto_region 26 with fail
        generalize w17.alloc (.cells #[.int .i64 Y.k, .int .i64 Y.n, .string Y.s, .slice q17 Y.args.length c17] 33 (0, 0)) = w18 at *
        generalize w17.heap.size = yb at *
        have hyx : yb ≠ xb := by omega
        have hx0 : w18.heap[xb]? = _ := HRX18.out.2
        have hy0 : w18.heap[yb]? = _ := HRY18.out.2
        obtain ⟨u0, u1, u2, u3⟩ := row4 hx0
        obtain ⟨v0, v1, v2, v3⟩ := row4 hy0
        have hy1 := (setRow_other w18 xb yb #[.int .i64 Y.k, .int .i64 Y.n, .string Y.s, .slice q17 Y.args.length c17] hyx).trans hy0
        have hx1 := setRow_heap w18 xb _ #[.int .i64 Y.k, .int .i64 Y.n, .string Y.s, .slice q17 Y.args.length c17] _ _ hx0
        have HX0 := Lib.hid hx0
        have HY1 := Lib.hid hy1
        clear hx0 hy0
        go_upto_region 28 with (first
          | (with_reducible show wpList _ _ _ (⟨none, .store _ (.tmp 16) _, _, _, _, _⟩ :: _) _ _
             refine wpList_store_row rfl 33 (.tmp 16) (.tmp 102) rfl xb #[.int .i64 Y.k, .int .i64 Y.n, .string Y.s, .slice q17 Y.args.length c17] rfl rfl _ _ HX0.out size_term rfl (one4 _ _ _ _ _ _) ?_)
          | (with_reducible show wpList _ _ _ (⟨none, .store _ (.tmp 18) _, _, _, _, _⟩ :: _) _ _
             refine wpList_store_row rfl 33 (.tmp 18) (.tmp 103) rfl yb #[.int .i64 X.k, .int .i64 X.n, .string X.s, .slice q15 X.args.length c15] rfl rfl _ _ HY1.out size_term rfl (one4 _ _ _ _ _ _) ?_))
        have hx2 := (setRow_other (w18.setRow xb #[.int .i64 Y.k, .int .i64 Y.n, .string Y.s, .slice q17 Y.args.length c17]) yb xb #[.int .i64 X.k, .int .i64 X.n, .string X.s, .slice q15 X.args.length c15] (Ne.symm hyx)).trans hx1
        have hy2 := setRow_heap _ yb _ #[.int .i64 X.k, .int .i64 X.n, .string X.s, .slice q15 X.args.length c15] _ _ HY1.out
        have hks : ∀ z, z ≠ xb → z ≠ yb → ((w18.setRow xb #[.int .i64 Y.k, .int .i64 Y.n, .string Y.s, .slice q17 Y.args.length c17]).setRow yb #[.int .i64 X.k, .int .i64 X.n, .string X.s, .slice q15 X.args.length c15]).heap[z]? = w18.heap[z]? := fun z h1 h2 => (setRow_other _ yb z _ h2).trans (setRow_other _ xb z _ h1)
        have hR19 := (HR18.out.set HRX18.out.1 nxw (Ne.symm nxo.2) (Ne.symm nxo.1) #[.int .i64 Y.k, .int .i64 Y.n, .string Y.s, .slice q17 Y.args.length c17]).set (r := yb) ⟨HRY18.out.1.1, by have := HRY18.out.1.2; simpa [World.setRow] using this⟩ (by omega) (Ne.symm nyo.2) (Ne.symm nyo.1) #[.int .i64 X.k, .int .i64 X.n, .string X.s, .slice q15 X.args.length c15]
        have HX19 := Lib.hid (HX18.out.imp (P' := fun _ => True) (fun _ _ => trivial) fun z hz _ => hks z (by omega) (by omega))
        have HY19 := Lib.hid (HY18.out.imp (P' := fun _ => True) (fun _ _ => trivial) fun z hz _ => hks z (by omega) (by omega))
        have HW19 := Lib.hid (HW18.out.imp (P' := fun _ => True) (fun _ _ => trivial) fun z hz _ => hks z (by omega) (by omega))
        have ht2 := (hks tb (by omega) (by omega)).trans HRW18.out.2
        have HR19 := Lib.hid hR19
        clear u0 u1 u2 u3 v0 v1 v2 v3 hx1 hy1 hks hR19 HR18 HRX18 HRY18 HX18 HY18 HW18 HRW18 HX0 HY1
        generalize (w18.setRow xb #[.int .i64 Y.k, .int .i64 Y.n, .string Y.s, .slice q17 Y.args.length c17]).setRow yb #[.int .i64 X.k, .int .i64 X.n, .string X.s, .slice q15 X.args.length c15] = w19 at *
        obtain ⟨u0, u1, u2, u3⟩ := row4 hx2
        obtain ⟨v0, v1, v2, v3⟩ := row4 hy2
        obtain ⟨t0, t1, t2, t3⟩ := row4 ht2
        clear hx2 hy2 ht2
        have hX1 : Y = wT := by rw [HYY.out, HWT.out]
        subst hX1
        go_wp2_with fail
        refine (sto_Mark _ HR19.out.law.sto).mono ?_
        rintro e19 w19' ⟨rfl, rfl⟩
        rw [HBON.out]
        go_wp2_with fail
        have hsz : Y.size ≤ 1000000000 := by have := getT_size S2 a; rw [HYY.out]; omega
        refine (ref_same Y.size Y Y _ _ _ _ _ (Nat.le_refl _) hsz HY19.out HW19.out).mono ?_
        rintro e20 w20 ⟨rfl, hb20⟩
        rw [sameT_refl]
        have HR20 := Lib.hid (HR19.out.below hb20)
        clear hb20 u0 u1 u2 u3 v0 v1 v2 v3 t0 t1 t2 t3
        have hrel : SmRel9 w pb ob (.slice a1 A.length c1) (.slice a2 B.length c2) (uniR S2 false a b) (uniR S2 false b a) (.int .i64 ((2 : Nat) : Int)) w20 := by
          unfold SmRel9
          rw [← HRR.out]
          exact .inr (.inr ⟨rfl, HR0.out, by simp, HR20.out.end_⟩)
        have HREL := Lib.hid hrel
        clear hrel
        go_wp2
        go_roundw
        case measure => simp [intOf]
        case rel => exact HREL.out
      | true =>
        simp only [hasB, hasE]
        have hor := RndAt.cells HR13.out
        obtain ⟨-, ⟨o0, o1⟩, fz0, fz1⟩ := hor
        have hkeep := HR13.out.keep (o := 1) (v := .bool true) (y0 := (hasB (uniR S2 false a b))) (y1 := true) (fun h => by rw [h]; rfl)
        have HK := Lib.hid hkeep
        clear hkeep
        go_wp2_with fail
        have hgo := HK.out.2
        have HR14 := Lib.hid HK.out.1
        have HW14 := Lib.hid (HW13.out.kept hgo)
        have HRW14 : Hid (RowF D13 (w13.setCell ⟨ob, 1, none⟩ (.bool true)) tb _) := Lib.hid ⟨(hgo tb HRW13.out.1 nwo).1, (hgo tb HRW13.out.1 nwo).2.trans HRW13.out.2⟩
        clear hgo HK HR13 HW13 HRW13 o0 o1 fz0 fz1
        generalize w13.setCell ⟨ob, 1, none⟩ (.bool true) = w14 at *
        refine (law_GetE HR14.out.law HTI.out b hTp).mono ?_
        rintro e15 w15 ⟨q15, c15, he15, l15, s15, hi15⟩
        obtain ⟨X, hX⟩ : ∃ X, X = getT T b := ⟨_, rfl⟩
        obtain ⟨EX, hEX⟩ : ∃ E, E = getE T b := ⟨_, rfl⟩
        rw [← hX, ← hEX] at he15
        rw [← hX] at hi15
        obtain rfl : e15 = .returned (.tuple #[.agg #[.int .i64 X.k, .int .i64 X.n, .string X.s, .slice q15 X.args.length c15], .int .i64 EX]) := he15
        have hb16 := below_new w15 (.cells #[.int .i64 X.k, .int .i64 X.n, .string X.s, .slice q15 X.args.length c15] 33 (0, 0))
        have hr16 := heap_alloc_new w15 (.cells #[.int .i64 X.k, .int .i64 X.n, .string X.s, .slice q15 X.args.length c15] 33 (0, 0))
        obtain ⟨l16, s16, n16⟩ := l15.below hb16
        have hR15 := HR14.out.step l15 s15
        have HR16 := Lib.hid (hR15.step l16 s16)
        have HW16 := Lib.hid ((HW14.out.kept fun b hb _ => s15.blk b hb).low.kept2 fun b hb => s16.blk b hb)
        have HRW16 := Lib.hid ((HRW14.out.step s15).step s16)
        have HX16 := Lib.hid ((((hi15.notrow hR15.oks.2).low.imp (P' := fun b => (Free D13 w15 b ∧ b ≠ ob) ∧ b < w15.heap.size) (fun b hb => ⟨⟨hb.1.1.1, hb.1.2⟩, hb.2⟩) fun _ _ _ => rfl)).kept2 fun b hb => s16.blk b hb)
        have HRX16 : Hid (RowF D13 (w15.alloc (.cells #[.int .i64 X.k, .int .i64 X.n, .string X.s, .slice q15 X.args.length c15] 33 (0, 0))) w15.heap.size _) := Lib.hid ⟨n16 _ (Nat.le_refl _) (by simp), hr16⟩
        have nxo : w15.heap.size ≠ ob ∧ w15.heap.size ≠ pb := ⟨by have := (Array.getElem?_eq_some_iff.1 hR15.oks.2).1; omega, by have := (Array.getElem?_eq_some_iff.1 hR15.box.2).1; omega⟩
        have nxt : tb < w15.heap.size := by have := HRW14.out.1.2; have := s15.size; omega
        have nxw : w.heap.size ≤ w15.heap.size := l15.bel.size
        have HEX := Lib.hid hEX
        have HXX := Lib.hid hX
        clear hb16 hr16 l16 s16 n16 l15 s15 hi15 hR15 hX hEX HR14 HW14 HRW14
        go_wp2_with fail
        generalize w15.alloc (.cells #[.int .i64 X.k, .int .i64 X.n, .string X.s, .slice q15 X.args.length c15] 33 (0, 0)) = w16 at *
        have hxl : w15.heap.size < w16.heap.size := HRX16.out.1.2
        generalize w15.heap.size = xb at *
        refine (law_GetE HR16.out.law HTI.out a hTq).mono ?_
        rintro e17 w17 ⟨q17, c17, he17, l17, s17, hi17⟩
        obtain ⟨Y, hY⟩ : ∃ X, X = getT T a := ⟨_, rfl⟩
        obtain ⟨EY, hEY⟩ : ∃ E, E = getE T a := ⟨_, rfl⟩
        rw [← hY, ← hEY] at he17
        rw [← hY] at hi17
        obtain rfl : e17 = .returned (.tuple #[.agg #[.int .i64 Y.k, .int .i64 Y.n, .string Y.s, .slice q17 Y.args.length c17], .int .i64 EY]) := he17
        have hb18 := below_new w17 (.cells #[.int .i64 Y.k, .int .i64 Y.n, .string Y.s, .slice q17 Y.args.length c17] 33 (0, 0))
        have hr18 := heap_alloc_new w17 (.cells #[.int .i64 Y.k, .int .i64 Y.n, .string Y.s, .slice q17 Y.args.length c17] 33 (0, 0))
        obtain ⟨l18, s18, n18⟩ := l17.below hb18
        have hR17 := HR16.out.step l17 s17
        have HR18 := Lib.hid (hR17.step l18 s18)
        have HW18 := Lib.hid ((HW16.out.kept3 fun b hb => s17.blk b hb).kept3 fun b hb => s18.blk b hb)
        have HRW18 := Lib.hid ((HRW16.out.step s17).step s18)
        have HX18 := Lib.hid ((HX16.out.kept3 fun b hb => s17.blk b hb).kept3 fun b hb => s18.blk b hb)
        have HRX18 := Lib.hid ((HRX16.out.step s17).step s18)
        have HY18 := Lib.hid (((hi17.notrow hR17.oks.2).low.imp (P' := fun b => Free D13 w17 b ∧ b ≠ ob ∧ xb < b ∧ b < w17.heap.size) (fun b hb => ⟨hb.1.1.1, hb.1.2, by have := hb.1.1.2; omega, hb.2⟩) fun _ _ _ => rfl).imp (P' := fun b => Free D13 (w17.alloc (.cells #[.int .i64 Y.k, .int .i64 Y.n, .string Y.s, .slice q17 Y.args.length c17] 33 (0, 0))) b ∧ b ≠ ob ∧ xb < b ∧ b < w17.heap.size) (fun b hb => ⟨(s18.blk b hb.1).1, hb.2⟩) fun b hb _ => (s18.blk b hb.1).2)
        have HRY18 : Hid (RowF D13 (w17.alloc (.cells #[.int .i64 Y.k, .int .i64 Y.n, .string Y.s, .slice q17 Y.args.length c17] 33 (0, 0))) w17.heap.size _) := Lib.hid ⟨n18 _ (Nat.le_refl _) (by simp), hr18⟩
        have nyo : w17.heap.size ≠ ob ∧ w17.heap.size ≠ pb := ⟨by have := (Array.getElem?_eq_some_iff.1 hR17.oks.2).1; omega, by have := (Array.getElem?_eq_some_iff.1 hR17.box.2).1; omega⟩
        have nyx : xb < w17.heap.size := by have := s17.size; omega
        have HEY := Lib.hid hEY
        have HYY := Lib.hid hY
        clear hb18 hr18 l18 s18 n18 l17 s17 hi17 hR17 hY hEY HR16 HW16 HRW16 HX16 HRX16 hxl
        go_upto_region 26 with fail
        generalize w17.alloc (.cells #[.int .i64 Y.k, .int .i64 Y.n, .string Y.s, .slice q17 Y.args.length c17] 33 (0, 0)) = w18 at *
        generalize w17.heap.size = yb at *
        have hyx : yb ≠ xb := by omega
        have hx0 : w18.heap[xb]? = _ := HRX18.out.2
        have hy0 : w18.heap[yb]? = _ := HRY18.out.2
        obtain ⟨u0, u1, u2, u3⟩ := row4 hx0
        obtain ⟨v0, v1, v2, v3⟩ := row4 hy0
        have hy1 := (setRow_other w18 xb yb #[.int .i64 Y.k, .int .i64 Y.n, .string Y.s, .slice q17 Y.args.length c17] hyx).trans hy0
        have hx1 := setRow_heap w18 xb _ #[.int .i64 Y.k, .int .i64 Y.n, .string Y.s, .slice q17 Y.args.length c17] _ _ hx0
        have HX0 := Lib.hid hx0
        have HY1 := Lib.hid hy1
        clear hx0 hy0
        go_upto_region 28 with (first
          | (with_reducible show wpList _ _ _ (⟨none, .store _ (.tmp 16) _, _, _, _, _⟩ :: _) _ _
             refine wpList_store_row rfl 33 (.tmp 16) (.tmp 102) rfl xb #[.int .i64 Y.k, .int .i64 Y.n, .string Y.s, .slice q17 Y.args.length c17] rfl rfl _ _ HX0.out size_term rfl (one4 _ _ _ _ _ _) ?_)
          | (with_reducible show wpList _ _ _ (⟨none, .store _ (.tmp 18) _, _, _, _, _⟩ :: _) _ _
             refine wpList_store_row rfl 33 (.tmp 18) (.tmp 103) rfl yb #[.int .i64 X.k, .int .i64 X.n, .string X.s, .slice q15 X.args.length c15] rfl rfl _ _ HY1.out size_term rfl (one4 _ _ _ _ _ _) ?_))
        have hx2 := (setRow_other (w18.setRow xb #[.int .i64 Y.k, .int .i64 Y.n, .string Y.s, .slice q17 Y.args.length c17]) yb xb #[.int .i64 X.k, .int .i64 X.n, .string X.s, .slice q15 X.args.length c15] (Ne.symm hyx)).trans hx1
        have hy2 := setRow_heap _ yb _ #[.int .i64 X.k, .int .i64 X.n, .string X.s, .slice q15 X.args.length c15] _ _ HY1.out
        have hks : ∀ z, z ≠ xb → z ≠ yb → ((w18.setRow xb #[.int .i64 Y.k, .int .i64 Y.n, .string Y.s, .slice q17 Y.args.length c17]).setRow yb #[.int .i64 X.k, .int .i64 X.n, .string X.s, .slice q15 X.args.length c15]).heap[z]? = w18.heap[z]? := fun z h1 h2 => (setRow_other _ yb z _ h2).trans (setRow_other _ xb z _ h1)
        have hR19 := (HR18.out.set HRX18.out.1 nxw (Ne.symm nxo.2) (Ne.symm nxo.1) #[.int .i64 Y.k, .int .i64 Y.n, .string Y.s, .slice q17 Y.args.length c17]).set (r := yb) ⟨HRY18.out.1.1, by have := HRY18.out.1.2; simpa [World.setRow] using this⟩ (by omega) (Ne.symm nyo.2) (Ne.symm nyo.1) #[.int .i64 X.k, .int .i64 X.n, .string X.s, .slice q15 X.args.length c15]
        have HX19 := Lib.hid (HX18.out.imp (P' := fun _ => True) (fun _ _ => trivial) fun z hz _ => hks z (by omega) (by omega))
        have HY19 := Lib.hid (HY18.out.imp (P' := fun _ => True) (fun _ _ => trivial) fun z hz _ => hks z (by omega) (by omega))
        have HW19 := Lib.hid (HW18.out.imp (P' := fun _ => True) (fun _ _ => trivial) fun z hz _ => hks z (by omega) (by omega))
        have ht2 := (hks tb (by omega) (by omega)).trans HRW18.out.2
        have HR19 := Lib.hid hR19
        clear u0 u1 u2 u3 v0 v1 v2 v3 hx1 hy1 hks hR19 HR18 HRX18 HRY18 HX18 HY18 HW18 HRW18 HX0 HY1
        generalize (w18.setRow xb #[.int .i64 Y.k, .int .i64 Y.n, .string Y.s, .slice q17 Y.args.length c17]).setRow yb #[.int .i64 X.k, .int .i64 X.n, .string X.s, .slice q15 X.args.length c15] = w19 at *
        obtain ⟨u0, u1, u2, u3⟩ := row4 hx2
        obtain ⟨v0, v1, v2, v3⟩ := row4 hy2
        obtain ⟨t0, t1, t2, t3⟩ := row4 ht2
        clear hx2 hy2 ht2
        obtain ⟨hxy, hee⟩ := HYES.out (by first | rfl | trivial)
        have hX1 : Y = X := by rw [HYY.out, HXX.out, hxy]
        have hE1 : EY = EX := by rw [HEY.out, HEX.out, hee]
        subst hX1 hE1
        have hbe : (EY != EY) = false := by simp
        clear hxy hee
        go_wp2_with fail
        have hsz : Y.size ≤ 1000000000 := by have := getT_size T b; rw [HXX.out]; omega
        refine (ref_same Y.size Y Y _ _ _ _ _ (Nat.le_refl _) hsz HY19.out HX19.out).mono ?_
        rintro e20 w20 ⟨rfl, hb20⟩
        rw [sameT_refl]
        have HR20 := Lib.hid (HR19.out.below hb20)
        clear hb20 u0 u1 u2 u3 v0 v1 v2 v3 t0 t1 t2 t3
        have hrel : SmRel9 w pb ob (.slice a1 A.length c1) (.slice a2 B.length c2) (uniR S2 false a b) (uniR S2 false b a) (.int .i64 ((2 : Nat) : Int)) w20 := by
          unfold SmRel9
          rw [← HRR.out]
          exact .inr (.inr ⟨rfl, HR0.out, by simp, HR20.out.end_⟩)
        have HREL := Lib.hid hrel
        clear hrel
        go_wp2
        go_roundw
        case measure => simp [intOf]
        case rel => exact HREL.out
    · have b1 : decide (((2 : Nat) : Int) < 2) = false := by simp
      have HAT := Lib.hid hat
      have hw := uni_ways HP2.out.inv (a := a) (b := b) (by have := HP1.out.lt; have := HP2.out.le.1; omega) HP2.out.lt hr0 hr1
      have z0 := cell_of_row wr ob 0 _ _ _ hat.oks
      have z1 := cell_of_row wr ob 1 _ _ _ hat.oks
      simp only [List.getElem?_toArray, List.getElem?_cons_zero, List.getElem?_cons_succ] at z0 z1
      rw [← hw] at z1
      generalize hasB (uniR S2 false a b) = x at *
      have b3 : (x == x) = true := by simp
      clear hat hr0 hr1 hw
      go_wp2
      go_ret
      exact ⟨by simp, HAT.out.bel⟩
end Go.Proofs.Ytoklbeogmcdgaaa.Tms
