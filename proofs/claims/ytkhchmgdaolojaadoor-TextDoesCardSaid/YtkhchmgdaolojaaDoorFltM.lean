
/-
  fault.words and fault.Formal walked over the program, and the reference's Formal.
-/
import Derived.Test.YtkhchmgdaolojaaDoorOwnW
import Derived.Test.YtkhchmgdaolojaaDoorBas
import Derived.Test.YtkhchmgdaolojaaDoorTs
import Derived.Test.YtkhchmgdaolojaaDoorGnb
import Derived.Test.YtkhchmgdaolojaaDoorFlt
namespace Go.Proofs.YtkhchmgdaolojaaDoor.Tms
open Go Go.RowKit Go.Proofs.YtkhchmgdaolojaaDoor.Reg Go.Proofs.YtkhchmgdaolojaaDoor.Maps
set_option maxRecDepth 100000 in
theorem flt_words (w : World) : Calls Tryd.prog 71 #[] w (fun e w' => ∃ b, e = .returned (.map (some b)) ∧ w.heap.size ≤ b ∧ w'.heap[b]? = some (.map wordEntries 7) ∧ Below w.heap.size w w') := by
  go_enter Tryd.func71, Tryd.ntmps71
  go_wp2_with (first
    | (refine wpList_map_start rfl 101 rfl w (Below.refl _ _) ?_
       intro b w1 h1
       have HF := Lib.hid h1
       clear h1)
    | (refine wpList_map_fill rfl 101 (.tmp 1) _ _ rfl _ _ _ Tryd.underlying101 Tryd.underlying36 rfl w _ _ _ rfl HF.out rfl ?_
       intro w1 h1
       replace HF := Lib.hid h1
       clear h1))
  go_ret
  exact ⟨b, rfl, HF.out.low, HF.out.at_, HF.out.bel⟩
theorem FmCtx.start (w : World) (n f : ByteArray) (wh wi : Bool) (P : Nat → Prop) (t : Tm) (a : Option Addr) (cap : Nat) (h : IsTm w (fun b => P b ∧ b < w.heap.size) (.agg #[.int .i64 t.k, .int .i64 t.n, .string t.s, .slice a t.args.length cap]) t) (w1 : World)
    (hb : Below ((w.alloc (.cells #[.int .i64 t.k, .int .i64 t.n, .string t.s, .slice a t.args.length cap] 28 (0, 0))).alloc (.cells #[.int .i64 0, .int .i64 0, .string ⟨#[]⟩, .slice none 0 0] 28 (0, 0))).heap.size
      ((w.alloc (.cells #[.int .i64 t.k, .int .i64 t.n, .string t.s, .slice a t.args.length cap] 28 (0, 0))).alloc (.cells #[.int .i64 0, .int .i64 0, .string ⟨#[]⟩, .slice none 0 0] 28 (0, 0))) w1) :
    FmCtx w n f wh wi P t a cap w1.heap.size (w1.heap.size + 1) (w1.alloc (.cells #[.string n, .string f, .bool wh, .bool wi] 99 (0, 0))) := by
  obtain ⟨t0, t1, tsz, tbl⟩ := two w (.cells #[.int .i64 t.k, .int .i64 t.n, .string t.s, .slice a t.args.length cap] 28 (0, 0)) (.cells #[.int .i64 0, .int .i64 0, .string ⟨#[]⟩, .slice none 0 0] 28 (0, 0))
  generalize (w.alloc (.cells #[.int .i64 t.k, .int .i64 t.n, .string t.s, .slice a t.args.length cap] 28 (0, 0))).alloc (.cells #[.int .i64 0, .int .i64 0, .string ⟨#[]⟩, .slice none 0 0] 28 (0, 0)) = w0 at *
  have hs := hb.size
  have hz : Below w1.heap.size w1 (w1.alloc (.cells #[.string n, .string f, .bool wh, .bool wi] 99 (0, 0))) := (Below.refl _ _).alloc (Nat.le_refl _) _
  have hall : Below w.heap.size w (w1.alloc (.cells #[.string n, .string f, .bool wh, .bool wi] 99 (0, 0))) := tbl.trans ((hb.mono (by omega)).trans (hz.mono (by omega)))
  have r := row4 (heap_alloc_new w1 (.cells #[.string n, .string f, .bool wh, .bool wi] 99 (0, 0)))
  have r0 := row4 ((hz.block _ (by omega)).trans ((hb.block w.heap.size (by omega)).trans t0))
  exact ⟨r, r0, (hz.block _ (by omega)).trans ((hb.block _ (by omega)).trans t1), h.imp (fun _ h => h) fun b h hlt => hall.block b hlt, hall, by omega, by omega, by simp⟩


set_option maxHeartbeats 1600000 in
theorem flt_formal_two (e : Int) (n f : ByteArray) (idx : Nat) (hf : f.toList.isEmpty = true) (hfind : Instr.findNow (.int .i64) (.int .i64 e) wordEntries.toList 0 = some (some (idx, wordV n f true true))) (what : ByteArray) (t : Tm) (v : Value) (P : Nat → Prop) (w : World) (hM : t.size ≤ 1000000000) (h : IsTm w P v t) :
    Calls Tryd.prog 61 #[.int .i64 e, .string what, v] w (MakesTm P (compT n [atomT what, t]) w) := by
  have hl := h.lt
  clear h
  obtain ⟨a, cap, rfl⟩ := hl.form
  have HL := Lib.hid hl
  clear hl
  have HFI := Lib.hid hfind
  clear hfind
  go_enter Tryd.func61, Tryd.ntmps61
  go_wp2_with (first
    | (go_at_call 71
       refine (flt_words _).mono ?_
       rintro e1 w1 ⟨b, rfl, -, hm, hbel⟩
       have HM := Lib.hid hm
       have HCX := Lib.hid (FmCtx.start w n f true true P t a cap HL.out w1 hbel)
       have OWN : Hid (OwnSl (w1.alloc (.cells #[.string n, .string f, .bool true, .bool true] 99 (0, 0))) (w1.heap.size + 1) (fun b => (P b ∧ b < w.heap.size) ∨ w1.heap.size + 1 ≤ b) (.slice none 0 0) []) := Lib.hid (OwnSl.nil _ _ _)
       clear hm hbel)
    | (refine wpList_lookup_now rfl 101 (.tmp 11) (.tmp 12) rfl _ _ _ Tryd.underlying101 Tryd.underlying36 rfl b _ _ rfl HM.out _ HFI.out (wordV ⟨#[]⟩ ⟨#[]⟩ false false) (fun _ => by kernel_rfl) ?_
       clear HFI HM)
    | (go_at_call 72
       refine (flt_atom _ _).mono ?_
       rintro e2 w2 ⟨rfl, hb2⟩
       have hcx := HCX.out.on (hb2.mono HCX.out.low.2.2)
       have hown := OWN.out.below hb2
       replace HCX := Lib.hid hcx
       replace OWN := Lib.hid hown
       have hit := fun Q s => atom_is w2 Q s
       have HIT := Lib.hid hit
       obtain ⟨⟨k0, k1, k2, k3⟩, ⟨k4, k5, k6, k7⟩, -, -, -, -⟩ := hcx
       clear hb2 hown hit)
    | (go_at_call 73
       refine (flt_own t _ _ _ hM HCX.out.it).mono ?_
       rintro e2 w2 ⟨v2, rfl, hi2, hb2⟩
       obtain ⟨a2, c2, rfl⟩ := hi2.form
       have hcx := HCX.out.on (hb2.mono HCX.out.low.2.2)
       have hown := OWN.out.below hb2
       have hit := hi2.imp (P' := fun b => ((P b ∧ b < w.heap.size) ∨ w1.heap.size + 1 ≤ b) ∧ Value.ownBlock (.slice a6 1 c6) ≠ some b) (fun b h => ⟨h.elim .inl fun h => .inr (Nat.le_trans HCX.out.low.2.2 h), fun e => by
         have h1 := OWN.out.low b e
         have h2 := HCX.out.low
         rcases h with h | h
         · have := h.2; omega
         · omega⟩) fun _ _ _ => rfl
       replace HCX := Lib.hid hcx
       replace OWN := Lib.hid hown
       have HIO := Lib.hid hit
       obtain ⟨⟨k0, k1, k2, k3⟩, ⟨k4, k5, k6, k7⟩, -, -, -, -⟩ := hcx
       clear hb2 hown hi2 hit)
    | (with_reducible show wpList _ _ _ (⟨some 34, _, _, _, _, _⟩ :: _) _ _; refine wpList_push_term rfl (.tmp 30) (.tmp 33) rfl (w1.heap.size + 1) _ _ _ _ _ _ _ _ _ rfl OWN.out rfl rfl (HIT.out _ _) (by simp) HCX.out.low.2.2 ?_
       intro v6 w6 hown hb6 _ _
       obtain ⟨a6, c6, rfl⟩ := hown.form
       have hcx := HCX.out.on hb6
       replace HCX := Lib.hid hcx
       replace OWN := Lib.hid hown
       obtain ⟨⟨k0, k1, k2, k3⟩, ⟨k4, k5, k6, k7⟩, -, -, -, -⟩ := hcx
       clear hb6 hown)
    | (with_reducible show wpList _ _ _ (⟨some 41, _, _, _, _, _⟩ :: _) _ _; refine wpList_push_term rfl (.tmp 37) (.tmp 40) rfl (w1.heap.size + 1) _ _ _ _ _ _ _ _ _ rfl OWN.out rfl rfl HIO.out (by simp) HCX.out.low.2.2 ?_
       intro v7 w7 hown hb7 _ _
       obtain ⟨a7, c7, rfl⟩ := hown.form
       have hcx := HCX.out.on hb7
       replace HCX := Lib.hid hcx
       replace OWN := Lib.hid hown
       obtain ⟨⟨k0, k1, k2, k3⟩, ⟨k4, k5, k6, k7⟩, -, -, -, -⟩ := hcx
       clear hb7 hown)
    | (go_at_call 74
       refine (flt_comp _ _ _ _ _).mono ?_
       rintro e2 w2 ⟨rfl, hb2⟩
       have hcx := HCX.out.on (hb2.mono HCX.out.low.2.2)
       have hown := OWN.out.below hb2
       replace HCX := Lib.hid hcx
       replace OWN := Lib.hid hown
       clear hb2 hown hcx)
    | (refine wpList_store_row rfl 28 (.tmp 6) (.tmp 51) rfl (w.heap.size + 1) _ rfl rfl _ _ HCX.out.res size_term rfl (one4 _ _ _ _ _ _) ?_))
  have hr : IsSl w2 (fun b => (P b ∧ b < w.heap.size) ∨ w1.heap.size + 1 ≤ b) (.slice a7 2 c7) [atomT what, t] := OWN.out.reads.imp (fun b h => h.elim id .inr) fun _ _ _ => rfl
  have hz := setRow_heap w2 (w.heap.size + 1) _ (#[.int .i64 4, .int .i64 0, .string n, .slice a7 2 c7] : Array Value) _ _ HCX.out.res
  refine bodyPost_ret (v := compV n a7 2 c7) (results_cell_row Tryd.results61 _ _ (w.heap.size + 1) _ _ _ _ rfl hz Tryd.underlying28 rfl (by kernel_rfl)) rfl (makes_at (comp_is (l := [atomT what, t]) hr) HCX.out.bel (Nat.le_succ _) (Nat.lt_trans HCX.out.low.1 HCX.out.low.2.1))

set_option maxHeartbeats 1600000 in
theorem flt_formal_what (e : Int) (n f : ByteArray) (idx : Nat) (hf : f.toList.isEmpty = true) (hfind : Instr.findNow (.int .i64) (.int .i64 e) wordEntries.toList 0 = some (some (idx, wordV n f true false))) (what : ByteArray) (t : Tm) (v : Value) (P : Nat → Prop) (w : World) (_hM : t.size ≤ 1000000000) (h : IsTm w P v t) :
    Calls Tryd.prog 61 #[.int .i64 e, .string what, v] w (MakesTm P (compT n [atomT what]) w) := by
  have hl := h.lt
  clear h
  obtain ⟨a, cap, rfl⟩ := hl.form
  have HL := Lib.hid hl
  clear hl
  have HFI := Lib.hid hfind
  clear hfind
  go_enter Tryd.func61, Tryd.ntmps61
  go_wp2_with (first
    | (go_at_call 71
       refine (flt_words _).mono ?_
       rintro e1 w1 ⟨b, rfl, -, hm, hbel⟩
       have HM := Lib.hid hm
       have HCX := Lib.hid (FmCtx.start w n f true false P t a cap HL.out w1 hbel)
       have OWN : Hid (OwnSl (w1.alloc (.cells #[.string n, .string f, .bool true, .bool false] 99 (0, 0))) (w1.heap.size + 1) (fun b => (P b ∧ b < w.heap.size) ∨ w1.heap.size + 1 ≤ b) (.slice none 0 0) []) := Lib.hid (OwnSl.nil _ _ _)
       clear hm hbel)
    | (refine wpList_lookup_now rfl 101 (.tmp 11) (.tmp 12) rfl _ _ _ Tryd.underlying101 Tryd.underlying36 rfl b _ _ rfl HM.out _ HFI.out (wordV ⟨#[]⟩ ⟨#[]⟩ false false) (fun _ => by kernel_rfl) ?_
       clear HFI HM)
    | (go_at_call 72
       refine (flt_atom _ _).mono ?_
       rintro e2 w2 ⟨rfl, hb2⟩
       have hcx := HCX.out.on (hb2.mono HCX.out.low.2.2)
       have hown := OWN.out.below hb2
       replace HCX := Lib.hid hcx
       replace OWN := Lib.hid hown
       have hit := fun Q s => atom_is w2 Q s
       have HIT := Lib.hid hit
       obtain ⟨⟨k0, k1, k2, k3⟩, ⟨k4, k5, k6, k7⟩, -, -, -, -⟩ := hcx
       clear hb2 hown hit)
    | (with_reducible show wpList _ _ _ (⟨some 34, _, _, _, _, _⟩ :: _) _ _; refine wpList_push_term rfl (.tmp 30) (.tmp 33) rfl (w1.heap.size + 1) _ _ _ _ _ _ _ _ _ rfl OWN.out rfl rfl (HIT.out _ _) (by simp) HCX.out.low.2.2 ?_
       intro v6 w6 hown hb6 _ _
       obtain ⟨a6, c6, rfl⟩ := hown.form
       have hcx := HCX.out.on hb6
       replace HCX := Lib.hid hcx
       replace OWN := Lib.hid hown
       obtain ⟨⟨k0, k1, k2, k3⟩, ⟨k4, k5, k6, k7⟩, -, -, -, -⟩ := hcx
       clear hb6 hown)
    | (go_at_call 74
       refine (flt_comp _ _ _ _ _).mono ?_
       rintro e2 w2 ⟨rfl, hb2⟩
       have hcx := HCX.out.on (hb2.mono HCX.out.low.2.2)
       have hown := OWN.out.below hb2
       replace HCX := Lib.hid hcx
       replace OWN := Lib.hid hown
       clear hb2 hown hcx)
    | (refine wpList_store_row rfl 28 (.tmp 6) (.tmp 51) rfl (w.heap.size + 1) _ rfl rfl _ _ HCX.out.res size_term rfl (one4 _ _ _ _ _ _) ?_))
  have hr : IsSl w2 (fun b => (P b ∧ b < w.heap.size) ∨ w1.heap.size + 1 ≤ b) (.slice a6 1 c6) [atomT what] := OWN.out.reads.imp (fun b h => h.elim id .inr) fun _ _ _ => rfl
  have hz := setRow_heap w2 (w.heap.size + 1) _ (#[.int .i64 4, .int .i64 0, .string n, .slice a6 1 c6] : Array Value) _ _ HCX.out.res
  refine bodyPost_ret (v := compV n a6 1 c6) (results_cell_row Tryd.results61 _ _ (w.heap.size + 1) _ _ _ _ rfl hz Tryd.underlying28 rfl (by kernel_rfl)) rfl (makes_at (comp_is (l := [atomT what]) hr) HCX.out.bel (Nat.le_succ _) (Nat.lt_trans HCX.out.low.1 HCX.out.low.2.1))

set_option maxHeartbeats 1600000 in
theorem flt_formal_fixed (e : Int) (n f : ByteArray) (idx : Nat) (hf : f.toList.isEmpty = false) (hfind : Instr.findNow (.int .i64) (.int .i64 e) wordEntries.toList 0 = some (some (idx, wordV n f false false))) (what : ByteArray) (t : Tm) (v : Value) (P : Nat → Prop) (w : World) (_hM : t.size ≤ 1000000000) (h : IsTm w P v t) :
    Calls Tryd.prog 61 #[.int .i64 e, .string what, v] w (MakesTm P (compT n [atomT f]) w) := by
  have hl := h.lt
  clear h
  obtain ⟨a, cap, rfl⟩ := hl.form
  have HL := Lib.hid hl
  clear hl
  have HFI := Lib.hid hfind
  clear hfind
  go_enter Tryd.func61, Tryd.ntmps61
  go_wp2_with (first
    | (go_at_call 71
       refine (flt_words _).mono ?_
       rintro e1 w1 ⟨b, rfl, -, hm, hbel⟩
       have HM := Lib.hid hm
       have HCX := Lib.hid (FmCtx.start w n f false false P t a cap HL.out w1 hbel)
       have OWN : Hid (OwnSl (w1.alloc (.cells #[.string n, .string f, .bool false, .bool false] 99 (0, 0))) (w1.heap.size + 1) (fun b => (P b ∧ b < w.heap.size) ∨ w1.heap.size + 1 ≤ b) (.slice none 0 0) []) := Lib.hid (OwnSl.nil _ _ _)
       clear hm hbel)
    | (refine wpList_lookup_now rfl 101 (.tmp 11) (.tmp 12) rfl _ _ _ Tryd.underlying101 Tryd.underlying36 rfl b _ _ rfl HM.out _ HFI.out (wordV ⟨#[]⟩ ⟨#[]⟩ false false) (fun _ => by kernel_rfl) ?_
       clear HFI HM)
    | (go_at_call 72
       refine (flt_atom _ _).mono ?_
       rintro e2 w2 ⟨rfl, hb2⟩
       have hcx := HCX.out.on (hb2.mono HCX.out.low.2.2)
       have hown := OWN.out.below hb2
       replace HCX := Lib.hid hcx
       replace OWN := Lib.hid hown
       have hit := fun Q s => atom_is w2 Q s
       have HIT := Lib.hid hit
       obtain ⟨⟨k0, k1, k2, k3⟩, ⟨k4, k5, k6, k7⟩, -, -, -, -⟩ := hcx
       clear hb2 hown hit)
    | (with_reducible show wpList _ _ _ (⟨some 27, _, _, _, _, _⟩ :: _) _ _; refine wpList_push_term rfl (.tmp 22) (.tmp 26) rfl (w1.heap.size + 1) _ _ _ _ _ _ _ _ _ rfl OWN.out rfl rfl (HIT.out _ _) (by simp) HCX.out.low.2.2 ?_
       intro v6 w6 hown hb6 _ _
       obtain ⟨a6, c6, rfl⟩ := hown.form
       have hcx := HCX.out.on hb6
       replace HCX := Lib.hid hcx
       replace OWN := Lib.hid hown
       obtain ⟨⟨k0, k1, k2, k3⟩, ⟨k4, k5, k6, k7⟩, -, -, -, -⟩ := hcx
       clear hb6 hown)
    | (go_at_call 74
       refine (flt_comp _ _ _ _ _).mono ?_
       rintro e2 w2 ⟨rfl, hb2⟩
       have hcx := HCX.out.on (hb2.mono HCX.out.low.2.2)
       have hown := OWN.out.below hb2
       replace HCX := Lib.hid hcx
       replace OWN := Lib.hid hown
       clear hb2 hown hcx)
    | (refine wpList_store_row rfl 28 (.tmp 6) (.tmp 51) rfl (w.heap.size + 1) _ rfl rfl _ _ HCX.out.res size_term rfl (one4 _ _ _ _ _ _) ?_))
  have hr : IsSl w2 (fun b => (P b ∧ b < w.heap.size) ∨ w1.heap.size + 1 ≤ b) (.slice a6 1 c6) [atomT f] := OWN.out.reads.imp (fun b h => h.elim id .inr) fun _ _ _ => rfl
  have hz := setRow_heap w2 (w.heap.size + 1) _ (#[.int .i64 4, .int .i64 0, .string n, .slice a6 1 c6] : Array Value) _ _ HCX.out.res
  refine bodyPost_ret (v := compV n a6 1 c6) (results_cell_row Tryd.results61 _ _ (w.heap.size + 1) _ _ _ _ rfl hz Tryd.underlying28 rfl (by kernel_rfl)) rfl (makes_at (comp_is (l := [atomT f]) hr) HCX.out.bel (Nat.le_succ _) (Nat.lt_trans HCX.out.low.1 HCX.out.low.2.1))

set_option maxHeartbeats 1600000 in
theorem flt_formal_bare (e : Int) (n f : ByteArray) (idx : Nat) (hf : f.toList.isEmpty = true) (hfind : Instr.findNow (.int .i64) (.int .i64 e) wordEntries.toList 0 = some (some (idx, wordV n f false false))) (what : ByteArray) (t : Tm) (v : Value) (P : Nat → Prop) (w : World) (_hM : t.size ≤ 1000000000) (h : IsTm w P v t) :
    Calls Tryd.prog 61 #[.int .i64 e, .string what, v] w (MakesTm P (atomT n) w) := by
  have hl := h.lt
  clear h
  obtain ⟨a, cap, rfl⟩ := hl.form
  have HL := Lib.hid hl
  clear hl
  have HFI := Lib.hid hfind
  clear hfind
  go_enter Tryd.func61, Tryd.ntmps61
  go_wp2_with (first
    | (go_at_call 71
       refine (flt_words _).mono ?_
       rintro e1 w1 ⟨b, rfl, -, hm, hbel⟩
       have HM := Lib.hid hm
       have HCX := Lib.hid (FmCtx.start w n f false false P t a cap HL.out w1 hbel)
       have OWN : Hid (OwnSl (w1.alloc (.cells #[.string n, .string f, .bool false, .bool false] 99 (0, 0))) (w1.heap.size + 1) (fun b => (P b ∧ b < w.heap.size) ∨ w1.heap.size + 1 ≤ b) (.slice none 0 0) []) := Lib.hid (OwnSl.nil _ _ _)
       clear hm hbel)
    | (refine wpList_lookup_now rfl 101 (.tmp 11) (.tmp 12) rfl _ _ _ Tryd.underlying101 Tryd.underlying36 rfl b _ _ rfl HM.out _ HFI.out (wordV ⟨#[]⟩ ⟨#[]⟩ false false) (fun _ => by kernel_rfl) ?_
       clear HFI HM)
    | (go_at_call 72
       refine (flt_atom _ _).mono ?_
       rintro e2 w2 ⟨rfl, hb2⟩
       have hcx := HCX.out.on (hb2.mono HCX.out.low.2.2)
       have hown := OWN.out.below hb2
       replace HCX := Lib.hid hcx
       replace OWN := Lib.hid hown
       have hit := fun Q s => atom_is w2 Q s
       have HIT := Lib.hid hit
       obtain ⟨⟨k0, k1, k2, k3⟩, ⟨k4, k5, k6, k7⟩, -, -, -, -⟩ := hcx
       clear hb2 hown hit)
    | (refine wpList_store_row rfl 28 (.tmp 6) (.tmp 47) rfl (w.heap.size + 1) _ rfl rfl _ _ HCX.out.res size_term rfl (one4 _ _ _ _ _ _) ?_))
  have hz := setRow_heap w2 (w.heap.size + 1) _ (#[.int .i64 3, .int .i64 0, .string n, .slice none 0 0] : Array Value) _ _ HCX.out.res
  refine bodyPost_ret (v := atomV n) (results_cell_row Tryd.results61 _ _ (w.heap.size + 1) _ _ _ _ rfl hz Tryd.underlying28 rfl (by kernel_rfl)) rfl (makes_at (atom_is _ _ _) HCX.out.bel (Nat.le_succ _) (Nat.lt_trans HCX.out.low.1 HCX.out.low.2.1))


set_option maxHeartbeats 1600000 in
theorem flt_formal_other (e : Int) (hfind : Instr.findNow (.int .i64) (.int .i64 e) wordEntries.toList 0 = some none) (what : ByteArray) (t : Tm) (v : Value) (P : Nat → Prop) (w : World) (_hM : t.size ≤ 1000000000) (h : IsTm w P v t) :
    Calls Tryd.prog 61 #[.int .i64 e, .string what, v] w (MakesTm P (atomT (⟨#[115, 121, 115, 116, 101, 109, 95, 101, 114, 114, 111, 114]⟩ : ByteArray)) w) := by
  have hl := h.lt
  clear h
  obtain ⟨a, cap, rfl⟩ := hl.form
  have HL := Lib.hid hl
  clear hl
  have HFI := Lib.hid hfind
  clear hfind
  go_enter Tryd.func61, Tryd.ntmps61
  go_wp2_with (first
    | (go_at_call 71
       refine (flt_words _).mono ?_
       rintro e1 w1 ⟨b, rfl, -, hm, hbel⟩
       have HM := Lib.hid hm
       have HCX := Lib.hid (FmCtx.start w ⟨#[]⟩ ⟨#[]⟩ false false P t a cap HL.out w1 hbel)
       have OWN : Hid (OwnSl (w1.alloc (.cells #[.string ⟨#[]⟩, .string ⟨#[]⟩, .bool false, .bool false] 99 (0, 0))) (w1.heap.size + 1) (fun b => (P b ∧ b < w.heap.size) ∨ w1.heap.size + 1 ≤ b) (.slice none 0 0) []) := Lib.hid (OwnSl.nil _ _ _)
       clear hm hbel)
    | (refine wpList_lookup_now rfl 101 (.tmp 11) (.tmp 12) rfl _ _ _ Tryd.underlying101 Tryd.underlying36 rfl b _ _ rfl HM.out _ HFI.out (wordV ⟨#[]⟩ ⟨#[]⟩ false false) (fun _ => by kernel_rfl) ?_
       clear HFI HM)
    | (go_at_call 72
       refine (flt_atom _ _).mono ?_
       rintro e2 w2 ⟨rfl, hb2⟩
       have hcx := HCX.out.on (hb2.mono HCX.out.low.2.2)
       have hown := OWN.out.below hb2
       replace HCX := Lib.hid hcx
       replace OWN := Lib.hid hown
       have hit := fun Q s => atom_is w2 Q s
       have HIT := Lib.hid hit
       obtain ⟨⟨k0, k1, k2, k3⟩, ⟨k4, k5, k6, k7⟩, -, -, -, -⟩ := hcx
       clear hb2 hown hit)
    | (refine wpList_store_row rfl 28 (.tmp 6) (.tmp 18) rfl (w.heap.size + 1) _ rfl rfl _ _ HCX.out.res size_term rfl (one4 _ _ _ _ _ _) ?_))
  have hz := setRow_heap w2 (w.heap.size + 1) _ (#[.int .i64 3, .int .i64 0, .string (⟨#[115, 121, 115, 116, 101, 109, 95, 101, 114, 114, 111, 114]⟩ : ByteArray), .slice none 0 0] : Array Value) _ _ HCX.out.res
  refine bodyPost_ret (v := atomV (⟨#[115, 121, 115, 116, 101, 109, 95, 101, 114, 114, 111, 114]⟩ : ByteArray)) (results_cell_row Tryd.results61 _ _ (w.heap.size + 1) _ _ _ _ rfl hz Tryd.underlying28 rfl (by kernel_rfl)) rfl (makes_at (atom_is _ _ _) HCX.out.bel (Nat.le_succ _) (Nat.lt_trans HCX.out.low.1 HCX.out.low.2.1))

theorem flt_formal (e : Int) (what : ByteArray) (t : Tm) (v : Value) (P : Nat → Prop) (w : World) (hM : t.size ≤ 1000000000) (h : IsTm w P v t) :
    Calls Tryd.prog 61 #[.int .i64 e, .string what, v] w (MakesTm P (formalE e what t) w) := by
  unfold formalE
  by_cases e1 : e = 12
  · subst e1; exact flt_formal_bare 12 _ _ 0 (by decide +kernel) rfl what t v P w hM h
  by_cases e2 : e = 13
  · subst e2; exact flt_formal_two 13 _ _ 1 (by decide +kernel) rfl what t v P w hM h
  by_cases e3 : e = 14
  · subst e3; exact flt_formal_two 14 _ _ 2 (by decide +kernel) rfl what t v P w hM h
  by_cases e4 : e = 8
  · subst e4; exact flt_formal_two 8 _ _ 3 (by decide +kernel) rfl what t v P w hM h
  by_cases e5 : e = 11
  · subst e5; exact flt_formal_fixed 11 _ _ 4 (by decide +kernel) rfl what t v P w hM h
  by_cases e6 : e = 10
  · subst e6; exact flt_formal_fixed 10 _ _ 5 (by decide +kernel) rfl what t v P w hM h
  by_cases e7 : e = 3
  · subst e7; exact flt_formal_what 3 _ _ 6 (by decide +kernel) rfl what t v P w hM h
  rw [if_neg e1, if_neg e2, if_neg e3, if_neg e4, if_neg e5, if_neg e6, if_neg e7]
  exact flt_formal_other e (by
    have q : ∀ k : Int, ¬ e = k → (e == k) = false := fun k h => by simpa using h
    simp only [wordEntries, Instr.findNow, Instr.sameNow, if_true, q _ e1, q _ e2, q _ e3, q _ e4, q _ e5, q _ e6, q _ e7]) what t v P w hM h

end Go.Proofs.YtkhchmgdaolojaaDoor.Tms
