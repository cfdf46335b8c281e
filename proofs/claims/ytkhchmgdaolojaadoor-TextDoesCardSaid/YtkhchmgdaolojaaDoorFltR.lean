
/-
  fault.Error, Unknown, Static walked over the program.
  The reference's Formal, Error, Unknown, Static walked over the program.
-/
import Derived.Test.YtkhchmgdaolojaaDoorFltM
import Derived.Test.YtkhchmgdaolojaaDoorGnb
namespace Go.Proofs.YtkhchmgdaolojaaDoor.Tms
open Go Go.RowKit Go.Proofs.YtkhchmgdaolojaaDoor.Reg Go.Proofs.YtkhchmgdaolojaaDoor.Maps
end Go.Proofs.YtkhchmgdaolojaaDoor.Tms
namespace Go.Proofs.YtkhchmgdaolojaaDoor.Tms
open Go Go.RowKit Go.Proofs.YtkhchmgdaolojaaDoor.Reg Go.Proofs.YtkhchmgdaolojaaDoor.Maps

set_option maxHeartbeats 1600000 in
theorem ref_formal_13 (what : ByteArray) (t : Tm) (v : Value) (P : Nat → Prop) (w : World) (h : IsTm w P v t) :
    Calls Tryd.prog 66 #[.int .i64 13, .string what, v] w (MakesTm P (compT (⟨#[116, 121, 112, 101, 95, 101, 114, 114, 111, 114]⟩ : ByteArray) [atomT what, t]) w) := by
  have hl := h.lt
  clear h
  obtain ⟨a, cap, rfl⟩ := hl.form
  have rz := Rz.second w (.cells #[.int .i64 t.k, .int .i64 t.n, .string t.s, .slice a t.args.length cap] 28 (0, 0))
  have hbox := (two w (.cells #[.int .i64 t.k, .int .i64 t.n, .string t.s, .slice a t.args.length cap] 28 (0, 0)) (.cells #[.int .i64 0, .int .i64 0, .string ⟨#[]⟩, .slice none 0 0] 28 (0, 0))).1
  have h0 := hl.imp (fun _ h => h) fun b h _ => rz.bel.block b h.2
  have H0 := Lib.hid h0
  have RZ := Lib.hid rz
  have HBOX := Lib.hid hbox
  clear rz hl h0 hbox
  go_enter Tryd.func66, Tryd.ntmps66
  go_wp2
  generalize (w.alloc (.cells #[.int .i64 t.k, .int .i64 t.n, .string t.s, .slice a t.args.length cap] 28 (0, 0))).alloc (.cells #[.int .i64 0, .int .i64 0, .string ⟨#[]⟩, .slice none 0 0] 28 (0, 0)) = W at *
  refine wp_region_rest (by kernel_rfl) ?_
  have hd : Below W.heap.size W W.drew := (Below.refl _ _).drew
  replace HBOX := Lib.hid ((hd.block _ (by have := RZ.out.low; omega)).trans HBOX.out)
  replace RZ := Lib.hid (RZ.out.next hd)
  replace H0 := Lib.hid (H0.out.below hd)
  clear hd
  generalize W.drew = W0 at *
  refine rest_ops 0 3 49 (fun j v _ => match j with | 0 => v = .string what | 1 => v = atomV what | 2 => v = .agg #[.int .i64 t.k, .int .i64 t.n, .string t.s, .slice a t.args.length cap] | _ => True) (fun _ _ => none) (by kernel_rfl) (by kernel_rfl) rfl (.inr (by kernel_rfl)) ?hS ?hop ?_
  case hS => intro j v u u' _ _ h _; exact h
  case hop =>
    refine ⟨fun v u hu hs Q' hQ => ?_, fun v u hu hs Q' hQ => ?_, fun v u hu hs Q' hQ => ?_, trivial⟩
    · simp only [putAll, dstOf]
      obtain ⟨f0, f1, f2, f3⟩ := row4 ((hu.block _ (by have := RZ.out.low; omega)).trans HBOX.out)
      go_wp2
      exact ⟨rfl, Below.refl _ _, rfl, fun _ h => nomatch h⟩
    · simp only [putAll, dstOf]
      have s_0 : v 0 = .string what := hs 0 (by kernel_rfl) (by decide) (by decide)
      obtain ⟨f0, f1, f2, f3⟩ := row4 ((hu.block _ (by have := RZ.out.low; omega)).trans HBOX.out)
      go_wp2_with (go_at_call 56; refine (ref_atom _ _).mono ?_; rintro e1 w1 ⟨rfl, hb1⟩)
      exact ⟨rfl, hb1, rfl, fun _ h => nomatch h⟩
    · simp only [putAll, dstOf]
      obtain ⟨f0, f1, f2, f3⟩ := row4 ((hu.block _ (by have := RZ.out.low; omega)).trans HBOX.out)
      go_wp2
      exact ⟨rfl, Below.refl _ _, rfl, fun _ h => nomatch h⟩
  intro v u hu hs hap
  have s_0 : v 0 = .string what := hs 0 (by decide) (by decide)
  have s_1 : v 1 = atomV what := hs 1 (by decide) (by decide)
  have s_2 : v 2 = .agg #[.int .i64 t.k, .int .i64 t.n, .string t.s, .slice a t.args.length cap] := hs 2 (by decide) (by decide)
  simp only [putAll, dstOf]
  replace RZ := Lib.hid (RZ.out.next hu)
  replace H0 := Lib.hid (H0.out.below hu)
  clear hs hap hu HBOX
  refine rest_lineL 3 6 [_, _, _] rfl (by kernel_rfl) (by decide) (by decide) (by kernel_rfl) ?_
  go_wp2_with (first
    | (go_at_call 58
       refine (ref_comp _ _ _ _ _).mono ?_
       rintro e4 w4 ⟨rfl, hb4⟩
       have hrow := RZ.out.row (.cells #[.int .i64 3, .int .i64 0, .string what, .slice none 0 0, .int .i64 t.k, .int .i64 t.n, .string t.s, .slice a t.args.length cap] 28 (0, 0))
       have hb34 := ((Below.refl u.heap.size u).alloc (Nat.le_refl _) _).trans (hb4.mono (by simp))
       have h4 : IsSl w4 (Low P w (w.heap.size + 2)) (.slice (some ⟨u.heap.size, 0, none⟩) 2 2) [atomT what, t] := sl_of_cells ((hb4.block _ (by simp)).trans hrow.2.1) (CellsOf.cons (atom_is _ _ _) (CellsOf.cons ((H0.out.below hb34).imp (fun _ h => .inl h) fun _ _ _ => rfl) trivial)) rfl (.inr hrow.2.2)
       have H4 := Lib.hid h4
       replace RZ := Lib.hid (hrow.1.next hb4)
       clear hrow hb34 h4 hb4)
    | (refine wpList_store_row rfl 28 (.tmp 6) (.tmp 17) rfl (w.heap.size + 1) _ rfl rfl _ _ RZ.out.res size_term rfl (one4 _ _ _ _ _ _) ?_))
  refine then_rest (rest_end (by decide) ?_)
  go_wp2
  have hz := setRow_heap w4 (w.heap.size + 1) _ (#[.int .i64 4, .int .i64 0, .string (⟨#[116, 121, 112, 101, 95, 101, 114, 114, 111, 114]⟩ : ByteArray), .slice (some ⟨u.heap.size, 0, none⟩) 2 2] : Array Value) _ _ RZ.out.res
  refine bodyPost_ret (v := compV (⟨#[116, 121, 112, 101, 95, 101, 114, 114, 111, 114]⟩ : ByteArray) (some ⟨u.heap.size, 0, none⟩) 2 2) (results_cell_row Tryd.results66 _ _ (w.heap.size + 1) _ _ _ _ rfl hz Tryd.underlying28 rfl (by kernel_rfl)) rfl (makes_at (comp_is (l := [atomT what, t]) H4.out) RZ.out.bel (Nat.le_succ _) RZ.out.low.2.1)

set_option maxHeartbeats 1600000 in
theorem ref_formal_14 (what : ByteArray) (t : Tm) (v : Value) (P : Nat → Prop) (w : World) (h : IsTm w P v t) :
    Calls Tryd.prog 66 #[.int .i64 14, .string what, v] w (MakesTm P (compT (⟨#[100, 111, 109, 97, 105, 110, 95, 101, 114, 114, 111, 114]⟩ : ByteArray) [atomT what, t]) w) := by
  have hl := h.lt
  clear h
  obtain ⟨a, cap, rfl⟩ := hl.form
  have rz := Rz.second w (.cells #[.int .i64 t.k, .int .i64 t.n, .string t.s, .slice a t.args.length cap] 28 (0, 0))
  have hbox := (two w (.cells #[.int .i64 t.k, .int .i64 t.n, .string t.s, .slice a t.args.length cap] 28 (0, 0)) (.cells #[.int .i64 0, .int .i64 0, .string ⟨#[]⟩, .slice none 0 0] 28 (0, 0))).1
  have h0 := hl.imp (fun _ h => h) fun b h _ => rz.bel.block b h.2
  have H0 := Lib.hid h0
  have RZ := Lib.hid rz
  have HBOX := Lib.hid hbox
  clear rz hl h0 hbox
  go_enter Tryd.func66, Tryd.ntmps66
  go_wp2
  generalize (w.alloc (.cells #[.int .i64 t.k, .int .i64 t.n, .string t.s, .slice a t.args.length cap] 28 (0, 0))).alloc (.cells #[.int .i64 0, .int .i64 0, .string ⟨#[]⟩, .slice none 0 0] 28 (0, 0)) = W at *
  refine wp_region_rest (by kernel_rfl) ?_
  have hd : Below W.heap.size W W.drew := (Below.refl _ _).drew
  replace HBOX := Lib.hid ((hd.block _ (by have := RZ.out.low; omega)).trans HBOX.out)
  replace RZ := Lib.hid (RZ.out.next hd)
  replace H0 := Lib.hid (H0.out.below hd)
  clear hd
  generalize W.drew = W0 at *
  refine rest_ops 0 3 49 (fun j v _ => match j with | 0 => v = .string what | 1 => v = atomV what | 2 => v = .agg #[.int .i64 t.k, .int .i64 t.n, .string t.s, .slice a t.args.length cap] | _ => True) (fun _ _ => none) (by kernel_rfl) (by kernel_rfl) rfl (.inr (by kernel_rfl)) ?hS ?hop ?_
  case hS => intro j v u u' _ _ h _; exact h
  case hop =>
    refine ⟨fun v u hu hs Q' hQ => ?_, fun v u hu hs Q' hQ => ?_, fun v u hu hs Q' hQ => ?_, trivial⟩
    · simp only [putAll, dstOf]
      obtain ⟨f0, f1, f2, f3⟩ := row4 ((hu.block _ (by have := RZ.out.low; omega)).trans HBOX.out)
      go_wp2
      exact ⟨rfl, Below.refl _ _, rfl, fun _ h => nomatch h⟩
    · simp only [putAll, dstOf]
      have s_0 : v 0 = .string what := hs 0 (by kernel_rfl) (by decide) (by decide)
      obtain ⟨f0, f1, f2, f3⟩ := row4 ((hu.block _ (by have := RZ.out.low; omega)).trans HBOX.out)
      go_wp2_with (go_at_call 56; refine (ref_atom _ _).mono ?_; rintro e1 w1 ⟨rfl, hb1⟩)
      exact ⟨rfl, hb1, rfl, fun _ h => nomatch h⟩
    · simp only [putAll, dstOf]
      obtain ⟨f0, f1, f2, f3⟩ := row4 ((hu.block _ (by have := RZ.out.low; omega)).trans HBOX.out)
      go_wp2
      exact ⟨rfl, Below.refl _ _, rfl, fun _ h => nomatch h⟩
  intro v u hu hs hap
  have s_0 : v 0 = .string what := hs 0 (by decide) (by decide)
  have s_1 : v 1 = atomV what := hs 1 (by decide) (by decide)
  have s_2 : v 2 = .agg #[.int .i64 t.k, .int .i64 t.n, .string t.s, .slice a t.args.length cap] := hs 2 (by decide) (by decide)
  simp only [putAll, dstOf]
  replace RZ := Lib.hid (RZ.out.next hu)
  replace H0 := Lib.hid (H0.out.below hu)
  clear hs hap hu HBOX
  refine rest_lineL 3 6 [_, _, _] rfl (by kernel_rfl) (by decide) (by decide) (by kernel_rfl) ?_
  go_wp2_with (first
    | (go_at_call 58
       refine (ref_comp _ _ _ _ _).mono ?_
       rintro e4 w4 ⟨rfl, hb4⟩
       have hrow := RZ.out.row (.cells #[.int .i64 3, .int .i64 0, .string what, .slice none 0 0, .int .i64 t.k, .int .i64 t.n, .string t.s, .slice a t.args.length cap] 28 (0, 0))
       have hb34 := ((Below.refl u.heap.size u).alloc (Nat.le_refl _) _).trans (hb4.mono (by simp))
       have h4 : IsSl w4 (Low P w (w.heap.size + 2)) (.slice (some ⟨u.heap.size, 0, none⟩) 2 2) [atomT what, t] := sl_of_cells ((hb4.block _ (by simp)).trans hrow.2.1) (CellsOf.cons (atom_is _ _ _) (CellsOf.cons ((H0.out.below hb34).imp (fun _ h => .inl h) fun _ _ _ => rfl) trivial)) rfl (.inr hrow.2.2)
       have H4 := Lib.hid h4
       replace RZ := Lib.hid (hrow.1.next hb4)
       clear hrow hb34 h4 hb4)
    | (refine wpList_store_row rfl 28 (.tmp 6) (.tmp 24) rfl (w.heap.size + 1) _ rfl rfl _ _ RZ.out.res size_term rfl (one4 _ _ _ _ _ _) ?_))
  refine then_rest (rest_end (by decide) ?_)
  go_wp2
  have hz := setRow_heap w4 (w.heap.size + 1) _ (#[.int .i64 4, .int .i64 0, .string (⟨#[100, 111, 109, 97, 105, 110, 95, 101, 114, 114, 111, 114]⟩ : ByteArray), .slice (some ⟨u.heap.size, 0, none⟩) 2 2] : Array Value) _ _ RZ.out.res
  refine bodyPost_ret (v := compV (⟨#[100, 111, 109, 97, 105, 110, 95, 101, 114, 114, 111, 114]⟩ : ByteArray) (some ⟨u.heap.size, 0, none⟩) 2 2) (results_cell_row Tryd.results66 _ _ (w.heap.size + 1) _ _ _ _ rfl hz Tryd.underlying28 rfl (by kernel_rfl)) rfl (makes_at (comp_is (l := [atomT what, t]) H4.out) RZ.out.bel (Nat.le_succ _) RZ.out.low.2.1)

set_option maxHeartbeats 1600000 in
theorem ref_formal_8 (what : ByteArray) (t : Tm) (v : Value) (P : Nat → Prop) (w : World) (h : IsTm w P v t) :
    Calls Tryd.prog 66 #[.int .i64 8, .string what, v] w (MakesTm P (compT (⟨#[101, 120, 105, 115, 116, 101, 110, 99, 101, 95, 101, 114, 114, 111, 114]⟩ : ByteArray) [atomT what, t]) w) := by
  have hl := h.lt
  clear h
  obtain ⟨a, cap, rfl⟩ := hl.form
  have rz := Rz.second w (.cells #[.int .i64 t.k, .int .i64 t.n, .string t.s, .slice a t.args.length cap] 28 (0, 0))
  have hbox := (two w (.cells #[.int .i64 t.k, .int .i64 t.n, .string t.s, .slice a t.args.length cap] 28 (0, 0)) (.cells #[.int .i64 0, .int .i64 0, .string ⟨#[]⟩, .slice none 0 0] 28 (0, 0))).1
  have h0 := hl.imp (fun _ h => h) fun b h _ => rz.bel.block b h.2
  have H0 := Lib.hid h0
  have RZ := Lib.hid rz
  have HBOX := Lib.hid hbox
  clear rz hl h0 hbox
  go_enter Tryd.func66, Tryd.ntmps66
  go_wp2
  generalize (w.alloc (.cells #[.int .i64 t.k, .int .i64 t.n, .string t.s, .slice a t.args.length cap] 28 (0, 0))).alloc (.cells #[.int .i64 0, .int .i64 0, .string ⟨#[]⟩, .slice none 0 0] 28 (0, 0)) = W at *
  refine wp_region_rest (by kernel_rfl) ?_
  have hd : Below W.heap.size W W.drew := (Below.refl _ _).drew
  replace HBOX := Lib.hid ((hd.block _ (by have := RZ.out.low; omega)).trans HBOX.out)
  replace RZ := Lib.hid (RZ.out.next hd)
  replace H0 := Lib.hid (H0.out.below hd)
  clear hd
  generalize W.drew = W0 at *
  refine rest_ops 0 3 49 (fun j v _ => match j with | 0 => v = .string what | 1 => v = atomV what | 2 => v = .agg #[.int .i64 t.k, .int .i64 t.n, .string t.s, .slice a t.args.length cap] | _ => True) (fun _ _ => none) (by kernel_rfl) (by kernel_rfl) rfl (.inr (by kernel_rfl)) ?hS ?hop ?_
  case hS => intro j v u u' _ _ h _; exact h
  case hop =>
    refine ⟨fun v u hu hs Q' hQ => ?_, fun v u hu hs Q' hQ => ?_, fun v u hu hs Q' hQ => ?_, trivial⟩
    · simp only [putAll, dstOf]
      obtain ⟨f0, f1, f2, f3⟩ := row4 ((hu.block _ (by have := RZ.out.low; omega)).trans HBOX.out)
      go_wp2
      exact ⟨rfl, Below.refl _ _, rfl, fun _ h => nomatch h⟩
    · simp only [putAll, dstOf]
      have s_0 : v 0 = .string what := hs 0 (by kernel_rfl) (by decide) (by decide)
      obtain ⟨f0, f1, f2, f3⟩ := row4 ((hu.block _ (by have := RZ.out.low; omega)).trans HBOX.out)
      go_wp2_with (go_at_call 56; refine (ref_atom _ _).mono ?_; rintro e1 w1 ⟨rfl, hb1⟩)
      exact ⟨rfl, hb1, rfl, fun _ h => nomatch h⟩
    · simp only [putAll, dstOf]
      obtain ⟨f0, f1, f2, f3⟩ := row4 ((hu.block _ (by have := RZ.out.low; omega)).trans HBOX.out)
      go_wp2
      exact ⟨rfl, Below.refl _ _, rfl, fun _ h => nomatch h⟩
  intro v u hu hs hap
  have s_0 : v 0 = .string what := hs 0 (by decide) (by decide)
  have s_1 : v 1 = atomV what := hs 1 (by decide) (by decide)
  have s_2 : v 2 = .agg #[.int .i64 t.k, .int .i64 t.n, .string t.s, .slice a t.args.length cap] := hs 2 (by decide) (by decide)
  simp only [putAll, dstOf]
  replace RZ := Lib.hid (RZ.out.next hu)
  replace H0 := Lib.hid (H0.out.below hu)
  clear hs hap hu HBOX
  refine rest_lineL 3 6 [_, _, _] rfl (by kernel_rfl) (by decide) (by decide) (by kernel_rfl) ?_
  go_wp2_with (first
    | (go_at_call 58
       refine (ref_comp _ _ _ _ _).mono ?_
       rintro e4 w4 ⟨rfl, hb4⟩
       have hrow := RZ.out.row (.cells #[.int .i64 3, .int .i64 0, .string what, .slice none 0 0, .int .i64 t.k, .int .i64 t.n, .string t.s, .slice a t.args.length cap] 28 (0, 0))
       have hb34 := ((Below.refl u.heap.size u).alloc (Nat.le_refl _) _).trans (hb4.mono (by simp))
       have h4 : IsSl w4 (Low P w (w.heap.size + 2)) (.slice (some ⟨u.heap.size, 0, none⟩) 2 2) [atomT what, t] := sl_of_cells ((hb4.block _ (by simp)).trans hrow.2.1) (CellsOf.cons (atom_is _ _ _) (CellsOf.cons ((H0.out.below hb34).imp (fun _ h => .inl h) fun _ _ _ => rfl) trivial)) rfl (.inr hrow.2.2)
       have H4 := Lib.hid h4
       replace RZ := Lib.hid (hrow.1.next hb4)
       clear hrow hb34 h4 hb4)
    | (refine wpList_store_row rfl 28 (.tmp 6) (.tmp 31) rfl (w.heap.size + 1) _ rfl rfl _ _ RZ.out.res size_term rfl (one4 _ _ _ _ _ _) ?_))
  refine then_rest (rest_end (by decide) ?_)
  go_wp2
  have hz := setRow_heap w4 (w.heap.size + 1) _ (#[.int .i64 4, .int .i64 0, .string (⟨#[101, 120, 105, 115, 116, 101, 110, 99, 101, 95, 101, 114, 114, 111, 114]⟩ : ByteArray), .slice (some ⟨u.heap.size, 0, none⟩) 2 2] : Array Value) _ _ RZ.out.res
  refine bodyPost_ret (v := compV (⟨#[101, 120, 105, 115, 116, 101, 110, 99, 101, 95, 101, 114, 114, 111, 114]⟩ : ByteArray) (some ⟨u.heap.size, 0, none⟩) 2 2) (results_cell_row Tryd.results66 _ _ (w.heap.size + 1) _ _ _ _ rfl hz Tryd.underlying28 rfl (by kernel_rfl)) rfl (makes_at (comp_is (l := [atomT what, t]) H4.out) RZ.out.bel (Nat.le_succ _) RZ.out.low.2.1)

set_option maxHeartbeats 1600000 in
theorem ref_formal_11 (what : ByteArray) (t : Tm) (v : Value) (P : Nat → Prop) (w : World) (h : IsTm w P v t) :
    Calls Tryd.prog 66 #[.int .i64 11, .string what, v] w (MakesTm P (compT (⟨#[101, 118, 97, 108, 117, 97, 116, 105, 111, 110, 95, 101, 114, 114, 111, 114]⟩ : ByteArray) [atomT (⟨#[105, 110, 116, 95, 111, 118, 101, 114, 102, 108, 111, 119]⟩ : ByteArray)]) w) := by
  obtain ⟨a, cap, rfl⟩ := h.form
  have RZ := Lib.hid (Rz.second w (.cells #[.int .i64 t.k, .int .i64 t.n, .string t.s, .slice a t.args.length cap] 28 (0, 0)))
  clear h
  go_enter Tryd.func66, Tryd.ntmps66
  go_wp2_with (first
    | (go_at_call 56
       refine (ref_atom _ _).mono ?_
       rintro e2 w2 ⟨rfl, hb2⟩
       replace RZ := Lib.hid (RZ.out.next hb2)
       clear hb2)
    | (go_at_call 58
       refine (ref_comp _ _ _ _ _).mono ?_
       rintro e4 w4 ⟨rfl, hb4⟩
       have hrow := RZ.out.row (.cells #[.int .i64 3, .int .i64 0, .string (⟨#[105, 110, 116, 95, 111, 118, 101, 114, 102, 108, 111, 119]⟩ : ByteArray), .slice none 0 0] 28 (0, 0))
       have h4 : IsSl w4 (Low P w (w.heap.size + 2)) (.slice (some ⟨w2.heap.size, 0, none⟩) 1 1) [atomT (⟨#[105, 110, 116, 95, 111, 118, 101, 114, 102, 108, 111, 119]⟩ : ByteArray)] := sl_of_cells ((hb4.block _ (by simp)).trans hrow.2.1) (CellsOf.cons (atom_is _ _ _) trivial) rfl (.inr hrow.2.2)
       have H4 := Lib.hid h4
       replace RZ := Lib.hid (hrow.1.next hb4)
       clear hrow h4 hb4)
    | (refine wpList_store_row rfl 28 (.tmp 6) (.tmp 36) rfl (w.heap.size + 1) _ rfl rfl _ _ RZ.out.res size_term rfl (one4 _ _ _ _ _ _) ?_))
  have hz := setRow_heap w4 (w.heap.size + 1) _ (#[.int .i64 4, .int .i64 0, .string (⟨#[101, 118, 97, 108, 117, 97, 116, 105, 111, 110, 95, 101, 114, 114, 111, 114]⟩ : ByteArray), .slice (some ⟨w2.heap.size, 0, none⟩) 1 1] : Array Value) _ _ RZ.out.res
  refine bodyPost_ret (v := compV (⟨#[101, 118, 97, 108, 117, 97, 116, 105, 111, 110, 95, 101, 114, 114, 111, 114]⟩ : ByteArray) (some ⟨w2.heap.size, 0, none⟩) 1 1) (results_cell_row Tryd.results66 _ _ (w.heap.size + 1) _ _ _ _ rfl hz Tryd.underlying28 rfl (by kernel_rfl)) rfl (makes_at (comp_is (l := [atomT (⟨#[105, 110, 116, 95, 111, 118, 101, 114, 102, 108, 111, 119]⟩ : ByteArray)]) H4.out) RZ.out.bel (Nat.le_succ _) RZ.out.low.2.1)

set_option maxHeartbeats 1600000 in
theorem ref_formal_10 (what : ByteArray) (t : Tm) (v : Value) (P : Nat → Prop) (w : World) (h : IsTm w P v t) :
    Calls Tryd.prog 66 #[.int .i64 10, .string what, v] w (MakesTm P (compT (⟨#[101, 118, 97, 108, 117, 97, 116, 105, 111, 110, 95, 101, 114, 114, 111, 114]⟩ : ByteArray) [atomT (⟨#[122, 101, 114, 111, 95, 100, 105, 118, 105, 115, 111, 114]⟩ : ByteArray)]) w) := by
  obtain ⟨a, cap, rfl⟩ := h.form
  have RZ := Lib.hid (Rz.second w (.cells #[.int .i64 t.k, .int .i64 t.n, .string t.s, .slice a t.args.length cap] 28 (0, 0)))
  clear h
  go_enter Tryd.func66, Tryd.ntmps66
  go_wp2_with (first
    | (go_at_call 56
       refine (ref_atom _ _).mono ?_
       rintro e2 w2 ⟨rfl, hb2⟩
       replace RZ := Lib.hid (RZ.out.next hb2)
       clear hb2)
    | (go_at_call 58
       refine (ref_comp _ _ _ _ _).mono ?_
       rintro e4 w4 ⟨rfl, hb4⟩
       have hrow := RZ.out.row (.cells #[.int .i64 3, .int .i64 0, .string (⟨#[122, 101, 114, 111, 95, 100, 105, 118, 105, 115, 111, 114]⟩ : ByteArray), .slice none 0 0] 28 (0, 0))
       have h4 : IsSl w4 (Low P w (w.heap.size + 2)) (.slice (some ⟨w2.heap.size, 0, none⟩) 1 1) [atomT (⟨#[122, 101, 114, 111, 95, 100, 105, 118, 105, 115, 111, 114]⟩ : ByteArray)] := sl_of_cells ((hb4.block _ (by simp)).trans hrow.2.1) (CellsOf.cons (atom_is _ _ _) trivial) rfl (.inr hrow.2.2)
       have H4 := Lib.hid h4
       replace RZ := Lib.hid (hrow.1.next hb4)
       clear hrow h4 hb4)
    | (refine wpList_store_row rfl 28 (.tmp 6) (.tmp 41) rfl (w.heap.size + 1) _ rfl rfl _ _ RZ.out.res size_term rfl (one4 _ _ _ _ _ _) ?_))
  have hz := setRow_heap w4 (w.heap.size + 1) _ (#[.int .i64 4, .int .i64 0, .string (⟨#[101, 118, 97, 108, 117, 97, 116, 105, 111, 110, 95, 101, 114, 114, 111, 114]⟩ : ByteArray), .slice (some ⟨w2.heap.size, 0, none⟩) 1 1] : Array Value) _ _ RZ.out.res
  refine bodyPost_ret (v := compV (⟨#[101, 118, 97, 108, 117, 97, 116, 105, 111, 110, 95, 101, 114, 114, 111, 114]⟩ : ByteArray) (some ⟨w2.heap.size, 0, none⟩) 1 1) (results_cell_row Tryd.results66 _ _ (w.heap.size + 1) _ _ _ _ rfl hz Tryd.underlying28 rfl (by kernel_rfl)) rfl (makes_at (comp_is (l := [atomT (⟨#[122, 101, 114, 111, 95, 100, 105, 118, 105, 115, 111, 114]⟩ : ByteArray)]) H4.out) RZ.out.bel (Nat.le_succ _) RZ.out.low.2.1)

set_option maxHeartbeats 1600000 in
theorem ref_formal_3 (what : ByteArray) (t : Tm) (v : Value) (P : Nat → Prop) (w : World) (h : IsTm w P v t) :
    Calls Tryd.prog 66 #[.int .i64 3, .string what, v] w (MakesTm P (compT (⟨#[114, 101, 112, 114, 101, 115, 101, 110, 116, 97, 116, 105, 111, 110, 95, 101, 114, 114, 111, 114]⟩ : ByteArray) [atomT what]) w) := by
  obtain ⟨a, cap, rfl⟩ := h.form
  have RZ := Lib.hid (Rz.second w (.cells #[.int .i64 t.k, .int .i64 t.n, .string t.s, .slice a t.args.length cap] 28 (0, 0)))
  clear h
  go_enter Tryd.func66, Tryd.ntmps66
  go_wp2_with (first
    | (go_at_call 56
       refine (ref_atom _ _).mono ?_
       rintro e2 w2 ⟨rfl, hb2⟩
       replace RZ := Lib.hid (RZ.out.next hb2)
       clear hb2)
    | (go_at_call 58
       refine (ref_comp _ _ _ _ _).mono ?_
       rintro e4 w4 ⟨rfl, hb4⟩
       have hrow := RZ.out.row (.cells #[.int .i64 3, .int .i64 0, .string what, .slice none 0 0] 28 (0, 0))
       have h4 : IsSl w4 (Low P w (w.heap.size + 2)) (.slice (some ⟨w2.heap.size, 0, none⟩) 1 1) [atomT what] := sl_of_cells ((hb4.block _ (by simp)).trans hrow.2.1) (CellsOf.cons (atom_is _ _ _) trivial) rfl (.inr hrow.2.2)
       have H4 := Lib.hid h4
       replace RZ := Lib.hid (hrow.1.next hb4)
       clear hrow h4 hb4)
    | (refine wpList_store_row rfl 28 (.tmp 6) (.tmp 47) rfl (w.heap.size + 1) _ rfl rfl _ _ RZ.out.res size_term rfl (one4 _ _ _ _ _ _) ?_))
  have hz := setRow_heap w4 (w.heap.size + 1) _ (#[.int .i64 4, .int .i64 0, .string (⟨#[114, 101, 112, 114, 101, 115, 101, 110, 116, 97, 116, 105, 111, 110, 95, 101, 114, 114, 111, 114]⟩ : ByteArray), .slice (some ⟨w2.heap.size, 0, none⟩) 1 1] : Array Value) _ _ RZ.out.res
  refine bodyPost_ret (v := compV (⟨#[114, 101, 112, 114, 101, 115, 101, 110, 116, 97, 116, 105, 111, 110, 95, 101, 114, 114, 111, 114]⟩ : ByteArray) (some ⟨w2.heap.size, 0, none⟩) 1 1) (results_cell_row Tryd.results66 _ _ (w.heap.size + 1) _ _ _ _ rfl hz Tryd.underlying28 rfl (by kernel_rfl)) rfl (makes_at (comp_is (l := [atomT what]) H4.out) RZ.out.bel (Nat.le_succ _) RZ.out.low.2.1)

set_option maxHeartbeats 1600000 in
theorem ref_formal_12 (what : ByteArray) (t : Tm) (v : Value) (P : Nat → Prop) (w : World) (h : IsTm w P v t) :
    Calls Tryd.prog 66 #[.int .i64 12, .string what, v] w (MakesTm P (atomT (⟨#[105, 110, 115, 116, 97, 110, 116, 105, 97, 116, 105, 111, 110, 95, 101, 114, 114, 111, 114]⟩ : ByteArray)) w) := by
  obtain ⟨a, cap, rfl⟩ := h.form
  have RZ := Lib.hid (Rz.second w (.cells #[.int .i64 t.k, .int .i64 t.n, .string t.s, .slice a t.args.length cap] 28 (0, 0)))
  clear h
  go_enter Tryd.func66, Tryd.ntmps66
  go_wp2_with (first
    | (go_at_call 56
       refine (ref_atom _ _).mono ?_
       rintro e2 w2 ⟨rfl, hb2⟩
       replace RZ := Lib.hid (RZ.out.next hb2)
       clear hb2)
    | (refine wpList_store_row rfl 28 (.tmp 6) (.tmp 10) rfl (w.heap.size + 1) _ rfl rfl _ _ RZ.out.res size_term rfl (one4 _ _ _ _ _ _) ?_))
  have hz := setRow_heap w2 (w.heap.size + 1) _ (#[.int .i64 3, .int .i64 0, .string (⟨#[105, 110, 115, 116, 97, 110, 116, 105, 97, 116, 105, 111, 110, 95, 101, 114, 114, 111, 114]⟩ : ByteArray), .slice none 0 0] : Array Value) _ _ RZ.out.res
  refine bodyPost_ret (v := atomV (⟨#[105, 110, 115, 116, 97, 110, 116, 105, 97, 116, 105, 111, 110, 95, 101, 114, 114, 111, 114]⟩ : ByteArray)) (results_cell_row Tryd.results66 _ _ (w.heap.size + 1) _ _ _ _ rfl hz Tryd.underlying28 rfl (by kernel_rfl)) rfl (makes_at (atom_is _ _ _) RZ.out.bel (Nat.le_succ _) RZ.out.low.2.1)

set_option maxHeartbeats 1600000 in
theorem ref_formal_other (e : Int) (e1 : (e == 12) = false) (e2 : (e == 13) = false) (e3 : (e == 14) = false) (e4 : (e == 8) = false) (e5 : (e == 11) = false) (e6 : (e == 10) = false) (e7 : (e == 3) = false) (what : ByteArray) (t : Tm) (v : Value) (P : Nat → Prop) (w : World) (h : IsTm w P v t) :
    Calls Tryd.prog 66 #[.int .i64 e, .string what, v] w (MakesTm P (atomT (⟨#[115, 121, 115, 116, 101, 109, 95, 101, 114, 114, 111, 114]⟩ : ByteArray)) w) := by
  obtain ⟨a, cap, rfl⟩ := h.form
  have RZ := Lib.hid (Rz.second w (.cells #[.int .i64 t.k, .int .i64 t.n, .string t.s, .slice a t.args.length cap] 28 (0, 0)))
  clear h
  go_enter Tryd.func66, Tryd.ntmps66
  go_wp2_with (first
    | (go_at_call 56
       refine (ref_atom _ _).mono ?_
       rintro e2 w2 ⟨rfl, hb2⟩
       replace RZ := Lib.hid (RZ.out.next hb2)
       clear hb2)
    | (refine wpList_store_row rfl 28 (.tmp 6) (.tmp 48) rfl (w.heap.size + 1) _ rfl rfl _ _ RZ.out.res size_term rfl (one4 _ _ _ _ _ _) ?_))
  have hz := setRow_heap w2 (w.heap.size + 1) _ (#[.int .i64 3, .int .i64 0, .string (⟨#[115, 121, 115, 116, 101, 109, 95, 101, 114, 114, 111, 114]⟩ : ByteArray), .slice none 0 0] : Array Value) _ _ RZ.out.res
  refine bodyPost_ret (v := atomV (⟨#[115, 121, 115, 116, 101, 109, 95, 101, 114, 114, 111, 114]⟩ : ByteArray)) (results_cell_row Tryd.results66 _ _ (w.heap.size + 1) _ _ _ _ rfl hz Tryd.underlying28 rfl (by kernel_rfl)) rfl (makes_at (atom_is _ _ _) RZ.out.bel (Nat.le_succ _) RZ.out.low.2.1)

theorem ref_formal (e : Int) (what : ByteArray) (t : Tm) (v : Value) (P : Nat → Prop) (w : World) (h : IsTm w P v t) :
    Calls Tryd.prog 66 #[.int .i64 e, .string what, v] w (MakesTm P (formalE e what t) w) := by
  unfold formalE
  by_cases e1 : e = 12
  · subst e1; exact ref_formal_12 what t v P w h
  by_cases e2 : e = 13
  · subst e2; exact ref_formal_13 what t v P w h
  by_cases e3 : e = 14
  · subst e3; exact ref_formal_14 what t v P w h
  by_cases e4 : e = 8
  · subst e4; exact ref_formal_8 what t v P w h
  by_cases e5 : e = 11
  · subst e5; exact ref_formal_11 what t v P w h
  by_cases e6 : e = 10
  · subst e6; exact ref_formal_10 what t v P w h
  by_cases e7 : e = 3
  · subst e7; exact ref_formal_3 what t v P w h
  rw [if_neg e1, if_neg e2, if_neg e3, if_neg e4, if_neg e5, if_neg e6, if_neg e7]
  have q : ∀ k : Int, ¬ e = k → (e == k) = false := fun k h => by simpa using h
  exact ref_formal_other e (q _ e1) (q _ e2) (q _ e3) (q _ e4) (q _ e5) (q _ e6) (q _ e7) what t v P w h

end Go.Proofs.YtkhchmgdaolojaaDoor.Tms
