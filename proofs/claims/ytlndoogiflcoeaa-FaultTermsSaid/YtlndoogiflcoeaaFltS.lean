/-
  The reference's Error, Unknown, Static walked over the program.
-/
import Derived.Test.YtlndoogiflcoeaaFltR
namespace Go.Proofs.Ytlndoogiflcoeaa.Tms
open Go Go.RowKit Go.Proofs.Ytlndoogiflcoeaa.Reg Go.Proofs.Ytlndoogiflcoeaa.Maps

set_option maxHeartbeats 1600000 in
theorem ref_error (t : Tm) (s : ByteArray) (n : Int) (v : Value) (P : Nat → Prop) (w : World) (h : IsTm w P v t) :
    Calls Try.prog 16 #[v, .string s, .int .i64 n] w (MakesTm P (errorT t s n) w) := by
  have hl := h.lt
  clear h
  obtain ⟨a, cap, rfl⟩ := hl.form
  have rz := Rz.second w (.cells #[.int .i64 t.k, .int .i64 t.n, .string t.s, .slice a t.args.length cap] 29 (0, 0))
  have hbox := (two w (.cells #[.int .i64 t.k, .int .i64 t.n, .string t.s, .slice a t.args.length cap] 29 (0, 0)) (.cells #[.int .i64 0, .int .i64 0, .string ⟨#[]⟩, .slice none 0 0] 29 (0, 0))).1
  have h0 := hl.imp (fun _ h => h) fun b h _ => rz.bel.block b h.2
  have H0 := Lib.hid h0
  have RZ := Lib.hid rz
  have HBOX := Lib.hid hbox
  clear rz hl h0 hbox
  go_enter Try.func16, Try.ntmps16
  go_wp2
  generalize (w.alloc (.cells #[.int .i64 t.k, .int .i64 t.n, .string t.s, .slice a t.args.length cap] 29 (0, 0))).alloc (.cells #[.int .i64 0, .int .i64 0, .string ⟨#[]⟩, .slice none 0 0] 29 (0, 0)) = W at *
  refine wp_region_rest (by kernel_rfl) ?_
  have hd : Below W.heap.size W W.drew := (Below.refl _ _).drew
  replace HBOX := Lib.hid ((hd.block _ (by have := RZ.out.low; omega)).trans HBOX.out)
  replace RZ := Lib.hid (RZ.out.next hd)
  replace H0 := Lib.hid (H0.out.below hd)
  clear hd
  generalize W.drew = W0 at *
  refine rest_ops 0 4 13 (fun j v u => match j with | 0 => v = .agg #[.int .i64 t.k, .int .i64 t.n, .string t.s, .slice a t.args.length cap] | 1 => v = .string s | 2 => v = .int .i64 n | 3 => IsTm u (fun b => W0.heap.size ≤ b) v (indT s n) | _ => True) (fun _ _ => none) (by kernel_rfl) (by kernel_rfl) rfl (.inr (by kernel_rfl)) ?hS ?hop ?_
  case hS =>
    intro j v u u' hkj hjn h hb
    match j, hkj, hjn, h with
    | 0, _, _, h => exact h
    | 1, _, _, h => exact h
    | 2, _, _, h => exact h
    | 3, _, _, h => exact h.below hb
    | q + 4, _, hq, _ => exact absurd hq (by omega)
  case hop =>
    refine ⟨fun v u hu hs Q' hQ => ?_, fun v u hu hs Q' hQ => ?_, fun v u hu hs Q' hQ => ?_, fun v u hu hs Q' hQ => ?_, trivial⟩
    · simp only [putAll, dstOf]
      obtain ⟨f0, f1, f2, f3⟩ := row4 ((hu.block _ (by have := RZ.out.low; omega)).trans HBOX.out)
      go_wp2
      exact ⟨rfl, Below.refl _ _, rfl, fun _ h => nomatch h⟩
    · simp only [putAll, dstOf]
      obtain ⟨f0, f1, f2, f3⟩ := row4 ((hu.block _ (by have := RZ.out.low; omega)).trans HBOX.out)
      go_wp2
      exact ⟨rfl, Below.refl _ _, rfl, fun _ h => nomatch h⟩
    · simp only [putAll, dstOf]
      obtain ⟨f0, f1, f2, f3⟩ := row4 ((hu.block _ (by have := RZ.out.low; omega)).trans HBOX.out)
      go_wp2
      exact ⟨rfl, Below.refl _ _, rfl, fun _ h => nomatch h⟩
    · simp only [putAll, dstOf]
      have s_1 : v 1 = .string s := hs 1 (by kernel_rfl) (by decide) (by decide)
      have s_2 : v 2 = .int .i64 n := hs 2 (by kernel_rfl) (by decide) (by decide)
      obtain ⟨f0, f1, f2, f3⟩ := row4 ((hu.block _ (by have := RZ.out.low; omega)).trans HBOX.out)
      go_wp2_with (go_at_call 22; refine (ref_ind _ _ _).mono ?_; rintro e1 w1 ⟨v1, rfl, hi1, hb1⟩)
      exact ⟨rfl, hb1, hi1.imp (fun b h => h.elim False.elim fun h => Nat.le_trans hu.size h) fun _ _ _ => rfl, fun _ h => nomatch h⟩
  intro v u hu hs hap
  have s_0 : v 0 = .agg #[.int .i64 t.k, .int .i64 t.n, .string t.s, .slice a t.args.length cap] := hs 0 (by decide) (by decide)
  have s_1 : v 1 = .string s := hs 1 (by decide) (by decide)
  have s_2 : v 2 = .int .i64 n := hs 2 (by decide) (by decide)
  have s_3 : IsTm u (fun b => W0.heap.size ≤ b) (v 3) (indT s n) := hs 3 (by decide) (by decide)
  simp only [putAll, dstOf]
  have hlow : w.heap.size + 2 ≤ W0.heap.size := RZ.out.low.2.2
  replace RZ := Lib.hid (RZ.out.next hu)
  replace H0 := Lib.hid (H0.out.below hu)
  obtain ⟨a3, c3, e3⟩ := s_3.form
  rw [e3] at s_3
  have H3 : Hid (IsTm u (Low P w (w.heap.size + 2)) (.agg #[.int .i64 (indT s n).k, .int .i64 (indT s n).n, .string (indT s n).s, .slice a3 (indT s n).args.length c3]) (indT s n)) := Lib.hid (s_3.imp (fun b h => .inr (Nat.le_trans hlow h)) fun _ _ _ => rfl)
  clear hs hap hu HBOX s_3
  refine rest_lineL 4 7 [_, _, _] rfl (by kernel_rfl) (by decide) (by decide) (by kernel_rfl) ?_
  go_wp2_with (first
    | (go_at_call 40
       refine (ref_comp _ _ _ _ _).mono ?_
       rintro e4 w4 ⟨rfl, hb4⟩
       have hrow := RZ.out.row (.cells #[.int .i64 t.k, .int .i64 t.n, .string t.s, .slice a t.args.length cap, .int .i64 (indT s n).k, .int .i64 (indT s n).n, .string (indT s n).s, .slice a3 (indT s n).args.length c3] 29 (0, 0))
       have hb34 := ((Below.refl u.heap.size u).alloc (Nat.le_refl _) _).trans (hb4.mono (by simp))
       have h4 : IsSl w4 (Low P w (w.heap.size + 2)) (.slice (some ⟨u.heap.size, 0, none⟩) 2 2) [t, indT s n] := sl_of_cells ((hb4.block _ (by simp)).trans hrow.2.1) (CellsOf.cons ((H0.out.below hb34).imp (fun _ h => .inl h) fun _ _ _ => rfl) (CellsOf.cons (H3.out.below hb34) trivial)) rfl (.inr hrow.2.2)
       have H4 := Lib.hid h4
       replace RZ := Lib.hid (hrow.1.next hb4)
       clear hrow hb34 h4 hb4)
    | (refine wpList_store_row rfl 29 (.tmp 6) (.tmp 12) rfl (w.heap.size + 1) _ rfl rfl _ _ RZ.out.res size_term rfl (one4 _ _ _ _ _ _) ?_))
  refine then_rest (rest_end (by decide) ?_)
  go_wp2
  have hz := setRow_heap w4 (w.heap.size + 1) _ (#[.int .i64 4, .int .i64 0, .string (⟨#[101, 114, 114, 111, 114]⟩ : ByteArray), .slice (some ⟨u.heap.size, 0, none⟩) 2 2] : Array Value) _ _ RZ.out.res
  refine bodyPost_ret (v := compV (⟨#[101, 114, 114, 111, 114]⟩ : ByteArray) (some ⟨u.heap.size, 0, none⟩) 2 2) (results_cell_row Try.results16 _ _ (w.heap.size + 1) _ _ _ _ rfl hz Try.underlying29 rfl (by kernel_rfl)) rfl (makes_at (comp_is (l := [t, indT s n]) H4.out) RZ.out.bel (Nat.le_succ _) RZ.out.low.2.1)

def exT (s : ByteArray) (n : Int) : Tm := compT (⟨#[101, 120, 105, 115, 116, 101, 110, 99, 101, 95, 101, 114, 114, 111, 114]⟩ : ByteArray) [atomT (⟨#[112, 114, 111, 99, 101, 100, 117, 114, 101]⟩ : ByteArray), indT s n]

set_option maxHeartbeats 1600000 in
theorem ref_unknown (s : ByteArray) (n : Int) (w : World) :
    Calls Try.prog 18 #[.string s, .int .i64 n] w (MakesTm (fun _ => False) (unknownT s n) w) := by
  have RZ := Lib.hid (Rz.first w)
  go_enter Try.func18, Try.ntmps18
  go_wp2_with (first
    | (go_at_call 22
       refine (ref_ind _ _ _).mono ?_
       rintro e3 w3 ⟨v3, rfl, hi3, hb3⟩
       obtain ⟨a3, c3, rfl⟩ := hi3.form
       have H3 : Hid (IsTm w3 (Low (fun _ => False) w (w.heap.size + 1)) (.agg #[.int .i64 (indT s n).k, .int .i64 (indT s n).n, .string (indT s n).s, .slice a3 (indT s n).args.length c3]) (indT s n)) := Lib.hid (hi3.imp (fun b h => h.elim False.elim fun h => .inr (Nat.le_trans RZ.out.low.2.2 h)) fun _ _ _ => rfl)
       replace RZ := Lib.hid (RZ.out.next hb3)
       clear hi3 hb3)
    | (go_at_call 13
       refine (ref_formal 8 _ _ _ _ _ H3.out).mono ?_
       rintro e4 w4 ⟨v4, rfl, hi4, hb4⟩
       have hu : formalE 8 (⟨#[112, 114, 111, 99, 101, 100, 117, 114, 101]⟩ : ByteArray) (indT s n) = exT s n := rfl
       rw [hu] at hi4
       obtain ⟨a4, c4, rfl⟩ := hi4.form
       have H4 : Hid (IsTm w4 (Low (fun _ => False) w (w.heap.size + 1)) (.agg #[.int .i64 (exT s n).k, .int .i64 (exT s n).n, .string (exT s n).s, .slice a4 (exT s n).args.length c4]) (exT s n)) := Lib.hid (hi4.imp (fun b h => h.elim id fun h => .inr (Nat.le_trans RZ.out.low.2.2 h)) fun _ _ _ => rfl)
       replace RZ := Lib.hid (RZ.out.next hb4)
       clear hi4 hb4 hu)
    | (go_at_call 16
       refine (ref_error (exT s n) s n _ _ _ H4.out).mono ?_
       rintro e5 w5 ⟨v5, rfl, hi5, hb5⟩
       have hu : errorT (exT s n) s n = unknownT s n := rfl
       rw [hu] at hi5
       obtain ⟨a5, c5, rfl⟩ := hi5.form
       have H5 : Hid (IsTm w5 (Low (fun _ => False) w (w.heap.size + 1)) (.agg #[.int .i64 (unknownT s n).k, .int .i64 (unknownT s n).n, .string (unknownT s n).s, .slice a5 (unknownT s n).args.length c5]) (unknownT s n)) := Lib.hid (hi5.imp (fun b h => h.elim id fun h => .inr (Nat.le_trans RZ.out.low.2.2 h)) fun _ _ _ => rfl)
       replace RZ := Lib.hid (RZ.out.next hb5)
       clear hi5 hb5 hu)
    | (refine wpList_store_row rfl 29 (.tmp 4) (.tmp 11) rfl w.heap.size _ rfl rfl _ _ RZ.out.res size_term rfl (one4 _ _ _ _ _ _) ?_))
  have hz := setRow_heap w5 w.heap.size _ (#[.int .i64 (unknownT s n).k, .int .i64 (unknownT s n).n, .string (unknownT s n).s, .slice a5 (unknownT s n).args.length c5] : Array Value) _ _ RZ.out.res
  refine bodyPost_ret (results_cell_row Try.results18 _ _ w.heap.size _ _ _ _ rfl hz Try.underlying29 rfl (by kernel_rfl)) rfl (makes_at H5.out RZ.out.bel (Nat.le_refl _) RZ.out.low.2.1)

set_option maxHeartbeats 1600000 in
theorem ref_static (act s : ByteArray) (n : Int) (w : World) :
    Calls Try.prog 20 #[.string act, .string s, .int .i64 n] w (MakesTm (fun _ => False) (staticT act s n) w) := by
  have RZ := Lib.hid (Rz.first w)
  go_enter Try.func20, Try.ntmps20
  go_wp2_with (first
    | (go_at_call 39
       refine (ref_atom _ _).mono ?_
       rintro e2 w2 ⟨rfl, hb2⟩
       replace RZ := Lib.hid (RZ.out.next hb2)
       clear hb2)
    | (go_at_call 22
       refine (ref_ind _ _ _).mono ?_
       rintro e3 w3 ⟨v3, rfl, hi3, hb3⟩
       obtain ⟨a3, c3, rfl⟩ := hi3.form
       have H3 : Hid (IsTm w3 (Low (fun _ => False) w (w.heap.size + 1)) (.agg #[.int .i64 (indT s n).k, .int .i64 (indT s n).n, .string (indT s n).s, .slice a3 (indT s n).args.length c3]) (indT s n)) := Lib.hid (hi3.imp (fun b h => h.elim False.elim fun h => .inr (Nat.le_trans RZ.out.low.2.2 h)) fun _ _ _ => rfl)
       replace RZ := Lib.hid (RZ.out.next hb3)
       clear hi3 hb3)
    | (go_at_call 40
       refine (ref_comp _ _ _ _ _).mono ?_
       rintro e4 w4 ⟨rfl, hb4⟩
       have hrow := RZ.out.row (.cells #[.int .i64 3, .int .i64 0, .string act, .slice none 0 0, .int .i64 3, .int .i64 0, .string (⟨#[115, 116, 97, 116, 105, 99, 95, 112, 114, 111, 99, 101, 100, 117, 114, 101]⟩ : ByteArray), .slice none 0 0, .int .i64 (indT s n).k, .int .i64 (indT s n).n, .string (indT s n).s, .slice a3 (indT s n).args.length c3] 29 (0, 0))
       have hb34 := ((Below.refl w3.heap.size w3).alloc (Nat.le_refl _) _).trans (hb4.mono (by simp))
       have h4 : IsSl w4 (Low (fun _ => False) w (w.heap.size + 1)) (.slice (some ⟨w3.heap.size, 0, none⟩) 3 3) [atomT act, atomT (⟨#[115, 116, 97, 116, 105, 99, 95, 112, 114, 111, 99, 101, 100, 117, 114, 101]⟩ : ByteArray), indT s n] := sl_of_cells ((hb4.block _ (by simp)).trans hrow.2.1) (CellsOf.cons (atom_is _ _ _) (CellsOf.cons (atom_is _ _ _) (CellsOf.cons (H3.out.below hb34) trivial))) rfl (.inr hrow.2.2)
       have H4 := Lib.hid h4
       replace RZ := Lib.hid (hrow.1.next hb4)
       clear hrow hb34 h4 hb4)
    | (refine wpList_store_row rfl 29 (.tmp 6) (.tmp 14) rfl w.heap.size _ rfl rfl _ _ RZ.out.res size_term rfl (one4 _ _ _ _ _ _) ?_))
  have hz := setRow_heap w4 w.heap.size _ (#[.int .i64 4, .int .i64 0, .string (⟨#[112, 101, 114, 109, 105, 115, 115, 105, 111, 110, 95, 101, 114, 114, 111, 114]⟩ : ByteArray), .slice (some ⟨w3.heap.size, 0, none⟩) 3 3] : Array Value) _ _ RZ.out.res
  refine bodyPost_ret (v := compV (⟨#[112, 101, 114, 109, 105, 115, 115, 105, 111, 110, 95, 101, 114, 114, 111, 114]⟩ : ByteArray) (some ⟨w3.heap.size, 0, none⟩) 3 3) (results_cell_row Try.results20 _ _ w.heap.size _ _ _ _ rfl hz Try.underlying29 rfl (by kernel_rfl)) rfl (makes_at (comp_is (l := [atomT act, atomT (⟨#[115, 116, 97, 116, 105, 99, 95, 112, 114, 111, 99, 101, 100, 117, 114, 101]⟩ : ByteArray), indT s n]) H4.out) RZ.out.bel (Nat.le_refl _) RZ.out.low.2.1)
end Go.Proofs.Ytlndoogiflcoeaa.Tms
