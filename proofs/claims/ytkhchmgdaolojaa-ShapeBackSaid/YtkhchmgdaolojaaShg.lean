
/-
  Layer 17: compare of a call, walked.
-/
import Derived.Test.YtkhchmgdaolojaaSht
import Derived.Test.YtkhchmgdaolojaaCmp
import Derived.Test.YtkhchmgdaolojaaRow
namespace Go.Proofs.Ytkhchmgdaolojaa.Tms
open Go Go.RowKit Go.Proofs.Ytkhchmgdaolojaa.Reg Go.Proofs.Ytkhchmgdaolojaa.Rws Go.Proofs.Ytkhchmgdaolojaa.Maps Go.Instr
set_option linter.unusedVariables false
set_option linter.unusedSimpArgs false

/-- a call that makes arguments one, from a first on, with terms -/
def DidOk (f : Int) (ts : List Tm) (w : World) (e : Ending) (w' : World) : Prop := ∃ va vt, e = .returned (.agg #[.bool true, va, vt, .int .i64 0, .int .i64 0, .string ⟨#[]⟩, .slice none 0 0]) ∧ IntSl w' (fun b => w.heap.size < b) va (firsts f ts.length) ∧ IsSl w' (fun b => w.heap.size < b) vt ts ∧ Below w.heap.size w w'
theorem IntSl.firsts {w : World} {P : Nat → Prop} {v : Value} {f : Int} {n : Nat} (h : IntSl w P v (firsts f n)) : ∃ q k, v = .slice q n k := by
  obtain ⟨a, cap, e, -⟩ := h
  rw [firsts_len] at e
  exact ⟨a, cap, e⟩
/-- made's answer, stored in the result's row -/
theorem DidOk.fin {f : Int} {ts : List Tm} {w w6 w9 : World} {va vt : Value} {r : Nat} (cs : Array Value) (hb : Below w.heap.size w w9) (hr : w.heap.size ≤ r) (hs : r < w6.heap.size) (h1 : IntSl w9 (fun b => w6.heap.size + 2 ≤ b) va (firsts f ts.length)) (h2 : IsSl w9 (fun b => w6.heap.size ≤ b) vt ts) :
    DidOk f ts w (.returned (.agg #[.bool true, va, vt, .int .i64 0, .int .i64 0, .string ⟨#[]⟩, .slice none 0 0])) (w9.setRow r cs) := by
  have hoth : ∀ b, b ≠ r → (w9.setRow r cs).heap[b]? = w9.heap[b]? := fun b hb => setRow_other _ _ _ _ hb
  have hsz : (w9.setRow r cs).heap.size = w9.heap.size := by simp
  refine ⟨va, vt, rfl, ?_, h2.imp (fun b hb => by omega) fun b hb _ => hoth b (by omega), ⟨hb.os, hb.tape, hb.output, by rw [hsz]; exact hb.size, fun b hlt => (hoth b (by omega)).trans (hb.block b hlt)⟩⟩
  obtain ⟨a, cap, e, k1, k2, k3⟩ := h1
  refine ⟨a, cap, e, k1, k2, fun i hi => ?_⟩
  obtain ⟨b, off, e1, hp, hl, hc⟩ := k3 i hi
  exact ⟨b, off, e1, by omega, by rw [hsz]; exact hl, (World.cell?_of_block (a := ⟨b, off + i, none⟩) (hoth b (by omega))).trans hc⟩
def ordS (n : Int) : ByteArray := if n < 0 then (⟨#[60]⟩ : ByteArray) else if 0 < n then (⟨#[62]⟩ : ByteArray) else (⟨#[61]⟩ : ByteArray)
theorem IsSl.atb {w : World} {P : Nat → Prop} {b off n c : Nat} {ts : List Tm} (h : IsSl w P (.slice (some ⟨b, off, none⟩) n c) ts) (i : Nat) (hi : i < ts.length) : TmAt w P b (off + i * 4) ts[i] := by
  obtain ⟨b', off', e, -, hat⟩ := h.at i hi
  simp only [Option.some.injEq, Addr.mk.injEq, and_true] at e
  obtain ⟨rfl, rfl⟩ := e
  exact hat
set_option maxRecDepth 100000 in
set_option maxHeartbeats 4000000 in
/-- compare of a variable and two terms -/
theorem sh_compare (s : ByteArray) (x t u : Tm) (P : Nat → Prop) (w : World) (a : Option Addr) (c : Nat) (h : IsSl w P (.slice a 3 c) [x, t, u]) (hx : x.k = 1) (hM : t.size ≤ 1000000000) (hM' : u.size ≤ 1000000000) :
    Calls Try.prog 85 #[.agg #[.string s, .slice a 3 c]] w (DidOk 0 [atomT (ordS (cmpT t u))] w) := by
  obtain ⟨n, hn⟩ : ∃ n, n = cmpT t u := ⟨_, rfl⟩
  rw [← hn]
  have HN := Lib.hid hn
  clear hn
  obtain ⟨w1, w2, w3, w4⟩ := two w (.cells #[.string s, .slice a 3 c] 140 (0, 0)) (.cells #[.bool false, .slice none 0 0, .slice none 0 0, .int .i64 0, .int .i64 0, .string ⟨#[]⟩, .slice none 0 0] 71 (0, 0))
  have x0 := cell_of_row _ _ 0 _ _ _ w1
  have x1 := cell_of_row _ _ 1 _ _ _ w1
  have HR := Lib.hid w2
  have HC := Lib.hid w1
  have HB := Lib.hid w4
  have HZ := Lib.hid w3
  have H := Lib.hid (h.below w4)
  obtain ⟨b, off, e1, -, hat⟩ := H.out.at 0 (by simp)
  subst e1
  simp only [List.getElem_cons_zero, Nat.zero_mul, Nat.add_zero] at hat
  obtain ⟨qa, qc, y0, y1, y2, y3, -, hbw⟩ := hat.read
  rw [hx] at y0
  clear h w1 w2 w3 w4 hat hx
  go_enter Try.func85, Try.ntmps85
  go_upto_region 1 with fail
  generalize ((w.alloc (.cells #[.string s, .slice (some ⟨b, off, none⟩) 3 c] 140 (0, 0))).alloc (.cells #[.bool false, .slice none 0 0, .slice none 0 0, .int .i64 0, .int .i64 0, .string ⟨#[]⟩, .slice none 0 0] 71 (0, 0))) = W1 at *
  go_upto_region 6 with fail
  have hba : Below W1.heap.size W1 (W1.alloc (.cells #[.int .i64 1, .int .i64 x.n, .string x.s, .slice qa x.args.length qc] 49 (0, 0))) := (Below.refl _ _).alloc (Nat.le_refl _) _
  refine wp_region_rest (by kernel_rfl) ?_
  have hd := hba.drew
  have hs2 : (W1.alloc (.cells #[.int .i64 1, .int .i64 x.n, .string x.s, .slice qa x.args.length qc] 49 (0, 0))).drew.heap.size = w.heap.size + 3 := by have := HZ.out; simp [World.drew]; omega
  generalize (W1.alloc (.cells #[.int .i64 1, .int .i64 x.n, .string x.s, .slice qa x.args.length qc] 49 (0, 0))).drew = W2 at *
  have H2 := Lib.hid (H.out.below hd)
  have HR2 := Lib.hid ((hd.block _ (Array.getElem?_eq_some_iff.1 HR.out).1).trans HR.out)
  have hc2 := (hd.block _ (Array.getElem?_eq_some_iff.1 HC.out).1).trans HC.out
  have HB2 := Lib.hid (HB.out.trans (hd.mono HB.out.size))
  clear x0 x1 y0 y1 y2 y3 hbw H HR HC HB HZ hba hd
  have x0 := cell_of_row _ _ 0 _ _ _ hc2
  have x1 := cell_of_row _ _ 1 _ _ _ hc2
  clear hc2
  obtain ⟨za, zc, z0, z1, z2, z3, hit, hl1⟩ := (H2.out.atb 1 (by simp)).read
  obtain ⟨za', zc', z4, z5, z6, z7, hit', hl2⟩ := (H2.out.atb 2 (by simp)).read
  simp only [List.getElem_cons_zero, List.getElem_cons_succ, Nat.one_mul] at z0 z1 z2 z3 z4 z5 z6 z7 hit hit'
  have HIT := Lib.hid hit
  have HIT' := Lib.hid hit'
  clear hit hit' H2
  refine rest_chain 0 9 [(false, [0, 1, 2, 3, 4, 5, 6, 7]), (true, [8])] [(false, [_, _, _, _, _, _, _, _]), (true, [_])] rfl (by kernel_rfl) (by kernel_rfl) rfl (by kernel_rfl) (by kernel_rfl) (.inr (by kernel_rfl)) ?_
  refine chain_soft ?_
  intro E hE
  go_wp2
  clear x0 x1 z0 z1 z2 z3 z4 z5 z6 z7 hl1 hl2
  refine chain_one ?_
  intro E hE
  go_wp2_with (refine (tm_Compare t u _ _ _ _ _ hM hM' HIT.out HIT'.out).mono ?_; rintro e5 w5 ⟨rfl, hb5⟩; have HB5 := Lib.hid hb5; clear hb5)
  refine ⟨HB5.out, ?_⟩
  refine chain_nil ?_
  refine rest_lineL 9 10 [_] rfl (by kernel_rfl) (by decide) (by decide) (by kernel_rfl) ?_
  have HB3 := Lib.hid (HB2.out.trans (HB5.out.mono HB2.out.size))
  have HR3 := Lib.hid ((HB5.out.block _ (Array.getElem?_eq_some_iff.1 HR2.out).1).trans HR2.out)
  have hs3 : w.heap.size + 3 ≤ w5.heap.size := by have := HB5.out.size; omega
  clear HB2 HR2 HB5 HIT HIT' hs2
  rw [← HN.out]
  go_wp2
  refine then_rest (rest_end (by decide) ?_)
  by_cases h1 : n < 0
  · have b1 : decide (n < 0) = true := by simpa using h1
    have HO := Lib.hid (show ordS n = ⟨#[60]⟩ by unfold ordS; rw [if_pos h1])
    clear h1
    go_wp2_with fail
    refine (sh_atom _ _).mono ?_
    rintro e6 w6 ⟨rfl, hb6⟩
    have HA6 := Lib.hid (hb6.trans (((Below.refl w6.heap.size w6).alloc (Nat.le_refl _) (.cells #[.int .i64 3, .int .i64 0, .string ⟨#[60]⟩, .slice none 0 0] 49 (0, 0))).mono hb6.size))
    have HIS := Lib.hid (show IsSl (w6.alloc (.cells #[.int .i64 3, .int .i64 0, .string ⟨#[60]⟩, .slice none 0 0] 49 (0, 0))) AnyB (.slice (some ⟨w6.heap.size, 0, none⟩) 1 1) [atomT ⟨#[60]⟩] from row1 (x := atomT ⟨#[60]⟩) (a := none) (c := 0) (atom_is w6 AnyB ⟨#[60]⟩))
    have hs6 := hb6.size
    clear hb6
    go_wp2_with fail
    refine (sh_made 0 [atomT ⟨#[60]⟩] _ AnyB _ (by decide) (by decide) (by simp) (by simp [atomT, Tm.size, sizeL]) HIS.out).mono ?_
    rintro e9 w9 ⟨va, vt, rfl, hi9, hs9, hb9⟩
    obtain ⟨q1, k1, e1⟩ : ∃ q k, va = .slice q 1 k := hi9.firsts
    obtain ⟨q2, k2, e2⟩ : ∃ q k, vt = .slice q 1 k := hs9.form
    subst e1 e2
    have hbx := (HB3.out.trans (HA6.out.mono (by have := HB3.out.size; omega))).trans (hb9.mono (by have := HB3.out.size; have := HA6.out.size; omega))
    have HFIN := Lib.hid (fun cs => DidOk.fin (r := w.heap.size + 1) cs hbx (by omega) (by have := HA6.out.size; omega) hi9 hs9)
    have HR9 := Lib.hid (row_on (row_on HR3.out HA6.out) hb9)
    clear hi9 hs9 hb9 hbx
    go_wp2_with (with_reducible show wpList _ _ _ (⟨none, .store _ (.tmp 2) _, _, _, _, _⟩ :: _) _ _
                 go_must (
                   refine wpList_store_row rfl 71 (.tmp 2) (.tmp 55) rfl (w.heap.size + 1) #[.bool true, .slice q1 1 k1, .slice q2 1 k2, .int .i64 0, .int .i64 0, .string ⟨#[]⟩, .slice none 0 0] rfl rfl _ _ HR9.out size_did rfl (one7 _ _ _ _ _ _ _) ?_))
    have hz := setRow_heap w9 (w.heap.size + 1) _ (#[.bool true, .slice q1 1 k1, .slice q2 1 k2, .int .i64 0, .int .i64 0, .string ⟨#[]⟩, .slice none 0 0] : Array Value) _ _ HR9.out
    exact bodyPost_ret (v := .agg #[.bool true, .slice q1 1 k1, .slice q2 1 k2, .int .i64 0, .int .i64 0, .string ⟨#[]⟩, .slice none 0 0]) (results_cell_row Try.results85 _ _ (w.heap.size + 1) _ _ _ _ rfl hz Try.underlying71 rfl (by kernel_rfl)) rfl (HO.out ▸ HFIN.out _)
  by_cases h2 : 0 < n
  · have b1 : decide (n < 0) = false := by simpa using h1
    have b2 : decide (0 < n) = true := by simpa using h2
    have HO := Lib.hid (show ordS n = ⟨#[62]⟩ by unfold ordS; rw [if_neg h1, if_pos h2])
    clear h1 h2
    go_wp2_with fail
    refine (sh_atom _ _).mono ?_
    rintro e6 w6 ⟨rfl, hb6⟩
    have HA6 := Lib.hid (hb6.trans (((Below.refl w6.heap.size w6).alloc (Nat.le_refl _) (.cells #[.int .i64 3, .int .i64 0, .string ⟨#[62]⟩, .slice none 0 0] 49 (0, 0))).mono hb6.size))
    have HIS := Lib.hid (show IsSl (w6.alloc (.cells #[.int .i64 3, .int .i64 0, .string ⟨#[62]⟩, .slice none 0 0] 49 (0, 0))) AnyB (.slice (some ⟨w6.heap.size, 0, none⟩) 1 1) [atomT ⟨#[62]⟩] from row1 (x := atomT ⟨#[62]⟩) (a := none) (c := 0) (atom_is w6 AnyB ⟨#[62]⟩))
    have hs6 := hb6.size
    clear hb6
    go_wp2_with fail
    refine (sh_made 0 [atomT ⟨#[62]⟩] _ AnyB _ (by decide) (by decide) (by simp) (by simp [atomT, Tm.size, sizeL]) HIS.out).mono ?_
    rintro e9 w9 ⟨va, vt, rfl, hi9, hs9, hb9⟩
    obtain ⟨q1, k1, e1⟩ : ∃ q k, va = .slice q 1 k := hi9.firsts
    obtain ⟨q2, k2, e2⟩ : ∃ q k, vt = .slice q 1 k := hs9.form
    subst e1 e2
    have hbx := (HB3.out.trans (HA6.out.mono (by have := HB3.out.size; omega))).trans (hb9.mono (by have := HB3.out.size; have := HA6.out.size; omega))
    have HFIN := Lib.hid (fun cs => DidOk.fin (r := w.heap.size + 1) cs hbx (by omega) (by have := HA6.out.size; omega) hi9 hs9)
    have HR9 := Lib.hid (row_on (row_on HR3.out HA6.out) hb9)
    clear hi9 hs9 hb9 hbx
    go_wp2_with (with_reducible show wpList _ _ _ (⟨none, .store _ (.tmp 2) _, _, _, _, _⟩ :: _) _ _
                 go_must (
                   refine wpList_store_row rfl 71 (.tmp 2) (.tmp 61) rfl (w.heap.size + 1) #[.bool true, .slice q1 1 k1, .slice q2 1 k2, .int .i64 0, .int .i64 0, .string ⟨#[]⟩, .slice none 0 0] rfl rfl _ _ HR9.out size_did rfl (one7 _ _ _ _ _ _ _) ?_))
    have hz := setRow_heap w9 (w.heap.size + 1) _ (#[.bool true, .slice q1 1 k1, .slice q2 1 k2, .int .i64 0, .int .i64 0, .string ⟨#[]⟩, .slice none 0 0] : Array Value) _ _ HR9.out
    exact bodyPost_ret (v := .agg #[.bool true, .slice q1 1 k1, .slice q2 1 k2, .int .i64 0, .int .i64 0, .string ⟨#[]⟩, .slice none 0 0]) (results_cell_row Try.results85 _ _ (w.heap.size + 1) _ _ _ _ rfl hz Try.underlying71 rfl (by kernel_rfl)) rfl (HO.out ▸ HFIN.out _)
  · have b1 : decide (n < 0) = false := by simpa using h1
    have b2 : decide (0 < n) = false := by simpa using h2
    have HO := Lib.hid (show ordS n = ⟨#[61]⟩ by unfold ordS; rw [if_neg h1, if_neg h2])
    clear h1 h2
    go_wp2_with fail
    refine (sh_atom _ _).mono ?_
    rintro e6 w6 ⟨rfl, hb6⟩
    have HA6 := Lib.hid (hb6.trans (((Below.refl w6.heap.size w6).alloc (Nat.le_refl _) (.cells #[.int .i64 3, .int .i64 0, .string ⟨#[61]⟩, .slice none 0 0] 49 (0, 0))).mono hb6.size))
    have HIS := Lib.hid (show IsSl (w6.alloc (.cells #[.int .i64 3, .int .i64 0, .string ⟨#[61]⟩, .slice none 0 0] 49 (0, 0))) AnyB (.slice (some ⟨w6.heap.size, 0, none⟩) 1 1) [atomT ⟨#[61]⟩] from row1 (x := atomT ⟨#[61]⟩) (a := none) (c := 0) (atom_is w6 AnyB ⟨#[61]⟩))
    have hs6 := hb6.size
    clear hb6
    go_wp2_with fail
    refine (sh_made 0 [atomT ⟨#[61]⟩] _ AnyB _ (by decide) (by decide) (by simp) (by simp [atomT, Tm.size, sizeL]) HIS.out).mono ?_
    rintro e9 w9 ⟨va, vt, rfl, hi9, hs9, hb9⟩
    obtain ⟨q1, k1, e1⟩ : ∃ q k, va = .slice q 1 k := hi9.firsts
    obtain ⟨q2, k2, e2⟩ : ∃ q k, vt = .slice q 1 k := hs9.form
    subst e1 e2
    have hbx := (HB3.out.trans (HA6.out.mono (by have := HB3.out.size; omega))).trans (hb9.mono (by have := HB3.out.size; have := HA6.out.size; omega))
    have HFIN := Lib.hid (fun cs => DidOk.fin (r := w.heap.size + 1) cs hbx (by omega) (by have := HA6.out.size; omega) hi9 hs9)
    have HR9 := Lib.hid (row_on (row_on HR3.out HA6.out) hb9)
    clear hi9 hs9 hb9 hbx
    go_wp2_with (with_reducible show wpList _ _ _ (⟨none, .store _ (.tmp 2) _, _, _, _, _⟩ :: _) _ _
                 go_must (
                   refine wpList_store_row rfl 71 (.tmp 2) (.tmp 64) rfl (w.heap.size + 1) #[.bool true, .slice q1 1 k1, .slice q2 1 k2, .int .i64 0, .int .i64 0, .string ⟨#[]⟩, .slice none 0 0] rfl rfl _ _ HR9.out size_did rfl (one7 _ _ _ _ _ _ _) ?_))
    have hz := setRow_heap w9 (w.heap.size + 1) _ (#[.bool true, .slice q1 1 k1, .slice q2 1 k2, .int .i64 0, .int .i64 0, .string ⟨#[]⟩, .slice none 0 0] : Array Value) _ _ HR9.out
    exact bodyPost_ret (v := .agg #[.bool true, .slice q1 1 k1, .slice q2 1 k2, .int .i64 0, .int .i64 0, .string ⟨#[]⟩, .slice none 0 0]) (results_cell_row Try.results85 _ _ (w.heap.size + 1) _ _ _ _ rfl hz Try.underlying71 rfl (by kernel_rfl)) rfl (HO.out ▸ HFIN.out _)
end Go.Proofs.Ytkhchmgdaolojaa.Tms
