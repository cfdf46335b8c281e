
/-
  The reference's Of walked over the program.
-/
import Derived.Test.YtoklbeogmcdgaaaPt
namespace Go.Proofs.Ytoklbeogmcdgaaa.Tms
open Go Go.RowKit

def OfPost (t : Tm) (n : Nat) (w : World) (e : Ending) (w' : World) : Prop := ∃ v, e = .returned (.tuple #[v, .int .i64 n]) ∧ IsTm w' (fun b => w.heap.size ≤ b) v t ∧ Below w.heap.size w w'

structure OfCtx (w : World) (L : List Pt) (vl : Value) (p : Pt) (v : Value) (wr : World) : Prop where
  res : wr.heap[w.heap.size]? = some (.cells #[.int .i64 0, .int .i64 0, .string ⟨#[]⟩, .slice none 0 0] 33 (0, 0))
  part : wr.heap[w.heap.size + 1]? = some (.cells #[.int .i64 p.k, .int .i64 p.n, .string p.s, .int .u8 p.a] 124 (0, 0))
  box : wr.heap[w.heap.size + 2]? = some (.cells #[.int .i64 p.k, .int .i64 p.n, .string p.s, v] 33 (0, 0))
  bel : Below w.heap.size w wr
  big : w.heap.size + 3 ≤ wr.heap.size
  args : PtSl wr vl L

theorem OfCtx.on {w : World} {L : List Pt} {vl : Value} {p : Pt} {v : Value} {wr w' : World} (h : OfCtx w L vl p v wr) (h0 : PtSl w vl L) (hb : Below (w.heap.size + 3) wr w') : OfCtx w L vl p v w' :=
  have hbel := h.bel.trans (hb.mono (by omega))
  ⟨(hb.block _ (by omega)).trans h.res, (hb.block _ (by omega)).trans h.part, (hb.block _ (by omega)).trans h.box, hbel, Nat.le_trans h.big hb.size, h0.below hbel⟩
theorem OfCtx.store {w : World} {L : List Pt} {vl : Value} {p : Pt} {v v' : Value} {wr : World} (h : OfCtx w L vl p v wr) (h0 : PtSl w vl L) : OfCtx w L vl p v' (wr.setCell ⟨w.heap.size + 2, 3, none⟩ v') := by
  have hbel : Below w.heap.size w (wr.setCell ⟨w.heap.size + 2, 3, none⟩ v') := h.bel.setCell (show w.heap.size ≤ w.heap.size + 2 by omega) _
  have ne := fun (k : Nat) (hk : k ≠ w.heap.size + 2) => Below.heap_setCell wr ⟨w.heap.size + 2, 3, none⟩ v' k hk
  refine ⟨(ne _ (by omega)).trans h.res, (ne _ (by omega)).trans h.part, ?_, hbel, by simpa [World.setCell] using h.big, h0.below hbel⟩
  have := heap_setCell_same wr (w.heap.size + 2) 3 _ _ v' h.box
  simpa using this
theorem OwnSl.setLow {w : World} {base : Nat} {v : Value} {ts : List Tm} (h : OwnSl w base (fun b => base ≤ b) v ts) {b q : Nat} (hb : b < base) (u : Value) : OwnSl (w.setCell ⟨b, q, none⟩ u) base (fun b => base ≤ b) v ts := by
  obtain ⟨xs, h1, h2⟩ := h
  exact ⟨xs, ownsRow_setCell_below h1 (by exact hb) u, h2.imp2 (fun b h => ⟨h.1, h.2.1, by simpa [World.setCell] using h.2.2⟩) fun k h _ => Below.heap_setCell w ⟨b, q, none⟩ u k (by have := h.1; show k ≠ b; omega)⟩

def OfRel (w : World) (N : Nat) (L : List Pt) (vl : Value) (p : Pt) (l : List Pt) (va vi : Value) (wr : World) : Prop :=
  ∃ (k : Nat) (v : Value), k ≤ p.a % 8 ∧ vi = .int .i64 k ∧ va = .int .i64 (((ofTo (ofN N) l k).2 + 1 : Nat) : Int) ∧ OfCtx w L vl p v wr ∧ OwnSl wr (w.heap.size + 3) (fun b => w.heap.size + 3 ≤ b) v (ofTo (ofN N) l k).1

theorem of_start (w : World) (N : Nat) (l : List Pt) (p : Pt) (vl : Value) (h : PtSl w vl (p :: l)) :
    OfRel w N (p :: l) vl p l (.int .i64 1) (.int .i64 0) (((w.alloc (.cells #[.int .i64 0, .int .i64 0, .string ⟨#[]⟩, .slice none 0 0] 33 (0, 0))).alloc (.cells #[.int .i64 p.k, .int .i64 p.n, .string p.s, .int .u8 p.a] 124 (0, 0))).alloc
      (.cells #[.int .i64 p.k, .int .i64 p.n, .string p.s, .slice none 0 0] 33 (0, 0))) := by
  obtain ⟨t0, t1, tsz, tbl⟩ := two w (.cells #[.int .i64 0, .int .i64 0, .string ⟨#[]⟩, .slice none 0 0] 33 (0, 0)) (.cells #[.int .i64 p.k, .int .i64 p.n, .string p.s, .int .u8 p.a] 124 (0, 0))
  generalize (w.alloc (.cells #[.int .i64 0, .int .i64 0, .string ⟨#[]⟩, .slice none 0 0] 33 (0, 0))).alloc (.cells #[.int .i64 p.k, .int .i64 p.n, .string p.s, .int .u8 p.a] 124 (0, 0)) = w2 at *
  have hb : Below w2.heap.size w2 (w2.alloc (.cells #[.int .i64 p.k, .int .i64 p.n, .string p.s, .slice none 0 0] 33 (0, 0))) := (Below.refl _ _).alloc (Nat.le_refl _) _
  have hbel := tbl.trans (hb.mono (by omega))
  refine ⟨0, .slice none 0 0, by omega, rfl, rfl, ⟨(hb.block _ (by omega)).trans t0, (hb.block _ (by omega)).trans t1, ?_, hbel, by simp; omega, h.below hbel⟩, OwnSl.nil _ _ _⟩
  rw [show w.heap.size + 2 = w2.heap.size by omega]
  exact heap_alloc_new _ _

theorem of_end {w wr : World} {N : Nat} {L : List Pt} {vl : Value} {p : Pt} {l : List Pt} {a : Option Addr} {c n : Nat} (hc : OfCtx w L vl p (.slice a n c) wr) (ho : OwnSl wr (w.heap.size + 3) (fun b => w.heap.size + 3 ≤ b) (.slice a n c) (ofTo (ofN N) l (p.a % 8)).1) (hn : n = (ofTo (ofN N) l (p.a % 8)).1.length) {cs : Array Value} :
    IsTm (wr.setRow w.heap.size cs) (fun b => w.heap.size ≤ b) (.agg #[.int .i64 p.k, .int .i64 p.n, .string p.s, .slice a n c]) (ofN (N + 1) (p :: l)).1 ∧ Below w.heap.size w (wr.setRow w.heap.size cs) := by
  subst hn
  refine ⟨IsTm.mk' (t := (ofN (N + 1) (p :: l)).1) ?_, hc.bel.trans ⟨rfl, rfl, rfl, by simp, fun k hk => setRow_other _ _ _ _ (by omega)⟩⟩
  exact ho.reads.imp (fun b h => by rcases h with h | h <;> omega) fun b h _ => setRow_other _ _ _ _ (by rcases h with h | h <;> omega)

set_option maxHeartbeats 1600000 in
theorem ref_of (N : Nat) : ∀ (L : List Pt) (v : Value) (w : World), L.length ≤ N → L.length ≤ 1000000 → PtSl w v L → Calls Try.prog 32 #[v] w (OfPost (ofN N L).1 (ofN N L).2 w) := by
  have empty : ∀ (v : Value) (w : World), PtSl w v [] → Calls Try.prog 32 #[v] w (OfPost atomA 0 w) := by
    intro v w h
    obtain ⟨a, cap, rfl, -⟩ := h.form
    clear h
    go_enter Try.func32, Try.ntmps32
    go_wp2
    exact bodyPost_ret (v := .tuple #[atomV ⟨#[97]⟩, .int .i64 0]) (by simp [results, Try.results32, go_sem]) rfl ⟨_, rfl, atom_is _ _ _, (Below.refl _ _).alloc (Nat.le_refl _) _⟩
  induction N with
  | zero =>
    intro L v w hN hL h
    obtain rfl : L = [] := List.eq_nil_of_length_eq_zero (by omega)
    exact empty v w h
  | succ N ih =>
    intro L v w hN hL h
    rcases L with _ | ⟨p, l⟩
    · exact empty v w h
    have IH := Lib.hid ih
    clear ih empty
    have hst := of_start w N l p v h
    obtain ⟨a, cap, rfl, -⟩ := h.form
    obtain ⟨b, off, rfl, hpa, hlt, hcl, hcm, c0, c1, c2, c3⟩ := h.head
    have HST := Lib.hid hst
    have H := Lib.hid h
    have hl : l.length + 1 ≤ 1000000 := by simpa using hL
    have HN : Hid (l.length ≤ N) := Lib.hid (by simp at hN; omega)
    clear hst h hN hL
    simp only [List.length_cons] at HST H ⊢
    have hne : ((l.length : Int) + 1 == 0) = false := by rw [beq_eq_false_iff_ne]; omega
    go_enter Try.func32, Try.ntmps32
    go_wp2
    clear c0 c1 c2 c3
    go_loopw [6, 7] (fun va vi wr => OfRel w N (p :: l) (.slice (some ⟨b, off, none⟩) (l.length + 1) cap) p l va vi wr) (fun _ vi _ => p.a % 8 - (intOf vi).toNat)
    case atStart => exact HST.out
    case round =>
      obtain ⟨k, v, hk, rfl, rfl, cx, ho⟩ := hrel
      obtain ⟨-, p1, p2, p3⟩ := row4 cx.part
      obtain ⟨t0, t1, t2, t3⟩ := row4 cx.box
      have hbig := cx.big
      have hle := ofTo_le (ofN_le N) l k
      have hlen := ofTo_len (ofN N) l k
      have hv := ho.form
      rw [hlen] at hv
      obtain ⟨av, cv, rfl⟩ := hv
      have CX := Lib.hid cx
      have OWN := Lib.hid ho
      have HLEN := Lib.hid hlen
      clear HST cx ho hlen
      by_cases hkm : k < p.a % 8
      · have hkm' : (k : Int) < (p.a : Int) % 8 := by omega
        rcases Nat.lt_or_ge ((ofTo (ofN N) l k).2 + 1) cap with hc | hc
        · have hin := (PtSl.drop (L := p :: l) (k := (ofTo (ofN N) l k).2 + 1) CX.out.args (by simp only [List.length_cons]; omega))
          have HIN : Hid (PtSl wr (.slice (some ⟨b, off + ((ofTo (ofN N) l k).2 + 1) * 4, none⟩) (l.length - (ofTo (ofN N) l k).2) (cap - ((ofTo (ofN N) l k).2 + 1))) (l.drop (ofTo (ofN N) l k).2)) := Lib.hid (by simpa using hin)
          clear hin
          have hdl : (l.drop (ofTo (ofN N) l k).2).length ≤ N := by rw [List.length_drop]; have := HN.out; omega
          have hdl2 : (l.drop (ofTo (ofN N) l k).2).length ≤ 1000000 := by rw [List.length_drop]; omega
          have hk6 : k ≤ 1000000000 := by omega
          have hm2 := ofN_le N (l.drop (ofTo (ofN N) l k).2)
          rw [List.length_drop] at hm2
          go_wp2_with (first
            | (go_at_call 32
               refine (IH.out (l.drop (ofTo (ofN N) l k).2) _ _ hdl hdl2 HIN.out).mono ?_
               rintro e2 w2 ⟨v2, rfl, hi2, hb2⟩
               obtain ⟨a2, c2, rfl⟩ := hi2.form
               have hx := CX.out.on H.out (hb2.mono hbig)
               have hal : Below w2.heap.size w2 (w2.alloc (.cells #[.int .i64 (ofN N (l.drop (ofTo (ofN N) l k).2)).1.k, .int .i64 (ofN N (l.drop (ofTo (ofN N) l k).2)).1.n, .string (ofN N (l.drop (ofTo (ofN N) l k).2)).1.s, .slice a2 (ofN N (l.drop (ofTo (ofN N) l k).2)).1.args.length c2] 33 (0, 0))) := (Below.refl _ _).alloc (Nat.le_refl _) _
               have CX2 := Lib.hid (hx.on H.out (hal.mono hx.big))
               have OWN2 := Lib.hid ((OWN.out.below hb2).below hal)
               have hit := (hi2.imp (P' := fun b => w.heap.size + 3 ≤ b ∧ Value.ownBlock (.slice av k cv) ≠ some b) (fun b h => ⟨Nat.le_trans hbig h, fun e => by have := (OWN.out.low b e).2; omega⟩) fun _ _ _ => rfl).below hal
               have HIT := Lib.hid hit
               have t3 : w2.cell? ⟨w.heap.size + 1 + 1, 3, none⟩ = some (.slice av k cv) := (row4 hx.box).2.2.2
               have hlt2 : w.heap.size + 1 + 1 < w2.heap.size := by have := hx.big; omega
               have hbig2 := hx.big
               have hb2s := hb2.size
               clear hi2 hb2 hx hal hit)
            | (with_reducible show wpList _ _ _ (⟨some 43, _, _, _, _, _⟩ :: _) _ _; refine wpList_push_term rfl (.tmp 40) (.tmp 42) rfl (w.heap.size + 3) _ _ _ _ _ _ _ _ _ rfl OWN2.out rfl (by simp) HIT.out (by rw [HLEN.out]; exact hk6) (by simp; omega) ?_
               intro v3 w3 hown hb3 _ _
               obtain ⟨a3, c3, rfl⟩ := hown.form
               have e1 : ((ofTo (ofN N) l k).1 ++ [(ofN N (l.drop (ofTo (ofN N) l k).2)).1]).length = k + 1 := by rw [List.length_append, HLEN.out]; rfl
               rw [e1] at hown
               rw [e1]
               clear e1
               have cx3 := CX2.out.on H.out hb3
               have t33 : w3.cell? ⟨w.heap.size + 1 + 1, 3, none⟩ = some (.slice av k cv) := (row4 cx3.box).2.2.2
               have hf3 : w3.frozen? ⟨w.heap.size + 1 + 1, 3, none⟩ = false := frozen_of_row _ _ 3 _ _ cx3.box
               have e2 : w.heap.size + 1 + 1 = w.heap.size + 2 := rfl
               have CX3 : Hid (OfCtx w (p :: l) _ p (.slice a3 (k + 1) c3) (w3.setCell ⟨w.heap.size + 1 + 1, 3, none⟩ (.slice a3 (k + 1) c3))) := Lib.hid (by rw [e2]; exact cx3.store H.out)
               have OWN3 : Hid (OwnSl (w3.setCell ⟨w.heap.size + 1 + 1, 3, none⟩ (.slice a3 (k + 1) c3)) (w.heap.size + 3) (fun b => w.heap.size + 3 ≤ b) (.slice a3 (k + 1) c3) (ofTo (ofN N) l (k + 1)).1) := Lib.hid (by rw [e2]; exact hown.setLow (by omega) _)
               clear e2
               clear cx3 hown hb3))
          go_roundw
          case rel => exact ⟨k + 1, _, by omega, by go_num, by simp only [ofTo]; go_num, CX3.out, OWN3.out⟩
          case measure => simp [intOf]; omega
        · have hin : l.length = (ofTo (ofN N) l k).2 := by omega
          have HIN : Hid (PtSl wr (.slice (some ⟨b, off, none⟩) (l.length - (ofTo (ofN N) l k).2) 0) (l.drop (ofTo (ofN N) l k).2)) := Lib.hid (by rw [← hin, List.drop_length, Nat.sub_self]; exact PtSl.none_ (by decide))
          clear hin
          have hdl : (l.drop (ofTo (ofN N) l k).2).length ≤ N := by rw [List.length_drop]; have := HN.out; omega
          have hdl2 : (l.drop (ofTo (ofN N) l k).2).length ≤ 1000000 := by rw [List.length_drop]; omega
          have hk6 : k ≤ 1000000000 := by omega
          have hm2 := ofN_le N (l.drop (ofTo (ofN N) l k).2)
          rw [List.length_drop] at hm2
          go_wp2_with (first
            | (go_at_call 32
               refine (IH.out (l.drop (ofTo (ofN N) l k).2) _ _ hdl hdl2 HIN.out).mono ?_
               rintro e2 w2 ⟨v2, rfl, hi2, hb2⟩
               obtain ⟨a2, c2, rfl⟩ := hi2.form
               have hx := CX.out.on H.out (hb2.mono hbig)
               have hal : Below w2.heap.size w2 (w2.alloc (.cells #[.int .i64 (ofN N (l.drop (ofTo (ofN N) l k).2)).1.k, .int .i64 (ofN N (l.drop (ofTo (ofN N) l k).2)).1.n, .string (ofN N (l.drop (ofTo (ofN N) l k).2)).1.s, .slice a2 (ofN N (l.drop (ofTo (ofN N) l k).2)).1.args.length c2] 33 (0, 0))) := (Below.refl _ _).alloc (Nat.le_refl _) _
               have CX2 := Lib.hid (hx.on H.out (hal.mono hx.big))
               have OWN2 := Lib.hid ((OWN.out.below hb2).below hal)
               have hit := (hi2.imp (P' := fun b => w.heap.size + 3 ≤ b ∧ Value.ownBlock (.slice av k cv) ≠ some b) (fun b h => ⟨Nat.le_trans hbig h, fun e => by have := (OWN.out.low b e).2; omega⟩) fun _ _ _ => rfl).below hal
               have HIT := Lib.hid hit
               have t3 : w2.cell? ⟨w.heap.size + 1 + 1, 3, none⟩ = some (.slice av k cv) := (row4 hx.box).2.2.2
               have hlt2 : w.heap.size + 1 + 1 < w2.heap.size := by have := hx.big; omega
               have hbig2 := hx.big
               have hb2s := hb2.size
               clear hi2 hb2 hx hal hit)
            | (with_reducible show wpList _ _ _ (⟨some 43, _, _, _, _, _⟩ :: _) _ _; refine wpList_push_term rfl (.tmp 40) (.tmp 42) rfl (w.heap.size + 3) _ _ _ _ _ _ _ _ _ rfl OWN2.out rfl (by simp) HIT.out (by rw [HLEN.out]; exact hk6) (by simp; omega) ?_
               intro v3 w3 hown hb3 _ _
               obtain ⟨a3, c3, rfl⟩ := hown.form
               have e1 : ((ofTo (ofN N) l k).1 ++ [(ofN N (l.drop (ofTo (ofN N) l k).2)).1]).length = k + 1 := by rw [List.length_append, HLEN.out]; rfl
               rw [e1] at hown
               rw [e1]
               clear e1
               have cx3 := CX2.out.on H.out hb3
               have t33 : w3.cell? ⟨w.heap.size + 1 + 1, 3, none⟩ = some (.slice av k cv) := (row4 cx3.box).2.2.2
               have hf3 : w3.frozen? ⟨w.heap.size + 1 + 1, 3, none⟩ = false := frozen_of_row _ _ 3 _ _ cx3.box
               have e2 : w.heap.size + 1 + 1 = w.heap.size + 2 := rfl
               have CX3 : Hid (OfCtx w (p :: l) _ p (.slice a3 (k + 1) c3) (w3.setCell ⟨w.heap.size + 1 + 1, 3, none⟩ (.slice a3 (k + 1) c3))) := Lib.hid (by rw [e2]; exact cx3.store H.out)
               have OWN3 : Hid (OwnSl (w3.setCell ⟨w.heap.size + 1 + 1, 3, none⟩ (.slice a3 (k + 1) c3)) (w.heap.size + 3) (fun b => w.heap.size + 3 ≤ b) (.slice a3 (k + 1) c3) (ofTo (ofN N) l (k + 1)).1) := Lib.hid (by rw [e2]; exact hown.setLow (by omega) _)
               clear e2
               clear cx3 hown hb3))
          go_roundw
          case rel => exact ⟨k + 1, _, by omega, by go_num, by simp only [ofTo]; go_num, CX3.out, OWN3.out⟩
          case measure => simp [intOf]; omega
      · obtain rfl : k = p.a % 8 := by omega
        go_wp2_with (refine wpList_store_row rfl 33 (.tmp 2) (.tmp 48) rfl w.heap.size _ rfl rfl _ _ CX.out.res size_term rfl (one4 _ _ _ _ _ _) ?_)
        have hz := setRow_heap wr w.heap.size _ (#[.int .i64 p.k, .int .i64 p.n, .string p.s, .slice av (p.a % 8) cv] : Array Value) _ _ CX.out.res
        obtain ⟨e1, e2⟩ := of_end CX.out OWN.out HLEN.out.symm (cs := #[.int .i64 p.k, .int .i64 p.n, .string p.s, .slice av (p.a % 8) cv])
        refine bodyPost_ret (v := .tuple #[.agg #[.int .i64 p.k, .int .i64 p.n, .string p.s, .slice av (p.a % 8) cv], .int .i64 (((ofTo (ofN N) l (p.a % 8)).2 + 1 : Nat) : Int)]) (Push.results_cell_tmp Try.results32 _ _ w.heap.size _ _ _ _ _ rfl (by simp) hz Try.underlying33 rfl (by kernel_rfl)) rfl ⟨_, rfl, e1, e2⟩
end Go.Proofs.Ytoklbeogmcdgaaa.Tms
