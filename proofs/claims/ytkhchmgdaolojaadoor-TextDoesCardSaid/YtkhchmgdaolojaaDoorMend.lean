
/-
  The reference's Of walked over the program.
  The reference's Mend, Good and Great walked over the program.
-/
import Derived.Test.YtkhchmgdaolojaaDoorPt
namespace Go.Proofs.YtkhchmgdaolojaaDoor.Tms
open Go Go.RowKit

def OfPost (t : Tm) (n : Nat) (w : World) (e : Ending) (w' : World) : Prop := ∃ v, e = .returned (.tuple #[v, .int .i64 n]) ∧ IsTm w' (fun b => w.heap.size ≤ b) v t ∧ Below w.heap.size w w'

structure OfCtx (w : World) (L : List Pt) (vl : Value) (p : Pt) (v : Value) (wr : World) : Prop where
  res : wr.heap[w.heap.size]? = some (.cells #[.int .i64 0, .int .i64 0, .string ⟨#[]⟩, .slice none 0 0] 28 (0, 0))
  part : wr.heap[w.heap.size + 1]? = some (.cells #[.int .i64 p.k, .int .i64 p.n, .string p.s, .int .u8 p.a] 56 (0, 0))
  box : wr.heap[w.heap.size + 2]? = some (.cells #[.int .i64 p.k, .int .i64 p.n, .string p.s, v] 28 (0, 0))
  bel : Below w.heap.size w wr
  big : w.heap.size + 3 ≤ wr.heap.size
  args : PtSl wr vl L

theorem OfCtx.on {w : World} {L : List Pt} {vl : Value} {p : Pt} {v : Value} {wr w' : World} (h : OfCtx w L vl p v wr) (h0 : PtSl w vl L) (hb : Below (w.heap.size + 3) wr w') : OfCtx w L vl p v w' :=
  have hbel := h.bel.trans (hb.mono (by omega))
  ⟨(hb.block _ (by omega)).trans h.res, (hb.block _ (by omega)).trans h.part, (hb.block _ (by omega)).trans h.box, hbel, Nat.le_trans h.big hb.size, h0.below hbel⟩
theorem OfCtx.store {w : World} {L : List Pt} {vl : Value} {p : Pt} {v v' : Value} {wr : World} (h : OfCtx w L vl p v wr) (h0 : PtSl w vl L) : OfCtx w L vl p v' (wr.setCell ⟨w.heap.size + 2, 3, none⟩ v') := by
  have hbel : Below w.heap.size w (wr.setCell ⟨w.heap.size + 2, 3, none⟩ v') := h.bel.setCell (show w.heap.size ≤ w.heap.size + 2 by omega) _
  have ne := fun (k : Nat) (hk : k ≠ w.heap.size + 2) => Below.heap_setCell wr ⟨w.heap.size + 2, 3, none⟩ v' k hk
  refine ⟨(ne _ (by omega)).trans h.res, (ne _ (by omega)).trans h.part, ?_, hbel, by simpa [World.setCell] using h.big, h0.below hbel⟩
  have := heap_setCell_same wr (w.heap.size + 2) 3 _ _ v' h.box
  simpa using this
theorem OwnSl.setLow {w : World} {base : Nat} {v : Value} {ts : List Tm} (h : OwnSl w base (fun b => base ≤ b) v ts) {b q : Nat} (hb : b < base) (u : Value) : OwnSl (w.setCell ⟨b, q, none⟩ u) base (fun b => base ≤ b) v ts := by
  obtain ⟨xs, h1, h2⟩ := h
  exact ⟨xs, ownsRow_setCell_below h1 (by exact hb) u, h2.imp2 (fun b h => ⟨h.1, h.2.1, by simpa [World.setCell] using h.2.2⟩) fun k h _ => Below.heap_setCell w ⟨b, q, none⟩ u k (by have := h.1; show k ≠ b; omega)⟩

def OfRel (w : World) (N : Nat) (L : List Pt) (vl : Value) (p : Pt) (l : List Pt) (va vi : Value) (wr : World) : Prop :=
  ∃ (k : Nat) (v : Value), k ≤ p.a % 8 ∧ vi = .int .i64 k ∧ va = .int .i64 (((ofTo (ofN N) l k).2 + 1 : Nat) : Int) ∧ OfCtx w L vl p v wr ∧ OwnSl wr (w.heap.size + 3) (fun b => w.heap.size + 3 ≤ b) v (ofTo (ofN N) l k).1

theorem of_start (w : World) (N : Nat) (l : List Pt) (p : Pt) (vl : Value) (h : PtSl w vl (p :: l)) :
    OfRel w N (p :: l) vl p l (.int .i64 1) (.int .i64 0) (((w.alloc (.cells #[.int .i64 0, .int .i64 0, .string ⟨#[]⟩, .slice none 0 0] 28 (0, 0))).alloc (.cells #[.int .i64 p.k, .int .i64 p.n, .string p.s, .int .u8 p.a] 56 (0, 0))).alloc
      (.cells #[.int .i64 p.k, .int .i64 p.n, .string p.s, .slice none 0 0] 28 (0, 0))) := by
  obtain ⟨t0, t1, tsz, tbl⟩ := two w (.cells #[.int .i64 0, .int .i64 0, .string ⟨#[]⟩, .slice none 0 0] 28 (0, 0)) (.cells #[.int .i64 p.k, .int .i64 p.n, .string p.s, .int .u8 p.a] 56 (0, 0))
  generalize (w.alloc (.cells #[.int .i64 0, .int .i64 0, .string ⟨#[]⟩, .slice none 0 0] 28 (0, 0))).alloc (.cells #[.int .i64 p.k, .int .i64 p.n, .string p.s, .int .u8 p.a] 56 (0, 0)) = w2 at *
  have hb : Below w2.heap.size w2 (w2.alloc (.cells #[.int .i64 p.k, .int .i64 p.n, .string p.s, .slice none 0 0] 28 (0, 0))) := (Below.refl _ _).alloc (Nat.le_refl _) _
  have hbel := tbl.trans (hb.mono (by omega))
  refine ⟨0, .slice none 0 0, by omega, rfl, rfl, ⟨(hb.block _ (by omega)).trans t0, (hb.block _ (by omega)).trans t1, ?_, hbel, by simp; omega, h.below hbel⟩, OwnSl.nil _ _ _⟩
  rw [show w.heap.size + 2 = w2.heap.size by omega]
  exact heap_alloc_new _ _

theorem of_end {w wr : World} {N : Nat} {L : List Pt} {vl : Value} {p : Pt} {l : List Pt} {a : Option Addr} {c n : Nat} (hc : OfCtx w L vl p (.slice a n c) wr) (ho : OwnSl wr (w.heap.size + 3) (fun b => w.heap.size + 3 ≤ b) (.slice a n c) (ofTo (ofN N) l (p.a % 8)).1) (hn : n = (ofTo (ofN N) l (p.a % 8)).1.length) {cs : Array Value} :
    IsTm (wr.setRow w.heap.size cs) (fun b => w.heap.size ≤ b) (.agg #[.int .i64 p.k, .int .i64 p.n, .string p.s, .slice a n c]) (ofN (N + 1) (p :: l)).1 ∧ Below w.heap.size w (wr.setRow w.heap.size cs) := by
  subst hn
  refine ⟨IsTm.mk' (t := (ofN (N + 1) (p :: l)).1) ?_, hc.bel.trans ⟨rfl, rfl, rfl, by simp, fun k hk => setRow_other _ _ _ _ (by omega)⟩⟩
  exact ho.reads.imp (fun b h => by rcases h with h | h <;> omega) fun b h _ => setRow_other _ _ _ _ (by rcases h with h | h <;> omega)

set_option maxHeartbeats 1600000 in
theorem ref_of (N : Nat) : ∀ (L : List Pt) (v : Value) (w : World), L.length ≤ N → L.length ≤ 1000000 → PtSl w v L → Calls Tryd.prog 9 #[v] w (OfPost (ofN N L).1 (ofN N L).2 w) := by
  have empty : ∀ (v : Value) (w : World), PtSl w v [] → Calls Tryd.prog 9 #[v] w (OfPost atomA 0 w) := by
    intro v w h
    obtain ⟨a, cap, rfl, -⟩ := h.form
    clear h
    go_enter Tryd.func9, Tryd.ntmps9
    go_wp2
    exact bodyPost_ret (v := .tuple #[atomV ⟨#[97]⟩, .int .i64 0]) (by simp [results, Tryd.results9, go_sem]) rfl ⟨_, rfl, atom_is _ _ _, (Below.refl _ _).alloc (Nat.le_refl _) _⟩
  induction N with
  | zero =>
    intro L v w hN hL h
    obtain rfl : L = [] := List.eq_nil_of_length_eq_zero (by omega)
    exact empty v w h
  | succ N ih =>
    intro L v w hN hL h
    rcases L with _ | ⟨p, l⟩
    · exact empty v w h
    have IH := Lib.hid ih
    clear ih empty
    have hst := of_start w N l p v h
    obtain ⟨a, cap, rfl, -⟩ := h.form
    obtain ⟨b, off, rfl, hpa, hlt, hcl, hcm, c0, c1, c2, c3⟩ := h.head
    have HST := Lib.hid hst
    have H := Lib.hid h
    have hl : l.length + 1 ≤ 1000000 := by simpa using hL
    have HN : Hid (l.length ≤ N) := Lib.hid (by simp at hN; omega)
    clear hst h hN hL
    simp only [List.length_cons] at HST H ⊢
    have hne : ((l.length : Int) + 1 == 0) = false := by rw [beq_eq_false_iff_ne]; omega
    go_enter Tryd.func9, Tryd.ntmps9
    go_wp2
    clear c0 c1 c2 c3
    go_loopw [6, 7] (fun va vi wr => OfRel w N (p :: l) (.slice (some ⟨b, off, none⟩) (l.length + 1) cap) p l va vi wr) (fun _ vi _ => p.a % 8 - (intOf vi).toNat)
    case atStart => exact HST.out
    case round =>
      obtain ⟨k, v, hk, rfl, rfl, cx, ho⟩ := hrel
      obtain ⟨-, p1, p2, p3⟩ := row4 cx.part
      obtain ⟨t0, t1, t2, t3⟩ := row4 cx.box
      have hbig := cx.big
      have hle := ofTo_le (ofN_le N) l k
      have hlen := ofTo_len (ofN N) l k
      have hv := ho.form
      rw [hlen] at hv
      obtain ⟨av, cv, rfl⟩ := hv
      have CX := Lib.hid cx
      have OWN := Lib.hid ho
      have HLEN := Lib.hid hlen
      clear HST cx ho hlen
      by_cases hkm : k < p.a % 8
      · have hkm' : (k : Int) < (p.a : Int) % 8 := by omega
        rcases Nat.lt_or_ge ((ofTo (ofN N) l k).2 + 1) cap with hc | hc
        · have hin := (PtSl.drop (L := p :: l) (k := (ofTo (ofN N) l k).2 + 1) CX.out.args (by simp only [List.length_cons]; omega))
          have HIN : Hid (PtSl wr (.slice (some ⟨b, off + ((ofTo (ofN N) l k).2 + 1) * 4, none⟩) (l.length - (ofTo (ofN N) l k).2) (cap - ((ofTo (ofN N) l k).2 + 1))) (l.drop (ofTo (ofN N) l k).2)) := Lib.hid (by simpa using hin)
          clear hin
          have hdl : (l.drop (ofTo (ofN N) l k).2).length ≤ N := by rw [List.length_drop]; have := HN.out; omega
          have hdl2 : (l.drop (ofTo (ofN N) l k).2).length ≤ 1000000 := by rw [List.length_drop]; omega
          have hk6 : k ≤ 1000000000 := by omega
          have hm2 := ofN_le N (l.drop (ofTo (ofN N) l k).2)
          rw [List.length_drop] at hm2
          go_wp2_with (first
            | (go_at_call 9
               refine (IH.out (l.drop (ofTo (ofN N) l k).2) _ _ hdl hdl2 HIN.out).mono ?_
               rintro e2 w2 ⟨v2, rfl, hi2, hb2⟩
               obtain ⟨a2, c2, rfl⟩ := hi2.form
               have hx := CX.out.on H.out (hb2.mono hbig)
               have hal : Below w2.heap.size w2 (w2.alloc (.cells #[.int .i64 (ofN N (l.drop (ofTo (ofN N) l k).2)).1.k, .int .i64 (ofN N (l.drop (ofTo (ofN N) l k).2)).1.n, .string (ofN N (l.drop (ofTo (ofN N) l k).2)).1.s, .slice a2 (ofN N (l.drop (ofTo (ofN N) l k).2)).1.args.length c2] 28 (0, 0))) := (Below.refl _ _).alloc (Nat.le_refl _) _
               have CX2 := Lib.hid (hx.on H.out (hal.mono hx.big))
               have OWN2 := Lib.hid ((OWN.out.below hb2).below hal)
               have hit := (hi2.imp (P' := fun b => w.heap.size + 3 ≤ b ∧ Value.ownBlock (.slice av k cv) ≠ some b) (fun b h => ⟨Nat.le_trans hbig h, fun e => by have := (OWN.out.low b e).2; omega⟩) fun _ _ _ => rfl).below hal
               have HIT := Lib.hid hit
               have t3 : w2.cell? ⟨w.heap.size + 1 + 1, 3, none⟩ = some (.slice av k cv) := (row4 hx.box).2.2.2
               have hlt2 : w.heap.size + 1 + 1 < w2.heap.size := by have := hx.big; omega
               have hbig2 := hx.big
               have hb2s := hb2.size
               clear hi2 hb2 hx hal hit)
            | (with_reducible show wpList _ _ _ (⟨some 43, _, _, _, _, _⟩ :: _) _ _; refine wpList_push_term rfl (.tmp 40) (.tmp 42) rfl (w.heap.size + 3) _ _ _ _ _ _ _ _ _ rfl OWN2.out rfl (by simp) HIT.out (by rw [HLEN.out]; exact hk6) (by simp; omega) ?_
               intro v3 w3 hown hb3 _ _
               obtain ⟨a3, c3, rfl⟩ := hown.form
               have e1 : ((ofTo (ofN N) l k).1 ++ [(ofN N (l.drop (ofTo (ofN N) l k).2)).1]).length = k + 1 := by rw [List.length_append, HLEN.out]; rfl
               rw [e1] at hown
               rw [e1]
               clear e1
               have cx3 := CX2.out.on H.out hb3
               have t33 : w3.cell? ⟨w.heap.size + 1 + 1, 3, none⟩ = some (.slice av k cv) := (row4 cx3.box).2.2.2
               have hf3 : w3.frozen? ⟨w.heap.size + 1 + 1, 3, none⟩ = false := frozen_of_row _ _ 3 _ _ cx3.box
               have e2 : w.heap.size + 1 + 1 = w.heap.size + 2 := rfl
               have CX3 : Hid (OfCtx w (p :: l) _ p (.slice a3 (k + 1) c3) (w3.setCell ⟨w.heap.size + 1 + 1, 3, none⟩ (.slice a3 (k + 1) c3))) := Lib.hid (by rw [e2]; exact cx3.store H.out)
               have OWN3 : Hid (OwnSl (w3.setCell ⟨w.heap.size + 1 + 1, 3, none⟩ (.slice a3 (k + 1) c3)) (w.heap.size + 3) (fun b => w.heap.size + 3 ≤ b) (.slice a3 (k + 1) c3) (ofTo (ofN N) l (k + 1)).1) := Lib.hid (by rw [e2]; exact hown.setLow (by omega) _)
               clear e2
               clear cx3 hown hb3))
          go_roundw
          case rel => exact ⟨k + 1, _, by omega, by go_num, by simp only [ofTo]; go_num, CX3.out, OWN3.out⟩
          case measure => simp [intOf]; omega
        · have hin : l.length = (ofTo (ofN N) l k).2 := by omega
          have HIN : Hid (PtSl wr (.slice (some ⟨b, off, none⟩) (l.length - (ofTo (ofN N) l k).2) 0) (l.drop (ofTo (ofN N) l k).2)) := Lib.hid (by rw [← hin, List.drop_length, Nat.sub_self]; exact PtSl.none_ (by decide))
          clear hin
          have hdl : (l.drop (ofTo (ofN N) l k).2).length ≤ N := by rw [List.length_drop]; have := HN.out; omega
          have hdl2 : (l.drop (ofTo (ofN N) l k).2).length ≤ 1000000 := by rw [List.length_drop]; omega
          have hk6 : k ≤ 1000000000 := by omega
          have hm2 := ofN_le N (l.drop (ofTo (ofN N) l k).2)
          rw [List.length_drop] at hm2
          go_wp2_with (first
            | (go_at_call 9
               refine (IH.out (l.drop (ofTo (ofN N) l k).2) _ _ hdl hdl2 HIN.out).mono ?_
               rintro e2 w2 ⟨v2, rfl, hi2, hb2⟩
               obtain ⟨a2, c2, rfl⟩ := hi2.form
               have hx := CX.out.on H.out (hb2.mono hbig)
               have hal : Below w2.heap.size w2 (w2.alloc (.cells #[.int .i64 (ofN N (l.drop (ofTo (ofN N) l k).2)).1.k, .int .i64 (ofN N (l.drop (ofTo (ofN N) l k).2)).1.n, .string (ofN N (l.drop (ofTo (ofN N) l k).2)).1.s, .slice a2 (ofN N (l.drop (ofTo (ofN N) l k).2)).1.args.length c2] 28 (0, 0))) := (Below.refl _ _).alloc (Nat.le_refl _) _
               have CX2 := Lib.hid (hx.on H.out (hal.mono hx.big))
               have OWN2 := Lib.hid ((OWN.out.below hb2).below hal)
               have hit := (hi2.imp (P' := fun b => w.heap.size + 3 ≤ b ∧ Value.ownBlock (.slice av k cv) ≠ some b) (fun b h => ⟨Nat.le_trans hbig h, fun e => by have := (OWN.out.low b e).2; omega⟩) fun _ _ _ => rfl).below hal
               have HIT := Lib.hid hit
               have t3 : w2.cell? ⟨w.heap.size + 1 + 1, 3, none⟩ = some (.slice av k cv) := (row4 hx.box).2.2.2
               have hlt2 : w.heap.size + 1 + 1 < w2.heap.size := by have := hx.big; omega
               have hbig2 := hx.big
               have hb2s := hb2.size
               clear hi2 hb2 hx hal hit)
            | (with_reducible show wpList _ _ _ (⟨some 43, _, _, _, _, _⟩ :: _) _ _; refine wpList_push_term rfl (.tmp 40) (.tmp 42) rfl (w.heap.size + 3) _ _ _ _ _ _ _ _ _ rfl OWN2.out rfl (by simp) HIT.out (by rw [HLEN.out]; exact hk6) (by simp; omega) ?_
               intro v3 w3 hown hb3 _ _
               obtain ⟨a3, c3, rfl⟩ := hown.form
               have e1 : ((ofTo (ofN N) l k).1 ++ [(ofN N (l.drop (ofTo (ofN N) l k).2)).1]).length = k + 1 := by rw [List.length_append, HLEN.out]; rfl
               rw [e1] at hown
               rw [e1]
               clear e1
               have cx3 := CX2.out.on H.out hb3
               have t33 : w3.cell? ⟨w.heap.size + 1 + 1, 3, none⟩ = some (.slice av k cv) := (row4 cx3.box).2.2.2
               have hf3 : w3.frozen? ⟨w.heap.size + 1 + 1, 3, none⟩ = false := frozen_of_row _ _ 3 _ _ cx3.box
               have e2 : w.heap.size + 1 + 1 = w.heap.size + 2 := rfl
               have CX3 : Hid (OfCtx w (p :: l) _ p (.slice a3 (k + 1) c3) (w3.setCell ⟨w.heap.size + 1 + 1, 3, none⟩ (.slice a3 (k + 1) c3))) := Lib.hid (by rw [e2]; exact cx3.store H.out)
               have OWN3 : Hid (OwnSl (w3.setCell ⟨w.heap.size + 1 + 1, 3, none⟩ (.slice a3 (k + 1) c3)) (w.heap.size + 3) (fun b => w.heap.size + 3 ≤ b) (.slice a3 (k + 1) c3) (ofTo (ofN N) l (k + 1)).1) := Lib.hid (by rw [e2]; exact hown.setLow (by omega) _)
               clear e2
               clear cx3 hown hb3))
          go_roundw
          case rel => exact ⟨k + 1, _, by omega, by go_num, by simp only [ofTo]; go_num, CX3.out, OWN3.out⟩
          case measure => simp [intOf]; omega
      · obtain rfl : k = p.a % 8 := by omega
        go_wp2_with (refine wpList_store_row rfl 28 (.tmp 2) (.tmp 48) rfl w.heap.size _ rfl rfl _ _ CX.out.res size_term rfl (one4 _ _ _ _ _ _) ?_)
        have hz := setRow_heap wr w.heap.size _ (#[.int .i64 p.k, .int .i64 p.n, .string p.s, .slice av (p.a % 8) cv] : Array Value) _ _ CX.out.res
        obtain ⟨e1, e2⟩ := of_end CX.out OWN.out HLEN.out.symm (cs := #[.int .i64 p.k, .int .i64 p.n, .string p.s, .slice av (p.a % 8) cv])
        refine bodyPost_ret (v := .tuple #[.agg #[.int .i64 p.k, .int .i64 p.n, .string p.s, .slice av (p.a % 8) cv], .int .i64 (((ofTo (ofN N) l (p.a % 8)).2 + 1 : Nat) : Int)]) (Push.results_cell_tmp Tryd.results9 _ _ w.heap.size _ _ _ _ _ rfl (by simp) hz Tryd.underlying28 rfl (by kernel_rfl)) rfl ⟨_, rfl, e1, e2⟩
end Go.Proofs.YtkhchmgdaolojaaDoor.Tms
namespace Go.Proofs.YtkhchmgdaolojaaDoor.Tms
open Go Go.RowKit Go.Proofs.YtkhchmgdaolojaaDoor.Reg

mutual
def mendT : Tm → Tm
  | .mk k n s a => if 20 < s.size then atomA else if k = 1 then .mk 1 (max 0 n) ⟨#[]⟩ [] else if k = 2 then .mk 2 n ⟨#[]⟩ [] else if k = 3 then .mk 3 0 s [] else if k = 4 then (if a.length = 0 then atomA else .mk 4 0 s (mendL a)) else atomA
def mendL : List Tm → List Tm
  | [] => []
  | t :: ts => mendT t :: mendL ts
end
theorem mendL_map : ∀ l, mendL l = l.map mendT
  | [] => by simp [mendL]
  | t :: l => by simp [mendL, mendL_map l]
mutual
theorem mendT_size : ∀ t : Tm, (mendT t).size ≤ t.size
  | .mk k n s a => by
    have h := mendL_size a
    unfold mendT
    repeat' split
    all_goals simp only [Tm.size, sizeL, atomA, atomT]
    all_goals omega
theorem mendL_size : ∀ l : List Tm, sizeL (mendL l) ≤ sizeL l
  | [] => by simp [mendL, sizeL]
  | t :: l => by have h1 := mendT_size t; have h2 := mendL_size l; simp only [mendL, sizeL]; omega
end

/-- a slice of one term, in a row of its own -/
def NewRow (B : Nat) (t : Tm) (v : Value) (u : World) : Prop := ∃ b c0 c1 c2 c3, v = .slice (some ⟨b, 0, none⟩) 1 1 ∧ u.heap[b]? = some (.cells #[c0, c1, c2, c3] 28 (0, 0)) ∧ IsTm u (fun b => B ≤ b) (.agg #[c0, c1, c2, c3]) t
theorem NewRow.below {B : Nat} {t : Tm} {v : Value} {u u' : World} (h : NewRow B t v u) (hb : Below u.heap.size u u') : NewRow B t v u' :=
  let ⟨b, c0, c1, c2, c3, e, hh, hi⟩ := h; ⟨b, c0, c1, c2, c3, e, (hb.block b (Array.getElem?_eq_some_iff.1 hh).1).trans hh, hi.below hb⟩
theorem NewRow.made {B : Nat} {t : Tm} {u : World} {c0 c1 c2 c3 : Value} (h : IsTm u (fun b => B ≤ b) (.agg #[c0, c1, c2, c3]) t) : NewRow B t (.slice (some ⟨u.heap.size, 0, none⟩) 1 1) (u.alloc (.cells #[c0, c1, c2, c3] 28 (0, 0))) :=
  ⟨_, _, _, _, _, rfl, heap_alloc_new _ _, h.below ((Below.refl _ _).alloc (Nat.le_refl _) _)⟩

structure MdCtx (w : World) (P : Nat → Prop) (s : ByteArray) (va : Value) (l : List Tm) (v : Value) (wr : World) : Prop where
  res : wr.heap[w.heap.size + 1]? = some (.cells #[.int .i64 0, .int .i64 0, .string ⟨#[]⟩, .slice none 0 0] 28 (0, 0))
  box : wr.heap[w.heap.size + 3]? = some (.cells #[.int .i64 4, .int .i64 0, .string s, v] 28 (0, 0))
  bel : Below w.heap.size w wr
  big : w.heap.size + 4 ≤ wr.heap.size
  args : IsSl wr (fun b => P b ∧ b < w.heap.size) va l

theorem MdCtx.on {w : World} {P : Nat → Prop} {s : ByteArray} {va : Value} {l : List Tm} {v : Value} {wr w' : World} (h : MdCtx w P s va l v wr) (hb : Below (w.heap.size + 4) wr w') : MdCtx w P s va l v w' :=
  ⟨(hb.block _ (by omega)).trans h.res, (hb.block _ (by omega)).trans h.box, h.bel.trans (hb.mono (by omega)), Nat.le_trans h.big hb.size, h.args.imp (fun _ h => h) fun b h _ => hb.block b (by have := h.2; omega)⟩
theorem MdCtx.store {w : World} {P : Nat → Prop} {s : ByteArray} {va : Value} {l : List Tm} {v v' : Value} {wr : World} (h : MdCtx w P s va l v wr) : MdCtx w P s va l v' (wr.setCell ⟨w.heap.size + 3, 3, none⟩ v') := by
  have ne := fun (k : Nat) (hk : k ≠ w.heap.size + 3) => Below.heap_setCell wr ⟨w.heap.size + 3, 3, none⟩ v' k hk
  refine ⟨(ne _ (by omega)).trans h.res, ?_, h.bel.setCell (show w.heap.size ≤ w.heap.size + 3 by omega) _, by simpa [World.setCell] using h.big, h.args.imp (fun _ h => h) fun b h _ => ne b (by have := h.2; omega)⟩
  have := heap_setCell_same wr (w.heap.size + 3) 3 _ _ v' h.box
  simpa using this

def MdRel (w : World) (P : Nat → Prop) (s : ByteArray) (va : Value) (l : List Tm) (vi : Value) (wr : World) : Prop :=
  ∃ (k : Nat) (v : Value), k ≤ l.length ∧ vi = .int .i64 k ∧ MdCtx w P s va l v wr ∧ OwnSl wr (w.heap.size + 4) (fun b => w.heap.size + 4 ≤ b) v (mendL (l.take k))

theorem md_end {w wr : World} {P : Nat → Prop} {s : ByteArray} {va : Value} {l : List Tm} {a : Option Addr} {c n : Nat} (hc : MdCtx w P s va l (.slice a n c) wr) (ho : OwnSl wr (w.heap.size + 4) (fun b => w.heap.size + 4 ≤ b) (.slice a n c) (mendL l)) (hn : n = (mendL l).length) {cs : Array Value} :
    MakesTm (fun _ => False) (.mk 4 0 s (mendL l)) w (.returned (.agg #[.int .i64 4, .int .i64 0, .string s, .slice a n c])) (wr.setRow (w.heap.size + 1) cs) := by
  subst hn
  refine ⟨_, rfl, IsTm.mk' (t := .mk 4 0 s (mendL l)) ?_, hc.bel.trans ⟨rfl, rfl, rfl, by simp, fun k hk => setRow_other _ _ _ _ (by omega)⟩⟩
  exact ho.reads.imp (fun b h => .inr (by rcases h with h | h <;> omega)) fun b h _ => setRow_other _ _ _ _ (by rcases h with h | h <;> omega)

theorem md_start (w : World) (P : Nat → Prop) (k n : Int) (s : ByteArray) (a : Option Addr) (cap : Nat) (l : List Tm) (h : IsSl w (fun b => P b ∧ b < w.heap.size) (.slice a l.length cap) l) :
    MdRel w P s (.slice a l.length cap) l (.int .i64 0) ((((w.alloc (.cells #[.int .i64 k, .int .i64 n, .string s, .slice a l.length cap] 28 (0, 0))).alloc (.cells #[.int .i64 0, .int .i64 0, .string ⟨#[]⟩, .slice none 0 0] 28 (0, 0))).alloc
      (.cells #[.int .i64 3, .int .i64 0, .string ⟨#[97]⟩, .slice none 0 0] 28 (0, 0))).alloc (.cells #[.int .i64 4, .int .i64 0, .string s, .slice none 0 0] 28 (0, 0))) := by
  obtain ⟨-, t1, tsz, tbl⟩ := two w (.cells #[.int .i64 k, .int .i64 n, .string s, .slice a l.length cap] 28 (0, 0)) (.cells #[.int .i64 0, .int .i64 0, .string ⟨#[]⟩, .slice none 0 0] 28 (0, 0))
  generalize (w.alloc (.cells #[.int .i64 k, .int .i64 n, .string s, .slice a l.length cap] 28 (0, 0))).alloc (.cells #[.int .i64 0, .int .i64 0, .string ⟨#[]⟩, .slice none 0 0] 28 (0, 0)) = w2 at *
  obtain ⟨-, u1, usz, ubl⟩ := two w2 (.cells #[.int .i64 3, .int .i64 0, .string ⟨#[97]⟩, .slice none 0 0] 28 (0, 0)) (.cells #[.int .i64 4, .int .i64 0, .string s, .slice none 0 0] 28 (0, 0))
  generalize (w2.alloc (.cells #[.int .i64 3, .int .i64 0, .string ⟨#[97]⟩, .slice none 0 0] 28 (0, 0))).alloc (.cells #[.int .i64 4, .int .i64 0, .string s, .slice none 0 0] 28 (0, 0)) = w4 at *
  have hbel := tbl.trans (ubl.mono (by omega))
  refine ⟨0, .slice none 0 0, by omega, rfl, ⟨(ubl.block _ (by omega)).trans t1, ?_, hbel, by omega, h.imp (fun _ h => h) fun b h _ => hbel.block b h.2⟩, by simpa [mendL] using OwnSl.nil _ _ _⟩
  rw [show w.heap.size + 3 = w2.heap.size + 1 by omega]
  exact u1

theorem leaf_is (w : World) (P : Nat → Prop) (k n : Int) (s : ByteArray) : IsTm w P (.agg #[.int .i64 k, .int .i64 n, .string s, .slice none 0 0]) (.mk k n s []) := ⟨none, 0, rfl, by unfold ArgsFrom; trivial⟩
theorem three_below (w : World) (a b c : Obj) : Below w.heap.size w (((w.alloc a).alloc b).alloc c) := (((Below.refl _ _).alloc (Nat.le_refl _) _).alloc (by simp) _).alloc (by simp; omega) _

set_option maxHeartbeats 1600000 in
theorem ref_mend (N : Nat) : ∀ (t : Tm) (v : Value) (P : Nat → Prop) (w : World), t.size ≤ N → t.size ≤ 1000000000 → IsTm w P v t → Calls Tryd.prog 10 #[v] w (MakesTm (fun _ => False) (mendT t) w) := by
  induction N with
  | zero => intro t v P w hN; have := size_pos t; omega
  | succ N ih =>
    intro t v P w hN hM h
    have IH := Lib.hid ih
    clear ih
    have hl := h.lt
    clear h
    obtain ⟨a, cap, rfl⟩ := hl.form
    obtain ⟨k, n, s, l⟩ := t
    have hsl := hl.args
    simp only [Tm.k, Tm.n, Tm.s, Tm.args] at hsl ⊢
    have hst := md_start w P k n s a cap l hsl
    have HST := Lib.hid hst
    have hNl : sizeL l ≤ N := by simp only [Tm.size] at hN; omega
    have hMl : sizeL l ≤ 1000000000 := by simp only [Tm.size] at hM; omega
    have HN := Lib.hid hNl
    have hll := len_le l
    clear hl hsl hst hN hM hNl
    by_cases h20 : 20 < s.size
    · have hm : mendT (.mk k n s l) = atomA := by simp [mendT, h20]
      rw [hm]
      clear hm
      go_enter Tryd.func10, Tryd.ntmps10
      go_wp2
      exact bodyPost_ret (v := .agg #[.int .i64 3, .int .i64 0, .string ⟨#[97]⟩, .slice none 0 0]) (by simp [results, Tryd.results10, go_sem]) rfl ⟨_, rfl, leaf_is _ _ _ _ _, three_below _ _ _ _⟩
    by_cases k1 : k = 1
    · subst k1
      have hm : mendT (.mk 1 n s l) = .mk 1 (max 0 n) ⟨#[]⟩ [] := by simp [mendT, h20]
      rw [hm]
      clear hm
      by_cases hn : 0 < n
      · rw [show max 0 n = n by omega]
        go_enter Tryd.func10, Tryd.ntmps10
        go_wp2
        exact bodyPost_ret (v := .agg #[.int .i64 1, .int .i64 n, .string ⟨#[]⟩, .slice none 0 0]) (by simp [results, Tryd.results10, go_sem]) rfl ⟨_, rfl, leaf_is _ _ _ _ _, three_below _ _ _ _⟩
      · rw [show max 0 n = 0 by omega]
        by_cases hn0 : n = 0
        · subst hn0
          go_enter Tryd.func10, Tryd.ntmps10
          go_wp2
          exact bodyPost_ret (v := .agg #[.int .i64 1, .int .i64 0, .string ⟨#[]⟩, .slice none 0 0]) (by simp [results, Tryd.results10, go_sem]) rfl ⟨_, rfl, leaf_is _ _ _ _ _, three_below _ _ _ _⟩
        have hn' : ¬ 0 ≤ n := by omega
        go_enter Tryd.func10, Tryd.ntmps10
        go_wp2
        exact bodyPost_ret (v := .agg #[.int .i64 1, .int .i64 0, .string ⟨#[]⟩, .slice none 0 0]) (by simp [results, Tryd.results10, go_sem]) rfl ⟨_, rfl, leaf_is _ _ _ _ _, three_below _ _ _ _⟩
    by_cases k2 : k = 2
    · subst k2
      have hm : mendT (.mk 2 n s l) = .mk 2 n ⟨#[]⟩ [] := by simp [mendT, h20]
      rw [hm]
      clear hm
      go_enter Tryd.func10, Tryd.ntmps10
      go_wp2
      exact bodyPost_ret (v := .agg #[.int .i64 2, .int .i64 n, .string ⟨#[]⟩, .slice none 0 0]) (by simp [results, Tryd.results10, go_sem]) rfl ⟨_, rfl, leaf_is _ _ _ _ _, three_below _ _ _ _⟩
    by_cases k3 : k = 3
    · subst k3
      have hm : mendT (.mk 3 n s l) = .mk 3 0 s [] := by simp [mendT, h20]
      rw [hm]
      clear hm
      go_enter Tryd.func10, Tryd.ntmps10
      go_wp2
      exact bodyPost_ret (v := .agg #[.int .i64 3, .int .i64 0, .string s, .slice none 0 0]) (by simp [results, Tryd.results10, go_sem]) rfl ⟨_, rfl, leaf_is _ _ _ _ _, three_below _ _ _ _⟩
    by_cases k4 : k = 4
    case neg =>
      have hm : mendT (.mk k n s l) = atomA := by simp [mendT, h20, k1, k2, k3, k4]
      rw [hm]
      have q1 : (k == 1) = false := by simpa using k1
      have q2 : (k == 2) = false := by simpa using k2
      have q3 : (k == 3) = false := by simpa using k3
      have q4 : (k == 4) = false := by simpa using k4
      clear hm k1 k2 k3 k4
      go_enter Tryd.func10, Tryd.ntmps10
      go_wp2
      exact bodyPost_ret (v := .agg #[.int .i64 3, .int .i64 0, .string ⟨#[97]⟩, .slice none 0 0]) (by simp [results, Tryd.results10, go_sem]) rfl ⟨_, rfl, leaf_is _ _ _ _ _, three_below _ _ _ _⟩
    subst k4
    by_cases hl0 : l.length = 0
    · have hm : mendT (.mk 4 n s l) = atomA := by simp [mendT, h20, List.eq_nil_of_length_eq_zero hl0]
      rw [hm]
      clear hm
      have hl0' : ((l.length : Int) == 0) = true := by rw [beq_iff_eq]; omega
      go_enter Tryd.func10, Tryd.ntmps10
      go_wp2
      exact bodyPost_ret (v := .agg #[.int .i64 3, .int .i64 0, .string ⟨#[97]⟩, .slice none 0 0]) (by simp [results, Tryd.results10, go_sem]) rfl ⟨_, rfl, leaf_is _ _ _ _ _, three_below _ _ _ _⟩
    have hm : mendT (.mk 4 n s l) = .mk 4 0 s (mendL l) := by simp [mendT, h20, hl0]
    rw [hm]
    have hl0' : ((l.length : Int) == 0) = false := by rw [beq_eq_false_iff_ne]; omega
    clear hm
    go_enter Tryd.func10, Tryd.ntmps10
    go_wp2
    go_loopw [44] (fun vi wr => MdRel w P s (.slice a l.length cap) l vi wr) (fun vi _ => l.length - (intOf vi).toNat)
    case atStart => exact HST.out
    case round =>
      obtain ⟨q, v, hq, rfl, cx, ho⟩ := hrel
      have hlen : (mendL (l.take q)).length = q := by rw [mendL_map, List.length_map, List.length_take]; omega
      have hv := ho.form
      rw [hlen] at hv
      obtain ⟨av, cv, rfl⟩ := hv
      obtain ⟨t0, t1, t2, t3⟩ := row4 cx.box
      have hbig := cx.big
      have CX := Lib.hid cx
      have OWN := Lib.hid ho
      have HLEN := Lib.hid hlen
      clear HST cx ho hlen
      by_cases hql : q < l.length
      · obtain ⟨xb, xo, rfl, hxp, hx⟩ := CX.out.args.at q hql
        obtain ⟨xa, xc, x0, x1, x2, x3, xi, xlt⟩ := hx.read
        have hxs := size_mem hql
        have hsz : l[q].size ≤ N := by have := HN.out; omega
        have hsz2 : l[q].size ≤ 1000000000 := by omega
        have htk : l.take (q + 1) = l.take q ++ [l[q]] := List.take_succ_eq_append_getElem hql
        have hmk : mendL (l.take (q + 1)) = mendL (l.take q) ++ [mendT l[q]] := by rw [htk, mendL_map, List.map_append, mendL_map]; rfl
        have HMK := Lib.hid hmk
        have XI := Lib.hid xi
        have hqi : (q : Int) < (l.length : Int) := by omega
        clear hx xi htk hmk hxs hxp
        generalize l[q] = x at *
        have e3 : w.heap.size + 1 + 1 + 1 = w.heap.size + 3 := rfl
        have hxw : x0 = x0 := rfl
        go_wp2
        have hW : (wr.alloc (.cells #[.int .i64 x.k, .int .i64 x.n, .string x.s, .slice xa x.args.length xc] 28 (0, 0))).heap[wr.heap.size]? = some (.cells #[.int .i64 x.k, .int .i64 x.n, .string x.s, .slice xa x.args.length xc] 28 (0, 0)) := heap_alloc_new _ _
        have hal : Below wr.heap.size wr (wr.alloc (.cells #[.int .i64 x.k, .int .i64 x.n, .string x.s, .slice xa x.args.length xc] 28 (0, 0))) := (Below.refl _ _).alloc (Nat.le_refl _) _
        have hsz1 : (wr.alloc (.cells #[.int .i64 x.k, .int .i64 x.n, .string x.s, .slice xa x.args.length xc] 28 (0, 0))).heap.size = wr.heap.size + 1 := by simp
        generalize wr.alloc (.cells #[.int .i64 x.k, .int .i64 x.n, .string x.s, .slice xa x.args.length xc] 28 (0, 0)) = W at *
        refine wp_region_rest (by kernel_rfl) ?_
        have hd : Below W.heap.size W W.drew := (Below.refl _ _).drew
        have hall := hal.trans (hd.mono (by omega))
        have HXB := Lib.hid ((hd.block _ (by omega)).trans hW)
        have hbig0 : wr.heap.size + 1 ≤ W.drew.heap.size := by have := hd.size; omega
        have CX0 := Lib.hid (CX.out.on (hall.mono hbig))
        have OWN0 := Lib.hid (OWN.out.below hall)
        have XI0 := Lib.hid (XI.out.below hall)
        clear hd hall hal hW hsz1 x0 x1 x2 x3 t0 t1 t2 t3 hxw e3
        generalize W.drew = W0 at *
        refine rest_ops 0 5 58 (fun j v u => match j with | 0 => v = .pointer (some ⟨w.heap.size + 1 + 1 + 1, 3, none⟩) | 1 => v = .slice av q cv | 2 => v = .agg #[.int .i64 x.k, .int .i64 x.n, .string x.s, .slice xa x.args.length xc] | 3 => IsTm u (fun b => W0.heap.size ≤ b) v (mendT x) | 4 => NewRow W0.heap.size (mendT x) v u | _ => True) (fun _ _ => none) (by kernel_rfl) (by kernel_rfl) rfl (.inr (by kernel_rfl)) ?hS ?hop ?_
        case hS =>
          intro j v u u' hkj hjn h hb
          match j, hkj, hjn, h with
          | 0, _, _, h => exact h
          | 1, _, _, h => exact h
          | 2, _, _, h => exact h
          | 3, _, _, h => exact h.below hb
          | 4, _, _, h => exact h.below hb
          | q + 5, _, hq, _ => exact absurd hq (by omega)
        case hop =>
          refine ⟨fun v u hu hs Q' hQ => ?_, fun v u hu hs Q' hQ => ?_, fun v u hu hs Q' hQ => ?_, fun v u hu hs Q' hQ => ?_, fun v u hu hs Q' hQ => ?_, trivial⟩
          · simp only [putAll, dstOf]
            obtain ⟨f0, f1, f2, f3⟩ := row4 ((hu.block _ (by omega)).trans HXB.out)
            have g3 : u.cell? ⟨w.heap.size + 1 + 1 + 1, 3, none⟩ = some (.slice av q cv) := (row4 (CX0.out.on (hu.mono CX0.out.big)).box).2.2.2
            go_wp2
            exact ⟨rfl, Below.refl _ _, rfl, fun _ h => nomatch h⟩
          · simp only [putAll, dstOf]
            have s_0 : v 0 = .pointer (some ⟨w.heap.size + 1 + 1 + 1, 3, none⟩) := hs 0 (by kernel_rfl) (by decide) (by decide)
            obtain ⟨f0, f1, f2, f3⟩ := row4 ((hu.block _ (by omega)).trans HXB.out)
            have g3 : u.cell? ⟨w.heap.size + 1 + 1 + 1, 3, none⟩ = some (.slice av q cv) := (row4 (CX0.out.on (hu.mono CX0.out.big)).box).2.2.2
            go_wp2
            exact ⟨rfl, Below.refl _ _, rfl, fun _ h => nomatch h⟩
          · simp only [putAll, dstOf]
            obtain ⟨f0, f1, f2, f3⟩ := row4 ((hu.block _ (by omega)).trans HXB.out)
            have g3 : u.cell? ⟨w.heap.size + 1 + 1 + 1, 3, none⟩ = some (.slice av q cv) := (row4 (CX0.out.on (hu.mono CX0.out.big)).box).2.2.2
            go_wp2
            exact ⟨rfl, Below.refl _ _, rfl, fun _ h => nomatch h⟩
          · simp only [putAll, dstOf]
            have s_2 : v 2 = .agg #[.int .i64 x.k, .int .i64 x.n, .string x.s, .slice xa x.args.length xc] := hs 2 (by kernel_rfl) (by decide) (by decide)
            obtain ⟨f0, f1, f2, f3⟩ := row4 ((hu.block _ (by omega)).trans HXB.out)
            have g3 : u.cell? ⟨w.heap.size + 1 + 1 + 1, 3, none⟩ = some (.slice av q cv) := (row4 (CX0.out.on (hu.mono CX0.out.big)).box).2.2.2
            go_wp2_with (go_at_call 10; refine (IH.out x _ _ _ hsz hsz2 (XI0.out.below hu)).mono ?_; rintro e1 w1 ⟨v1, rfl, hi1, hb1⟩)
            exact ⟨rfl, hb1, hi1.imp (fun b h => h.elim False.elim fun h => Nat.le_trans hu.size h) fun _ _ _ => rfl, fun _ h => nomatch h⟩
          · simp only [putAll, dstOf]
            have s_3 : IsTm u (fun b => W0.heap.size ≤ b) (v 3) (mendT x) := hs 3 (by kernel_rfl) (by decide) (by decide)
            obtain ⟨f0, f1, f2, f3⟩ := row4 ((hu.block _ (by omega)).trans HXB.out)
            have g3 : u.cell? ⟨w.heap.size + 1 + 1 + 1, 3, none⟩ = some (.slice av q cv) := (row4 (CX0.out.on (hu.mono CX0.out.big)).box).2.2.2
            obtain ⟨a3, c3, e3⟩ := s_3.form; go_wp2
            exact ⟨rfl, (Below.refl _ _).alloc (Nat.le_refl _) _, NewRow.made (e3 ▸ s_3), fun _ h => nomatch h⟩
        intro v u hu hs hap
        have s_0 : v 0 = .pointer (some ⟨w.heap.size + 1 + 1 + 1, 3, none⟩) := hs 0 (by decide) (by decide)
        have s_1 : v 1 = .slice av q cv := hs 1 (by decide) (by decide)
        have s_2 : v 2 = .agg #[.int .i64 x.k, .int .i64 x.n, .string x.s, .slice xa x.args.length xc] := hs 2 (by decide) (by decide)
        have s_3 : IsTm u (fun b => W0.heap.size ≤ b) (v 3) (mendT x) := hs 3 (by decide) (by decide)
        have s_4 : NewRow W0.heap.size (mendT x) (v 4) u := hs 4 (by decide) (by decide)
        simp only [putAll, dstOf]
        obtain ⟨rb, c0, c1, c2, c3, er, hrow, hit⟩ := s_4
        have HROW := Lib.hid hrow
        have hbu := hu.size
        have hit2 := hit.imp (P' := fun b => w.heap.size + 4 ≤ b ∧ Value.ownBlock (.slice av q cv) ≠ some b) (fun b h => ⟨by omega, fun e => by have := (OWN.out.low b e).2; omega⟩) fun _ _ _ => rfl
        have HIT := Lib.hid hit2
        have OWN2 := Lib.hid (OWN0.out.below hu)
        have CX2 := Lib.hid (CX0.out.on (hu.mono CX0.out.big))
        have hq6 : q ≤ 1000000000 := by omega
        clear hs hap hu HXB hrow hit hit2 s_3
        refine rest_lineL 5 8 [_, _, _] rfl (by kernel_rfl) (by decide) (by decide) (by kernel_rfl) ?_
        simp only [Act.put, List.getElem?_toArray, List.getElem?_cons_succ, List.getElem?_cons_zero, Option.bind_some, List.setIfInBounds_toArray, List.set_cons_succ, List.set_cons_zero, Nat.reduceAdd, s_0, s_1, s_2, er]
        go_wp2_with (
          (with_reducible show wpList _ _ _ (⟨some 53, _, _, _, _, _⟩ :: _) _ _
           refine wpList_push_at rfl (.tmp 49) (.tmp 52) rfl (w.heap.size + 4) _ _ _ _ _ _ _ _ rb _ _ _ rfl OWN2.out rfl HROW.out HIT.out (by rw [HLEN.out]; exact hq6) CX2.out.big ?_
           intro v3 w3 hown hb3 _ _
           obtain ⟨a3, cc3, rfl⟩ := hown.form
           have e1 : (mendL (l.take q) ++ [mendT x]).length = q + 1 := by rw [List.length_append, HLEN.out]; rfl
           rw [e1] at hown
           rw [e1]
           rw [← HMK.out] at hown
           have cx3 := CX2.out.on hb3
           have t33 : w3.cell? ⟨w.heap.size + 1 + 1 + 1, 3, none⟩ = some (.slice av q cv) := (row4 cx3.box).2.2.2
           have hf3 : w3.frozen? ⟨w.heap.size + 1 + 1 + 1, 3, none⟩ = false := frozen_of_row _ _ 3 _ _ cx3.box
           have e2 : w.heap.size + 1 + 1 + 1 = w.heap.size + 3 := rfl
           have CX3 : Hid (MdCtx w P s _ l (.slice a3 (q + 1) cc3) (w3.setCell ⟨w.heap.size + 1 + 1 + 1, 3, none⟩ (.slice a3 (q + 1) cc3))) := Lib.hid (by rw [e2]; exact cx3.store)
           have OWN3 : Hid (OwnSl (w3.setCell ⟨w.heap.size + 1 + 1 + 1, 3, none⟩ (.slice a3 (q + 1) cc3)) (w.heap.size + 4) (fun b => w.heap.size + 4 ≤ b) (.slice a3 (q + 1) cc3) (mendL (l.take (q + 1)))) := Lib.hid (by rw [e2]; exact hown.setLow (by omega) _)
           clear cx3 hown hb3 e1 e2))
        refine then_rest (rest_end (by decide) ?_)
        go_wp2
        go_roundw
        case rel => exact ⟨q + 1, _, by omega, by go_num, CX3.out, OWN3.out⟩
        case measure => simp [intOf]; omega
      · obtain rfl : q = l.length := by omega
        go_wp2_with (refine wpList_store_row rfl 28 (.tmp 2) (.tmp 56) rfl (w.heap.size + 1) _ rfl rfl _ _ CX.out.res size_term rfl (one4 _ _ _ _ _ _) ?_)
        have hz := setRow_heap wr (w.heap.size + 1) _ (#[.int .i64 4, .int .i64 0, .string s, .slice av l.length cv] : Array Value) _ _ CX.out.res
        have ho := OWN.out
        rw [List.take_length] at ho
        refine bodyPost_ret (v := .agg #[.int .i64 4, .int .i64 0, .string s, .slice av l.length cv]) (results_cell_row Tryd.results10 _ _ (w.heap.size + 1) _ _ _ _ rfl hz Tryd.underlying28 rfl (by kernel_rfl)) rfl (md_end CX.out ho (by rw [mendL_map, List.length_map]))
def goodT (L : List Pt) : Tm := mendT (ofN L.length L).1
theorem goodT_size (L : List Pt) : (goodT L).size ≤ 1 + 7 * L.length := by have h1 := mendT_size (ofN L.length L).1; have h2 := ofN_small L.length L; unfold goodT; omega

theorem ref_great (L : List Pt) (v : Value) (w : World) (h : PtSl w v L) : Calls Tryd.prog 8 #[v] w fun e w' => e = .returned (.bool (decide (60 < (L.length : Int)))) ∧ w = w' := by
  obtain ⟨a, cap, rfl, h1, h2⟩ := h.form
  clear h
  unfold maxLen at h2
  go_enter Tryd.func8, Tryd.ntmps8
  go_wp2
  go_ret
  exact ⟨rfl, rfl⟩
end Go.Proofs.YtkhchmgdaolojaaDoor.Tms
