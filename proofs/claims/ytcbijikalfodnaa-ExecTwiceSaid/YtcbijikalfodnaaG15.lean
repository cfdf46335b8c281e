/-
  Layer texts, glued and made small.
-/
import Derived.Test.YtcbijikalfodnaaG14
set_option linter.unusedVariables false
set_option linter.unusedSimpArgs false
set_option maxRecDepth 100000
set_option maxHeartbeats 16000000
namespace Go.Proofs.Ytcbijikalfodnaa.Tms
open Go Go.RowKit Go.Proofs.Ytcbijikalfodnaa.Reg Go.Proofs.Ytcbijikalfodnaa.Rws Go.Proofs.Ytcbijikalfodnaa.Maps
open Go.Proofs.Ytcbijikalfodnaa.Cod (Ins Cod sk check slotsN InsSl InsAt)
def pqKind : Rws.Kind (List Int × List Int) where
 T := 122
 sz := 2
 R := fun w P cs c => ∃ va vb, cs = [va, vb] ∧ IntSl w P va c.1 ∧ IntSl w P vb c.2
 pos := by decide
 len := by rintro w P cs a ⟨va, vb, rfl, -⟩; rfl
 one := by
  rintro w P cs a ⟨va, vb, rfl, ha, hb⟩ v hv; obtain ⟨q, c, rfl⟩ := ha.form; obtain ⟨q', c', rfl⟩ := hb.form; simp only [List.mem_cons, List.not_mem_nil, or_false] at hv; rcases hv with rfl | rfl <;> rfl
 mono := by rintro w w' P P' cs a hP hw ⟨va, vb, rfl, ha, hb⟩; exact ⟨va, vb, rfl, ha.move (fun b hb _ => hP b hb) hw, hb.move (fun b hb _ => hP b hb) hw⟩
 lt := by rintro w P cs a ⟨va, vb, rfl, ha, hb⟩; exact ⟨va, vb, rfl, ha.low, hb.low⟩
def tailO (c o : Nat) : Nat := if c = 1 then o else o + 1
theorem IntSl.tailE {w : World} {P : Nat → Prop} {b o n c : Nat} {x : Int} {T : List Int} (h : IntSl w P (.slice (some ⟨b, o, none⟩) (n + 1) c) (x :: T)) : IntSl w P (.slice (some ⟨b, tailO c o, none⟩) n (c - 1)) T := by
 obtain ⟨a, cap, e, h1, h2, h3⟩ := h; simp only [Value.slice.injEq, List.length_cons] at e h1; obtain ⟨rfl, e2, rfl⟩ := e; refine ⟨_, _, by rw [show n = T.length by omega], by omega, by omega, fun i hi => ?_⟩; obtain ⟨b', o', e1, hp, hl, hc⟩ := h3 (i + 1) (by simp; omega); simp only [Option.some.injEq, Addr.mk.injEq, and_true] at e1; obtain ⟨rfl, rfl⟩ := e1; refine ⟨_, _, rfl, hp, hl, ?_⟩; unfold tailO; rw [if_neg (by omega), show o + 1 + i = o + (i + 1) by omega, hc]; rfl
theorem slice_rest {b o m c : Nat} (h : m + 1 ≤ c) (w : World) : (Instr.slice 38 (.slice (some ⟨b, o, none⟩) (m + 1) c) (some (.int .i64 1)) none none).run Try.prog w = .ok (.slice (some ⟨b, tailO c o, none⟩) m (c - 1)) w := by
 have ht : Try.prog.underlying 38 = some (.slice (Try.prog.elem 38)) := by kernel_rfl
 have hs : (sizeOf (Try.prog.elem 38)).run Try.prog w = .ok 1 w := by kernel_rfl
 rw [run_slice_l w 38 _ _ _ ht .i64 1 (by decide) (by omega), hs]; unfold tailO
 by_cases hc : c = 1
 ·subst hc
  obtain rfl : m = 0 := by omega
  simp [Result.andThen, sliced]
 ·simp [Result.andThen, sliced, hc]
  rfl
theorem IntSl.headE {w : World} {P : Nat → Prop} {v : Value} {x : Int} {T : List Int} (h : IntSl w P v (x :: T)) : ∃ b o c, v = .slice (some ⟨b, o, none⟩) (T.length + 1) c ∧ T.length + 1 ≤ c ∧ c ≤ maxLen ∧ P b ∧ b < w.heap.size ∧ w.cell? ⟨b, o, none⟩ = some (.int .i64 x) := by
 obtain ⟨a, cap, e, h1, h2, h3⟩ := h; obtain ⟨b, o, rfl, hp, hl, hc⟩ := h3 0 (by simp); exact ⟨b, o, cap, by rw [e]; rfl, by simpa using h1, h2, hp, hl, by simpa using hc⟩
def flatW (Ws : List (List Int × List Int)) : List (Nat × Nat) := Ws.flatMap fun q => (q.1.map Int.toNat).zip (q.2.map Int.toNat)
structure WOk (q : List Int × List Int) : Prop where
 len : q.1.length = q.2.length
 some : q.1 ≠ []
 left : ∀ a ∈ q.1, (0 : Int) ≤ a
 right : ∀ b ∈ q.2, (0 : Int) ≤ b
theorem Own.estep {α : Type} {K : Rws.Kind α} {rb qb n base : Nat} {D D' : Nat → Prop} {w w' : World} {v : Value} {l : List α} (h : Own K w base (fun b => n ≤ b ∧ EOut rb qb D w b) v l) (hs : EStep rb qb D w D' w') (ho : ∀ b, v.ownBlock = some b → EOut rb qb D w b) : Own K w' base (fun b => n ≤ b ∧ EOut rb qb D' w' b) v l := by
 have hk := h.keep hs.size fun b hlt hb => by
  rcases hb with hb | hb
  ·exact (hs.blk b hb.2).2
  ·exact (hs.blk b (ho b hb)).2
 exact Own.mono hk fun b hb _ => ⟨hb.1, (hs.blk b hb.2).1⟩
section
variable {w0 w w' w'' : World} {p rb qb at_ k : Nat} {S : Sto} {D D' : Nat → Prop} {lv : Value} {L : List Ins} {sl : List Int} {M : Nat → Prop}
theorem ExAt.ownM (h : ExAt w0 p rb qb S D lv L at_ sl k w) (hk : Keeps w w' M) (hx : ∀ x, M x → x < w.heap.size → EOut rb qb D w x ∧ w0.heap.size ≤ x ∧ slBlk lv ≠ some x) : ExAt w0 p rb qb S D lv L at_ sl k w' := by
 have hb := h.law.bel
 have hno : ∀ b, b < w.heap.size → D b ∨ b = rb ∨ b = qb ∨ slBlk lv = some b → ¬ M b := fun b hlt hb' hm => by
  obtain ⟨h1, h2, h3⟩ := hx b hm hlt; rcases hb' with hb' | hb' | hb' | hb'
  ·exact h1.1 hb'
  ·exact h1.2.1 hb'
  ·exact h1.2.2.1 hb'
  ·exact h3 hb'
 exact h.other ⟨hk.os.trans hb.os, hk.tape.trans hb.tape, hk.output.trans hb.output, Nat.le_trans hb.size hk.size, fun b hlt => (hk.block b (Nat.lt_of_lt_of_le hlt hb.size) (fun hm => by have := (hx b hm (Nat.lt_of_lt_of_le hlt hb.size)).2.1; omega)).trans (hb.block b hlt)⟩ hk.size fun b hlt hb' => hk.block b hlt (hno b hlt hb')
theorem EStep.ownM (h : EStep rb qb D w D' w') (hk : Keeps w' w'' M) (hx : ∀ x, M x → x < w'.heap.size → w.heap.size ≤ x) : EStep rb qb D w D' w'' :=
 ⟨Nat.le_trans h.size hk.size, fun b hb => ⟨⟨(h.blk b hb).1.1, hb.2.1, hb.2.2.1, Nat.lt_of_lt_of_le (h.blk b hb).1.2.2.2 hk.size⟩, (hk.block b (h.blk b hb).1.2.2.2 (fun hm => by have := hx b hm (h.blk b hb).1.2.2.2; have := hb.2.2.2; omega)).trans (h.blk b hb).2⟩⟩
end
structure UnAt (w0 : World) (p rb qb : Nat) (lv : Value) (L : List Ins) (at_ : Nat) (sl : List Int) (r : Option Bool × Sto × Nat) (D0 : Nat → Prop) (w : World) (f : Nat) (S : Sto) (D : Nat → Prop) (k : Nat) (Ws : List (List Int × List Int)) (wv : Value) (wr : World) : Prop where
 ex : ExAt w0 p rb qb S D lv L at_ sl k wr
 st : EStep rb qb D0 w D wr
 inv : Inv S
 wait : Own pqKind wr w.heap.size (fun b => w.heap.size ≤ b ∧ EOut rb qb D wr b) wv Ws.reverse
 own : ∀ b, wv.ownBlock = some b → EOut rb qb D wr b
 ok : ∀ q ∈ Ws, WOk q
 inn : InL S (flatW Ws)
 kle : k ≤ 20000
 fuel : 20000 - k ≤ f
 len : Ws.length ≤ 1 + k
 eq : r = uniK false (20000 - k) S (flatW Ws)
 lvF : ∀ b, slBlk lv = some b → b < w.heap.size
 low : w0.heap.size ≤ w.heap.size
def UnRel (w0 : World) (p rb qb : Nat) (lv : Value) (L : List Ins) (at_ : Nat) (sl : List Int) (r : Option Bool × Sto × Nat) (D0 : Nat → Prop) (w : World) (f : Nat) (wv : Value) (wr : World) : Prop := ∃ S D k Ws, UnAt w0 p rb qb lv L at_ sl r D0 w f S D k Ws wv wr
section
variable {w0 w wr w2 : World} {p rb qb at_ k f g n cap : Nat} {S S' : Sto} {D D' D0 : Nat → Prop} {lv wv : Value} {L : List Ins} {sl : List Int} {r : Option Bool × Sto × Nat} {Ws : List (List Int × List Int)} {x y : Int} {A B : List Int}
theorem UnAt.top {m : Nat} (h : UnAt w0 p rb qb lv L at_ sl r D0 w f S D k ((x :: A, y :: B) :: Ws) (.slice (some ⟨g, 0, none⟩) (n + 1) cap) wr) (hn : n = Ws.length) (hm : m = A.length) (hm2 : m = B.length) :
 n + 1 ≤ cap ∧ cap ≤ maxLen ∧ ∃ b1 o1 c1 b2 o2 c2, wr.cell? ⟨g, n * 2, none⟩ = some (.slice (some ⟨b1, o1, none⟩) (m + 1) c1) ∧ wr.cell? ⟨g, n * 2 + 1, none⟩ = some (.slice (some ⟨b2, o2, none⟩) (m + 1) c2) ∧
   (m + 1 ≤ c1 ∧ c1 ≤ maxLen ∧ b1 < wr.heap.size ∧ wr.cell? ⟨b1, o1, none⟩ = some (.int .i64 x)) ∧ (m + 1 ≤ c2 ∧ c2 ≤ maxLen ∧ b2 < wr.heap.size ∧ wr.cell? ⟨b2, o2, none⟩ = some (.int .i64 y)) ∧
   IntSl wr (fun b => (w.heap.size ≤ b ∧ EOut rb qb D wr b) ∧ g ≠ b ∧ b < wr.heap.size) (.slice (some ⟨b1, tailO c1 o1, none⟩) m (c1 - 1)) A ∧ IntSl wr (fun b => (w.heap.size ≤ b ∧ EOut rb qb D wr b) ∧ g ≠ b ∧ b < wr.heap.size) (.slice (some ⟨b2, tailO c2 o2, none⟩) m (c2 - 1)) B := by
 have ho := h.wait; rw [List.reverse_cons] at ho; obtain ⟨-, h2, h3, cs, ⟨va, vb, rfl, ha, hb⟩, hc⟩ := ho.pop (by simp [hn]); obtain ⟨b1, o1, c1, rfl, g1, g2, g3, g4, g5⟩ := ha.headE; obtain ⟨b2, o2, c2, rfl, k1, k2, k3, k4, k5⟩ := hb.headE; rw [← hm] at ha hc g1; rw [← hm2] at hb hc k1; exact ⟨h2, h3, b1, o1, c1, b2, o2, c2, hc 0 (by decide), hc 1 (by decide), ⟨g1, g2, g4, g5⟩, ⟨k1, k2, k4, k5⟩, ha.tailE, hb.tailE⟩
end
theorem UnAt.below {w0 w wr w2 : World} {p rb qb at_ k f : Nat} {S : Sto} {D D0 : Nat → Prop} {lv wv : Value} {L : List Ins} {sl : List Int} {r : Option Bool × Sto × Nat} {Ws : List (List Int × List Int)} (h : UnAt w0 p rb qb lv L at_ sl r D0 w f S D k Ws wv wr) (hb : Below wr.heap.size wr w2) : UnAt w0 p rb qb lv L at_ sl r D0 w f S D k Ws wv w2 :=
 let ⟨h1, s1, _⟩ := h.ex.below hb
 ⟨h1, h.st.trans s1, h.inv, Own.estep h.wait s1 h.own, fun b e => (s1.blk b (h.own b e)).1, h.ok, h.inn, h.kle, h.fuel, h.len, h.eq, h.lvF, h.low⟩
theorem oneP_k (S : Sto) (k a b : Nat) : (oneP S false k a b).1.2.2 = k := by
 unfold oneP bindP
 split
 ·rfl
 split
 ·simp
 split
 ·simp
 split <;> rfl
theorem EOut.keepE {rb qb : Nat} {D : Nat → Prop} {w w' : World} {b : Nat} (h : EOut rb qb D w b) (hz : w.heap.size ≤ w'.heap.size) : EOut rb qb D w' b := ⟨h.1, h.2.1, h.2.2.1, Nat.lt_of_lt_of_le h.2.2.2 hz⟩
theorem uniK_end (k : Nat) (S : Sto) : uniK false k S [] = (some true, S, k) := uniK_nil false k S
def SetE (W0 : World) (g i : Nat) (v : Value) (u : World) : Prop := u.heap[g]? = (W0.setCell ⟨g, i, none⟩ v).heap[g]? ∧ g < u.heap.size
theorem frozen_eqE {w w' : World} {g : Nat} (h : w'.heap[g]? = w.heap[g]?) (k : Nat) : w'.frozen? ⟨g, k, none⟩ = w.frozen? ⟨g, k, none⟩ := by
 simp [World.frozen?, h]
theorem heap_setE {w w' : World} {g : Nat} (h : w'.heap[g]? = w.heap[g]?) (k : Nat) (v : Value) : (w'.setCell ⟨g, k, none⟩ v).heap[g]? = (w.setCell ⟨g, k, none⟩ v).heap[g]? := by
 simp [World.setCell, Array.getElem?_modify, h]
theorem keepsE (W : World) (b k : Nat) (v : Value) : Keeps W (W.setCell ⟨b, k, none⟩ v) (fun x => x = b) := ⟨rfl, rfl, rfl, by simp [World.setCell], fun _ _ hb => Below.heap_setCell _ _ _ _ hb⟩
structure UnMid (w0 : World) (p rb qb : Nat) (lv : Value) (L : List Ins) (at_ : Nat) (sl : List Int) (D0 : Nat → Prop) (w : World) (S : Sto) (D : Nat → Prop) (k : Nat) (l : List (List Int × List Int)) (wv : Value) (wr : World) : Prop where
 ex : ExAt w0 p rb qb S D lv L at_ sl k wr
 st : EStep rb qb D0 w D wr
 wait : Own pqKind wr w.heap.size (fun b => w.heap.size ≤ b ∧ EOut rb qb D wr b) wv l
 own : ∀ b, wv.ownBlock = some b → EOut rb qb D wr b
section
variable {w0 w wr w2 : World} {p rb qb at_ k k2 f g n cap : Nat} {S S' : Sto} {D D' D0 : Nat → Prop} {lv wv : Value} {L : List Ins} {sl : List Int} {r : Option Bool × Sto × Nat} {Ws l : List (List Int × List Int)} {x y : Int} {A B : List Int}
theorem UnMid.step (h : UnMid w0 p rb qb lv L at_ sl D0 w S D k l wv wr) (hx : ExAt w0 p rb qb S' D' lv L at_ sl k2 w2) (hs : EStep rb qb D wr D' w2) : UnMid w0 p rb qb lv L at_ sl D0 w S' D' k2 l wv w2 :=
 ⟨hx, h.st.trans hs, Own.estep h.wait hs h.own, fun b e => (hs.blk b (h.own b e)).1⟩
theorem UnMid.below (h : UnMid w0 p rb qb lv L at_ sl D0 w S D k l wv wr) (hb : Below wr.heap.size wr w2) : UnMid w0 p rb qb lv L at_ sl D0 w S D k l wv w2 :=
 let ⟨h1, s1, _⟩ := h.ex.below hb
 h.step h1 s1
theorem un_stored {W1 u : World} (h : UnAt w0 p rb qb lv L at_ sl r D0 w f S D k ((x :: A, y :: B) :: Ws) (.slice (some ⟨g, 0, none⟩) (n + 1) cap) W1) (hn : n = Ws.length) {va vb : Value} (hs : SetE W1 g (n * 2) va u) (hk : Keeps W1 u (fun b => b = g))
 (ha : IntSl W1 (fun b => (w.heap.size ≤ b ∧ EOut rb qb D W1 b) ∧ g ≠ b ∧ b < W1.heap.size) va A) (hb : IntSl W1 (fun b => (w.heap.size ≤ b ∧ EOut rb qb D W1 b) ∧ g ≠ b ∧ b < W1.heap.size) vb B) :
 (∃ z, u.cell? ⟨g, n * 2 + 1, none⟩ = some z) ∧ u.frozen? ⟨g, n * 2 + 1, none⟩ = false ∧ UnMid w0 p rb qb lv L at_ sl D0 w S D k (Ws.reverse ++ [(A, B)]) (.slice (some ⟨g, 0, none⟩) (n + 1) cap) (u.setCell ⟨g, n * 2 + 1, none⟩ vb) := by
 have hw := h.wait; have hl : (((x :: A, y :: B) :: Ws).reverse).length = n + 1 := by simp [hn]
 have hnl : n < (((x :: A, y :: B) :: Ws).reverse).length := by omega
 have he : (((x :: A, y :: B) :: Ws).reverse)[n] = (x :: A, y :: B) := by simp [hn]
 have hgo := h.own g rfl; have hgl := (hw.low g rfl)
 have h1 := hw.stored hl n hnl 0 (by decide) va (A, y :: B) (fun cs hr => by
  rw [he] at hr; obtain ⟨va0, vb0, rfl, -, hb0⟩ := hr; exact ⟨va, vb0, rfl, ha.move (fun b hb _ => ⟨hb.1, fun e => hb.2.1 (by simpa [Value.ownBlock] using e), hb.2.2⟩) (fun _ _ _ => rfl), hb0⟩)
 have hz : (W1.setCell ⟨g, n * 2 + 0, none⟩ va).heap.size = W1.heap.size := by simp [World.setCell]
 have h2 : Own pqKind u w.heap.size (fun b => w.heap.size ≤ b ∧ EOut rb qb D W1 b) (.slice (some ⟨g, 0, none⟩) (n + 1) cap) ((((x :: A, y :: B) :: Ws).reverse).set n (A, y :: B)) := by
  refine h1.keep (by have := hk.size; have e : (W1.setCell ⟨g, n * pqKind.sz + 0, none⟩ va).heap.size = W1.heap.size := hz; omega) fun b hlt hb => ?_
  have hlt' : b < W1.heap.size := by have e : (W1.setCell ⟨g, n * pqKind.sz + 0, none⟩ va).heap.size = W1.heap.size := hz; omega
  by_cases e : b = g
  ·subst e; exact hs.1
  ·exact (hk.block b hlt' e).trans (Below.heap_setCell _ _ _ _ e).symm
 have hl2 : ((((x :: A, y :: B) :: Ws).reverse).set n (A, y :: B)).length = n + 1 := by rw [List.length_set]; exact hl
 have hnl2 : n < ((((x :: A, y :: B) :: Ws).reverse).set n (A, y :: B)).length := by omega
 have hcell := h2.elem hl2 n hnl2
 have h3 := h2.stored hl2 n hnl2 1 (by decide) vb (A, B) (fun cs hr => by
  rw [List.getElem_set_self] at hr; obtain ⟨va0, vb0, rfl, ha0, -⟩ := hr; refine ⟨va0, vb, rfl, ha0, hb.move (fun b hb _ => ⟨hb.1, fun e => hb.2.1 (by simpa [Value.ownBlock] using e), Nat.lt_of_lt_of_le hb.2.2 hk.size⟩) fun b hb hlt => hk.block b hlt fun e => hb.2.1 e.symm⟩)
 have heq : ((((x :: A, y :: B) :: Ws).reverse).set n (A, y :: B)).set n (A, B) = Ws.reverse ++ [(A, B)] := by
  rw [List.set_set, List.reverse_cons, List.set_append_right _ _ (by simp [hn])]
  simp [hn]
 rw [heq] at h3; have hk2 : Keeps W1 (u.setCell ⟨g, n * 2 + 1, none⟩ vb) (fun b => b = g) := hk.trans (keepsE u g _ vb) fun b e => .inl e
 have hsz : W1.heap.size ≤ (u.setCell ⟨g, n * 2 + 1, none⟩ vb).heap.size := hk2.size; refine ⟨?_, h2.thaw hl2 _, h.ex.ownM hk2 ?_, h.st.ownM hk2 ?_, Own.mono h3 fun b hb _ => ⟨hb.1, hb.2.keepE hsz⟩, fun b e => (h.own b e).keepE hsz⟩
 ·obtain ⟨cs, ⟨va0, vb0, rfl, -, -⟩, hc⟩ := hcell
  exact ⟨vb0, hc 1 (by decide)⟩
 ·rintro b rfl hlt
  exact ⟨hgo, by have := h.low; omega, fun e => by have := h.lvF b e; omega⟩
 ·rintro b rfl hlt
  exact hgl.1
theorem UnMid.put {v v' : Value} {q : List Int × List Int} {P : Nat → Prop} (h : UnMid w0 p rb qb lv L at_ sl D0 w S D k l v wr) (hP : P = fun b => w.heap.size ≤ b ∧ EOut rb qb D wr b) (ho : Own pqKind w2 w.heap.size P v' (l ++ [q])) (hg : wr.grownBy w2 v.ownBlock) (hv : ∀ b, v'.ownBlock = some b → v.ownBlock = some b ∨ wr.heap.size ≤ b) (hlv : ∀ b, slBlk lv = some b → b < w.heap.size) (hlow : w0.heap.size ≤ w.heap.size) :
 UnMid w0 p rb qb lv L at_ sl D0 w S D k (l ++ [q]) v' w2 := by
 subst hP; have hk : Keeps wr w2 (fun b => v.ownBlock = some b) := Keeps.grown hg fun b e => .inl e
 refine ⟨h.ex.ownM hk fun b e hlt => ⟨h.own b e, by have := (h.wait.low b e).1; omega, fun e2 => by have := hlv b e2; have := (h.wait.low b e).1; omega⟩, h.st.ownM hk fun b e hlt => (h.wait.low b e).1, Own.mono ho fun b hb _ => ⟨hb.1, hb.2.keepE hk.size⟩, fun b e => ?_⟩; rcases hv b e with e1 | e1
 ·exact (h.own b e1).keepE hk.size
 ·exact ⟨fun hd => by have := h.ex.law.dl b hd; omega, fun e2 => by have := h.ex.rlt; omega, fun e2 => by have := h.ex.qlt; omega, (ho.low b e).2⟩
theorem UnMid.first (h : UnMid w0 p rb qb lv L at_ sl D0 w S D k (l ++ [(A, B)]) (.slice (some ⟨g, 0, none⟩) (n + 1) cap) wr) (hn : n = l.length) : ∃ a c, wr.cell? ⟨g, n * 2, none⟩ = some (.slice a A.length c) := by
 obtain ⟨-, -, -, cs, ⟨va, vb, rfl, ha, hb⟩, hc⟩ := h.wait.pop hn.symm; obtain ⟨a, c, rfl⟩ := ha.form; exact ⟨a, c, hc 0 (by decide)⟩
theorem UnMid.cut (h : UnMid w0 p rb qb lv L at_ sl D0 w S D k (l ++ [(A, B)]) (.slice (some ⟨g, 0, none⟩) (n + 1) cap) wr) (hn : n = l.length) : UnMid w0 p rb qb lv L at_ sl D0 w S D k l (.slice (some ⟨g, 0, none⟩) n cap) wr :=
 ⟨h.ex, h.st, (h.wait.pop hn.symm).1, fun b e => h.own b e⟩
end
theorem oneP_some (S : Sto) (sf : Bool) (k a b : Nat) (h : sf = false) : (oneP S sf k a b).1.1 ≠ none := by
 subst h; unfold oneP bindP
 split
 ·simp
 split
 ·simp
 split
 ·simp
 split <;> simp
theorem flat_top {x y : Nat} {A B : List Int} {Ws : List (List Int × List Int)} : flatW (((x : Int) :: A, (y : Int) :: B) :: Ws) = (x, y) :: flatW ((A, B) :: Ws) := by simp [flatW]
theorem flat_nil {Ws : List (List Int × List Int)} {B : List Int} : flatW (([], B) :: Ws) = flatW Ws := by simp [flatW]
theorem flat_cons {q : List Int × List Int} {Ws : List (List Int × List Int)} : flatW (q :: Ws) = (q.1.map Int.toNat).zip (q.2.map Int.toNat) ++ flatW Ws := by simp [flatW]
theorem ex_unify {w0 w : World} {p rb qb at_ k : Nat} {S : Sto} {D : Nat → Prop} {lv : Value} {L : List Ins} {sl : List Int} (h : ExAt w0 p rb qb S D lv L at_ sl k w) (hI : Inv S) (hk : k ≤ 20000) (a b : Nat) (ha : a < S.cells.length) (hb : b < S.cells.length) :
 Calls Try.prog 29 #[.pointer (some ⟨rb, 0, none⟩), .int .i64 a, .int .i64 b] w fun e w' => e = .returned (.tuple #[.bool (hasB (uniK false (20000 - k) S [(a, b)]).1), .int .i64 (hasE (uniK false (20000 - k) S [(a, b)]).1)]) ∧ ∃ D', ExAt w0 p rb qb (uniK false (20000 - k) S [(a, b)]).2.1 D' lv L at_ sl (20000 - (uniK false (20000 - k) S [(a, b)]).2.2) w' ∧ EStep rb qb D w D' w' := by
 obtain ⟨R, hR⟩ : ∃ R, R = uniK false (20000 - k) S [(a, b)] := ⟨_, rfl⟩; rw [← hR]; have hlv : ∀ b, slBlk lv = some b → b < w.heap.size := fun b e => (h.iF b e).1.2
 have hlw := h.law.bel.size; have b1 := below_new w (.cells #[.int .i64 a] 3 (0, 0)); have r1 := heap_alloc_new w (.cells #[.int .i64 a] 3 (0, 0)); obtain ⟨w1, hw1⟩ : ∃ w1, w1 = w.alloc (.cells #[.int .i64 a] 3 (0, 0)) := ⟨_, rfl⟩; have z1 : w1.heap.size = w.heap.size + 1 := by rw [hw1]; simp
 rw [← hw1] at b1 r1; have b2 := below_new w1 (.cells #[.int .i64 b] 3 (0, 0)); have r2 := heap_alloc_new w1 (.cells #[.int .i64 b] 3 (0, 0)); obtain ⟨w2, hw2⟩ : ∃ w2, w2 = w1.alloc (.cells #[.int .i64 b] 3 (0, 0)) := ⟨_, rfl⟩; have z2 : w2.heap.size = w.heap.size + 2 := by rw [hw2]; simp [z1]
 rw [← hw2] at b2 r2; rw [z1] at r2; have b3 := below_new w2 (.cells #[.slice (some ⟨w.heap.size, 0, none⟩) 1 1, .slice (some ⟨w.heap.size + 1, 0, none⟩) 1 1] 122 (0, 0)); have r3 := heap_alloc_new w2 (.cells #[.slice (some ⟨w.heap.size, 0, none⟩) 1 1, .slice (some ⟨w.heap.size + 1, 0, none⟩) 1 1] 122 (0, 0)); obtain ⟨w3, hw3⟩ : ∃ w3, w3 = w2.alloc (.cells #[.slice (some ⟨w.heap.size, 0, none⟩) 1 1, .slice (some ⟨w.heap.size + 1, 0, none⟩) 1 1] 122 (0, 0)) := ⟨_, rfl⟩; have z3 : w3.heap.size = w.heap.size + 3 := by rw [hw3]; simp [z2]
 rw [← hw3] at b3 r3; rw [z2] at r3
 have hst : UnRel w0 p rb qb lv L at_ sl R D w (20000 - k) (.slice (some ⟨w.heap.size + 2, 0, none⟩) 1 1) w3 := by
  have hb123 : Below w.heap.size w w3 := b1.trans ((b2.mono (by omega)).trans (b3.mono (by omega))); obtain ⟨h3, s3, f3⟩ := h.below hb123; have e1 : w3.heap[w.heap.size]? = some (.cells #[.int .i64 a] 3 (0, 0)) := (b3.block _ (by omega)).trans ((b2.block _ (by omega)).trans r1); have e2 : w3.heap[w.heap.size + 1]? = some (.cells #[.int .i64 b] 3 (0, 0)) := (b3.block _ (by omega)).trans r2; refine ⟨S, D, k, [([(a : Int)], [(b : Int)])], h3, s3, hI, ?_, fun b e => ?_, fun q hq => ?_, fun q hq => ?_, hk, Nat.le_refl _, by simp, by rw [hR]; rfl, hlv, hlw⟩
  ·refine ⟨[[.slice (some ⟨w.heap.size, 0, none⟩) 1 1, .slice (some ⟨w.heap.size + 1, 0, none⟩) 1 1]], ⟨rfl, .inr ⟨w.heap.size + 2, 1, _, rfl, by omega, r3, Nat.le_refl _, by unfold maxLen; omega, rfl, rfl⟩⟩, ⟨⟨_, _, rfl, ?_, ?_⟩, trivial⟩⟩
   ·refine ⟨_, _, rfl, Nat.le_refl _, by unfold maxLen; decide, fun i hi => ⟨w.heap.size, 0, rfl, ⟨⟨Nat.le_refl _, f3 _ (Nat.le_refl _) (by omega)⟩, by simp [Value.ownBlock], by omega⟩, by omega, ?_⟩⟩
    obtain rfl : i = 0 := by simp at hi; exact hi
    exact cell_of_row _ _ 0 _ _ _ e1
   ·refine ⟨_, _, rfl, Nat.le_refl _, by unfold maxLen; decide, fun i hi => ⟨w.heap.size + 1, 0, rfl, ⟨⟨by omega, f3 _ (by omega) (by omega)⟩, by simp [Value.ownBlock], by omega⟩, by omega, ?_⟩⟩
    obtain rfl : i = 0 := by simp at hi; exact hi
    exact cell_of_row _ _ 0 _ _ _ e2
  ·obtain rfl : w.heap.size + 2 = b := by simpa [Value.ownBlock] using e
   exact f3 _ (by omega) (by omega)
  ·simp only [List.mem_singleton] at hq; subst hq
   exact ⟨rfl, by simp, by simp, by simp⟩
  ·have : q = (a, b) := by simpa [flatW] using hq
   rw [this]; exact ⟨ha, hb⟩
 have HST := Lib.hid hst; rw [hw3, hw2, hw1] at HST; have HKL := Lib.hid hk; clear hst b1 b2 b3 r1 r2 r3 z1 z2 z3 hw1 hw2 hw3 w1 w2 w3 h hR hlv hlw hk
 go_enter Try.func29, Try.ntmps29
 go_wp2
 go_loopg [8] (20000 - k) (fun f v8 wr => UnRel w0 p rb qb lv L at_ sl R D w f v8 wr)
 case atStart => exact HST.out
 case round =>
  clear HST; obtain ⟨S1, D1, k1, Ws, hat⟩ := hrel; have hkl := hat.kle; have hlen := hat.len; have hfu := hat.fuel; obtain ⟨q, c8, e8⟩ := own_formX hat.wait; rw [List.length_reverse] at e8; subst e8; cases Ws with
  | nil =>
    have b1 : decide ((0 : Int) < ((0 : Nat) : Int)) = false := by simp
    have hr : R = (some true, S1, 20000 - k1) := by rw [hat.eq]; exact uniK_end _ _
    have HR := Lib.hid hr; have HAT := Lib.hid hat; clear hr hat; go_wp2; go_ret2; rw [HR.out]; exact ⟨rfl, D1, by rw [show 20000 - (20000 - k1) = k1 by omega]; exact HAT.out.ex, HAT.out.st⟩
  | cons q0 Ws =>
    obtain ⟨A0, B0⟩ := q0; have hok := hat.ok _ (List.mem_cons_self ..)
    obtain ⟨g, rfl⟩ : ∃ g, q = some ⟨g, 0, none⟩ := by
     rcases hat.wait.form with ⟨-, e⟩ | ⟨g, c', e⟩
     ·have := congrArg List.length e; simp at this
     ·simp only [Value.slice.injEq] at e; exact ⟨g, e.1⟩
    cases A0 with
    | nil => exact absurd rfl hok.some
    | cons x A =>
    cases B0 with
    | nil => exact absurd hok.len (by simp)
    | cons y B =>
    obtain ⟨x, rfl⟩ : ∃ n : Nat, x = n := ⟨x.toNat, by have := hok.left x (List.mem_cons_self ..); omega⟩; obtain ⟨y, rfl⟩ : ∃ n : Nat, y = n := ⟨y.toNat, by have := hok.right y (List.mem_cons_self ..); omega⟩; have hAB : A.length = B.length := by have := hok.len; simpa using this
    simp only [List.length_cons] at hlen hat; obtain ⟨n, hn⟩ : ∃ n : Nat, n = Ws.length := ⟨_, rfl⟩; obtain ⟨m, hm⟩ : ∃ m : Nat, m = A.length := ⟨_, rfl⟩; rw [← hn] at hlen hat; obtain ⟨t1, t2, b1, o1, c1, b2, o2, c2, x0, x1, ⟨u1, u2, u3, u4⟩, ⟨v1, v2, v3, v4⟩, ta, tb⟩ := hat.top hn hm (hm.trans hAB); have HAT := Lib.hid hat; unfold maxLen at t2 u2 v2; have hn0 : (0 : Int) ≤ (n : Int) := by omega
    have hn1 : n ≤ 10000000 := by omega
    have hm0 : (0 : Int) < (m : Int) + 1 := by omega
    have e1 : decide ((0 : Int) < (n : Int) + 1) = true := by simp
    have HN := Lib.hid (And.intro hn hm); have HAB := Lib.hid hAB; clear hn hm hat hok hlen ta tb hAB hfu; rw [List.length_cons, ← HN.out.1]; go_wp2; refine wp_region_rest (by kernel_rfl) ?_; have hdr : Below wr.heap.size wr wr.drew := (Below.refl _ _).drew; have h2 := HAT.out.below hdr; have H2 := Lib.hid h2; have x0' : wr.drew.cell? ⟨g, n * 2, none⟩ = _ := x0; have x1' : wr.drew.cell? ⟨g, n * 2 + 1, none⟩ = _ := x1; have u4' : wr.drew.cell? ⟨b1, o1, none⟩ = _ := u4; have v4' : wr.drew.cell? ⟨b2, o2, none⟩ = _ := v4; clear hdr h2 x0 x1 u4 v4; generalize wr.drew = V0 at *; refine rest_chainP (fun u => u = V0) 0 13 (.soft 0 (.soft 1 (.soft 2 (.soft 3 (.soft 4 (.soft 5 (.soft 6 (.soft 7 (.soft 8 (.soft 9 (.soft 10 (.soft 11 (.soft 12 .nil))))))))))))) (.soft _ (.soft _ (.soft _ (.soft _ (.soft _ (.soft _ (.soft _ (.soft _ (.soft _ (.soft _ (.soft _ (.soft _ (.soft _ .nil))))))))))))) ⟨rfl, ⟨rfl, ⟨rfl, ⟨rfl, ⟨rfl, ⟨rfl, ⟨rfl, ⟨rfl, ⟨rfl, ⟨rfl, ⟨rfl, ⟨rfl, ⟨rfl, trivial⟩⟩⟩⟩⟩⟩⟩⟩⟩⟩⟩⟩⟩ (by kernel_rfl) (by kernel_rfl) (by kernel_rfl) (by kernel_rfl) (.inr (by kernel_rfl)) rfl ?_; refine cS (a1 := ?ma1) ?mh1 ?mr1
    case mh1 =>
     intro u hu E hE; subst hu; go_wp2; rfl
    refine chainP_nck _ _ rfl rfl rfl ?_; simp only [Act.put, zA, zB, zC, zD, zE, zF, zG, Nat.reduceAdd]; refine cS (a1 := ?ma2) ?mh2 ?mr2
    case mh2 =>
     intro u hu E hE; subst hu; go_wp2; rfl
    refine cS (a1 := ?ma3) ?mh3 ?mr3
    case mh3 =>
     intro u hu E hE; subst hu; go_wp2; rfl
    refine cS (a1 := ?ma4) ?mh4 ?mr4
    case mh4 =>
     intro u hu E hE; subst hu; go_wp2; rfl
    refine cS (a1 := ?ma5) ?mh5 ?mr5
    case mh5 =>
     intro u hu E hE; subst hu; go_wp2; rfl
    refine cS (a1 := ?ma6) ?mh6 ?mr6
    case mh6 =>
     intro u hu E hE; subst hu; go_wp2; rfl
    refine chainP_nck _ _ rfl rfl rfl ?_; simp only [Act.put, zA, zB, zC, zD, zE, zF, zG, Nat.reduceAdd]; refine cS (a1 := ?ma7) ?mh7 ?mr7
    case mh7 =>
     intro u hu E hE; subst hu; go_wp2; rfl
    refine cS (a1 := ?ma8) ?mh8 ?mr8
    case mh8 =>
     intro u hu E hE; subst hu; go_wp2; rfl
    refine cS (a1 := ?ma9) ?mh9 ?mr9
    case mh9 =>
     intro u hu E hE; subst hu; go_wp2; rfl
    refine cS (a1 := ?ma10) ?mh10 ?mr10
    case mh10 =>
     intro u hu E hE; subst hu; go_wp2; rfl
    refine cS (a1 := ?ma11) ?mh11 ?mr11
    case mh11 =>
     intro u hu E hE; subst hu; go_wp2; rfl
    refine chainP_nil ?_; refine rest_lineL 13 14 [_] rfl (by kernel_rfl) (by decide) (by decide) (by kernel_rfl) ?_; go_wp2; refine then_rest (rest_end (by decide) ?_)
    go_upto_region 5 with fail
    clear x0' x1' u4' v4' u1 u2 u3 v1 v2 v3 t1 t2; refine wp_region_rest (by kernel_rfl) ?_; have hdr : Below V0.heap.size V0 V0.drew := (Below.refl _ _).drew; have h3 := H2.out.below hdr; obtain ⟨t1, t2, b1, o1, c1, b2, o2, c2, x0, x1, ⟨u1, u2, u3, u4⟩, ⟨v1, v2, v3, v4⟩, ta, tb⟩ := h3.top HN.out.1 HN.out.2 (HN.out.2.trans HAB.out); have hgl := (h3.wait.low g rfl).2; have hth := h3.wait.thaw (by simp [HN.out.1]) (n * 2); have H3 := Lib.hid h3; have HTA := Lib.hid (And.intro ta tb); have HTH := Lib.hid hth; clear hdr h3 ta tb u4 v4 u3 v3 hth H2; unfold maxLen at t2 u2 v2; have hr1 := fun w => slice_rest (b := b1) (o := o1) (m := m) (c := c1) u1 w
    have hr2 := fun w => slice_rest (b := b2) (o := o2) (m := m) (c := c2) v1 w
    generalize V0.drew = W0 at *; refine rest_opsM 0 15 96 [(14, g)] (fun _ _ => false) [_, _, _, _, _, _, _, _, _, _, _, _, _, _, _] (pk 0 [isV ?a12_0, isV ?a12_1, isV ?a12_2, isV ?a12_3, isV ?a12_4, isV ?a12_5, isV (.slice (some ⟨b1, tailO c1 o1, none⟩) m (c1 - 1)), isV ?a12_7, isV ?a12_8, isV ?a12_9, isV ?a12_10, isV (.slice (some ⟨b2, tailO c2 o2, none⟩) m (c2 - 1)), isV ?a12_12, isV ?a12_13, fun v u => SetE W0 g (n * 2) (.slice (some ⟨b1, tailO c1 o1, none⟩) m (c1 - 1)) u]) (fun _ _ => none) rfl (by kernel_rfl) (by kernel_rfl) rfl (.inr (by kernel_rfl)) ?hS12 ?hop12 ?_
    case hop12 =>
     refine ⟨?_, ?_⟩
     ·intro v u hu hs Q' hQ
      simp only [putX, dstOf, cond_false]; clear hs; go_wp2; exact ⟨rfl, Keeps.refl _ _, by (show _ = _; rfl), fun _ h => nomatch h⟩
     refine ⟨?_, ?_⟩
     ·intro v u hu hs Q' hQ
      simp only [putX, dstOf, cond_false]; clear hs; go_wp2; exact ⟨rfl, Keeps.refl _ _, by (show _ = _; rfl), fun _ h => nomatch h⟩
     refine ⟨?_, ?_⟩
     ·intro v u hu hs Q' hQ
      simp only [putX, dstOf, cond_false]; clear hs; go_wp2; exact ⟨rfl, Keeps.refl _ _, by (show _ = _; rfl), fun _ h => nomatch h⟩
     refine ⟨?_, ?_⟩
     ·intro v u hu hs Q' hQ
      simp only [putX, dstOf, cond_false]; have s_2 : v 2 = _ := hs 2 (by kernel_rfl) (by decide) (by decide); clear hs; go_wp2; exact ⟨rfl, Keeps.refl _ _, by (show _ = _; rfl), fun _ h => nomatch h⟩
     refine ⟨?_, ?_⟩
     ·intro v u hu hs Q' hQ
      simp only [putX, dstOf, cond_false]; have s_3 : v 3 = _ := hs 3 (by kernel_rfl) (by decide) (by decide); clear hs; go_wp2; exact ⟨rfl, Keeps.refl _ _, by (show _ = _; rfl), fun _ h => nomatch h⟩
     refine ⟨?_, ?_⟩
     ·intro v u hu hs Q' hQ
      simp only [putX, dstOf, cond_false]; have s_4 : v 4 = _ := hs 4 (by kernel_rfl) (by decide) (by decide); have HZ := hu.size; have KU : ∀ b, b < W0.heap.size → b ∉ ([] : List Nat) → u.heap[b]? = W0.heap[b]? := fun b hlt hn => hu.block b hlt fun h => hn h
      have y1 := (World.cell?_of_block (w := W0) (w' := u) (a := ⟨g, n * 2, none⟩) (KU g hgl (by simp))).trans x0; have y2 := (World.cell?_of_block (w := W0) (w' := u) (a := ⟨g, n * 2 + 1, none⟩) (KU g hgl (by simp))).trans x1; clear hs; go_wp2; exact ⟨rfl, Keeps.refl _ _, by (show _ = _; rfl), fun _ h => nomatch h⟩
     refine ⟨?_, ?_⟩
     ·intro v u hu hs Q' hQ
      simp only [putX, dstOf, cond_false]; have s_5 : v 5 = _ := hs 5 (by kernel_rfl) (by decide) (by decide); clear hs; go_wp2; exact ⟨rfl, Keeps.refl _ _, by (show _ = _; rfl), fun _ h => nomatch h⟩
     refine ⟨?_, ?_⟩
     ·intro v u hu hs Q' hQ
      simp only [putX, dstOf, cond_false]; clear hs; go_wp2; exact ⟨rfl, Keeps.refl _ _, by (show _ = _; rfl), fun _ h => nomatch h⟩
     refine ⟨?_, ?_⟩
     ·intro v u hu hs Q' hQ
      simp only [putX, dstOf, cond_false]; have s_7 : v 7 = _ := hs 7 (by kernel_rfl) (by decide) (by decide); clear hs; go_wp2; exact ⟨rfl, Keeps.refl _ _, by (show _ = _; rfl), fun _ h => nomatch h⟩
     refine ⟨?_, ?_⟩
     ·intro v u hu hs Q' hQ
      simp only [putX, dstOf, cond_false]; have s_8 : v 8 = _ := hs 8 (by kernel_rfl) (by decide) (by decide); clear hs; go_wp2; exact ⟨rfl, Keeps.refl _ _, by (show _ = _; rfl), fun _ h => nomatch h⟩
     refine ⟨?_, ?_⟩
     ·intro v u hu hs Q' hQ
      simp only [putX, dstOf, cond_false]; have s_9 : v 9 = _ := hs 9 (by kernel_rfl) (by decide) (by decide); have HZ := hu.size; have KU : ∀ b, b < W0.heap.size → b ∉ ([] : List Nat) → u.heap[b]? = W0.heap[b]? := fun b hlt hn => hu.block b hlt fun h => hn h
      have y1 := (World.cell?_of_block (w := W0) (w' := u) (a := ⟨g, n * 2, none⟩) (KU g hgl (by simp))).trans x0; have y2 := (World.cell?_of_block (w := W0) (w' := u) (a := ⟨g, n * 2 + 1, none⟩) (KU g hgl (by simp))).trans x1; clear hs; go_wp2; exact ⟨rfl, Keeps.refl _ _, by (show _ = _; rfl), fun _ h => nomatch h⟩
     refine ⟨?_, ?_⟩
     ·intro v u hu hs Q' hQ
      simp only [putX, dstOf, cond_false]; have s_10 : v 10 = _ := hs 10 (by kernel_rfl) (by decide) (by decide); clear hs; go_wp2; exact ⟨rfl, Keeps.refl _ _, by (show _ = _; rfl), fun _ h => nomatch h⟩
     refine ⟨?_, ?_⟩
     ·intro v u hu hs Q' hQ
      simp only [putX, dstOf, cond_false]; have s_0 : v 0 = _ := hs 0 (by kernel_rfl) (by decide) (by decide); have s_2 : v 2 = _ := hs 2 (by kernel_rfl) (by decide) (by decide); have s_3 : v 3 = _ := hs 3 (by kernel_rfl) (by decide) (by decide); have s_4 : v 4 = _ := hs 4 (by kernel_rfl) (by decide) (by decide); have s_5 : v 5 = _ := hs 5 (by kernel_rfl) (by decide) (by decide); have s_6 : v 6 = .slice (some ⟨b1, tailO c1 o1, none⟩) m (c1 - 1) := hs 6 (by kernel_rfl) (by decide) (by decide); have s_10 : v 10 = _ := hs 10 (by kernel_rfl) (by decide) (by decide); clear hs; go_wp2; exact ⟨rfl, Keeps.refl _ _, by (show _ = _; rfl), fun _ h => nomatch h⟩
     refine ⟨?_, ?_⟩
     ·intro v u hu hs Q' hQ
      simp only [putX, dstOf, cond_false]; have s_0 : v 0 = _ := hs 0 (by kernel_rfl) (by decide) (by decide); have s_2 : v 2 = _ := hs 2 (by kernel_rfl) (by decide) (by decide); have s_3 : v 3 = _ := hs 3 (by kernel_rfl) (by decide) (by decide); have s_4 : v 4 = _ := hs 4 (by kernel_rfl) (by decide) (by decide); have s_5 : v 5 = _ := hs 5 (by kernel_rfl) (by decide) (by decide); have s_6 : v 6 = .slice (some ⟨b1, tailO c1 o1, none⟩) m (c1 - 1) := hs 6 (by kernel_rfl) (by decide) (by decide); have s_10 : v 10 = _ := hs 10 (by kernel_rfl) (by decide) (by decide); have s_12 : v 12 = _ := hs 12 (by kernel_rfl) (by decide) (by decide); clear hs; go_wp2; exact ⟨rfl, Keeps.refl _ _, by (show _ = _; rfl), fun _ h => nomatch h⟩
     refine ⟨?_, ?_⟩
     ·intro v u hu hs Q' hQ
      simp only [putX, dstOf, cond_false]; have s_0 : v 0 = _ := hs 0 (by kernel_rfl) (by decide) (by decide); have s_2 : v 2 = _ := hs 2 (by kernel_rfl) (by decide) (by decide); have s_3 : v 3 = _ := hs 3 (by kernel_rfl) (by decide) (by decide); have s_4 : v 4 = _ := hs 4 (by kernel_rfl) (by decide) (by decide); have s_5 : v 5 = _ := hs 5 (by kernel_rfl) (by decide) (by decide); have s_6 : v 6 = .slice (some ⟨b1, tailO c1 o1, none⟩) m (c1 - 1) := hs 6 (by kernel_rfl) (by decide) (by decide); have s_10 : v 10 = _ := hs 10 (by kernel_rfl) (by decide) (by decide); have s_13 : v 13 = _ := hs 13 (by kernel_rfl) (by decide) (by decide); have HZ := hu.size; have KU : ∀ b, b < W0.heap.size → b ∉ ([] : List Nat) → u.heap[b]? = W0.heap[b]? := fun b hlt hn => hu.block b hlt fun h => hn h
      have y1 := (World.cell?_of_block (w := W0) (w' := u) (a := ⟨g, n * 2, none⟩) (KU g hgl (by simp))).trans x0; have y2 := (World.cell?_of_block (w := W0) (w' := u) (a := ⟨g, n * 2 + 1, none⟩) (KU g hgl (by simp))).trans x1; clear hs
      (have f1 := (frozen_eqE (KU g hgl (by simp)) (n * 2)).trans HTH.out; simp only [s_6, s_13]; go_wp2)
      exact ⟨rfl, keepsE _ _ _ _, ⟨heap_setE (KU g hgl (by simp)) _ _, by simp [World.setCell]; have := hu.size; omega⟩, fun _ h => nomatch h⟩
     exact trivial
    case hS12 =>
     intro j v u u' hkj hjn h hz hb
     match j, hkj, hjn, h, hb with
     | 0, _, _, h, hb => exact h
     | 1, _, _, h, hb => exact h
     | 2, _, _, h, hb => exact h
     | 3, _, _, h, hb => exact h
     | 4, _, _, h, hb => exact h
     | 5, _, _, h, hb => exact h
     | 6, _, _, h, hb => exact h
     | 7, _, _, h, hb => exact h
     | 8, _, _, h, hb => exact h
     | 9, _, _, h, hb => exact h
     | 10, _, _, h, hb => exact h
     | 11, _, _, h, hb => exact h
     | 12, _, _, h, hb => exact h
     | 13, _, _, h, hb => exact h
     | 14, _, _, h, hb => exact (let ⟨h1, h3⟩ := h; ⟨(hb.block _ h3 (by rintro ⟨q, hq, hm⟩; simp at hm; omega)).trans h1, Nat.lt_of_lt_of_le h3 hb.size⟩)
     | q + 15, _, hq, _, _ => exact absurd hq (by omega)
    intro v u hu hs hap; have s_0 : v 0 = _ := hs 0 (by decide) (by decide); have s_1 : v 1 = _ := hs 1 (by decide) (by decide); have s_2 : v 2 = _ := hs 2 (by decide) (by decide); have s_3 : v 3 = _ := hs 3 (by decide) (by decide); have s_4 : v 4 = _ := hs 4 (by decide) (by decide); have s_5 : v 5 = _ := hs 5 (by decide) (by decide); have s_6 : v 6 = .slice (some ⟨b1, tailO c1 o1, none⟩) m (c1 - 1) := hs 6 (by decide) (by decide); have s_7 : v 7 = _ := hs 7 (by decide) (by decide); have s_8 : v 8 = _ := hs 8 (by decide) (by decide); have s_9 : v 9 = _ := hs 9 (by decide) (by decide); have s_10 : v 10 = _ := hs 10 (by decide) (by decide); have s_11 : v 11 = .slice (some ⟨b2, tailO c2 o2, none⟩) m (c2 - 1) := hs 11 (by decide) (by decide); have s_12 : v 12 = _ := hs 12 (by decide) (by decide); have s_13 : v 13 = _ := hs 13 (by decide) (by decide); have s_14 : SetE W0 g (n * 2) (.slice (some ⟨b1, tailO c1 o1, none⟩) m (c1 - 1)) u := hs 14 (by decide) (by decide); simp only [putAll, dstOf]; have hset : SetE W0 g (n * 2) (.slice (some ⟨b1, tailO c1 o1, none⟩) m (c1 - 1)) u := s_14; have hkeep : Keeps W0 u (fun b => b = g) := ⟨hu.os, hu.tape, hu.output, hu.size, fun b hb hne => hu.block b hb (by rintro ⟨q, hm⟩; simp at hm; exact hne hm.2)⟩; obtain ⟨⟨z, hz⟩, hf, hmid⟩ := un_stored H3.out HN.out.1 hset hkeep HTA.out.1 HTA.out.2; have HMID := Lib.hid hmid; clear hs hap hset hkeep hu s_14 hmid H3 HTA HTH x0 x1 u1 u2 v1 v2 hr1 hr2 hgl; refine rest_lineL 15 18 [_, _, _] rfl (by kernel_rfl) (by decide) (by decide) (by kernel_rfl) ?_; simp only [s_0, s_1, s_2, s_3, s_4, s_5, s_6, s_7, s_8, s_9, s_10, s_11, s_12, s_13, Act.put, List.getElem?_toArray, List.getElem?_cons_succ, List.getElem?_cons_zero, Option.bind_some, List.setIfInBounds_toArray, List.set_cons_succ, List.set_cons_zero, Nat.reduceAdd]; clear s_0 s_1 s_2 s_3 s_4 s_5 s_6 s_7 s_8 s_9 s_10 s_11 s_12 s_13; go_wp2; refine then_rest (rest_end (by decide) ?_); clear hf hz; generalize u.setCell ⟨g, n * 2 + 1, none⟩ (.slice (some ⟨b2, tailO c2 o2, none⟩) m (c2 - 1)) = W2 at *; have hnr : n = Ws.reverse.length := by rw [List.length_reverse]; exact HN.out.1
    obtain ⟨qf, cf, x0⟩ := HMID.out.first hnr; rw [← HN.out.2] at x0; have hno := oneP_some S1 false
    by_cases hm0' : m = 0
    ·subst hm0'
     obtain rfl : A = [] := List.eq_nil_of_length_eq_zero HN.out.2.symm; have hm2 := HMID.out.cut hnr; have e2 : ((((0 : Nat) : Int)) == 0) = true := rfl; have hflat : flatW (((x : Int) :: [], (y : Int) :: B) :: Ws) = (x, y) :: flatW Ws := by rw [flat_top, flat_nil]
     have hwok : ∀ q ∈ Ws, WOk q := fun q hq => HAT.out.ok q (List.mem_cons_of_mem _ hq)
     have HM := Lib.hid hm2; have HF := Lib.hid (And.intro hflat (And.intro hwok (show n = Ws.length ∧ Ws.length ≤ Ws.length + 1 from ⟨HN.out.1, Nat.le_succ _⟩))); clear hm2 hflat hwok hnr HMID; have t3 : (n : Int) ≤ (c8 : Int) := by omega
     go_upto_region 8 with fail
     clear x0 e2 t3; obtain ⟨Wr, hWr⟩ : ∃ Wr, Wr = Ws := ⟨_, rfl⟩; obtain ⟨nr, hnr⟩ : ∃ nr, nr = n := ⟨_, rfl⟩; rw [← hWr] at HM; rw [← hnr] at HM ⊢; have HF2 : Hid (flatW (((x : Int) :: [], (y : Int) :: B) :: Ws) = (x, y) :: flatW Wr ∧ (∀ q ∈ Wr, WOk q) ∧ nr = Wr.length ∧ Wr.length ≤ Ws.length + 1) := by rw [hWr, hnr]; exact HF
     clear hWr hnr HF; obtain ⟨y0, y1, y2, y3, y11⟩ := row12 HM.out.ex.row
     by_cases hk20 : k1 = 20000
     ·subst hk20
      have hr : R = (none, S1, 0) := by
       rw [HAT.out.eq, HF2.out.1]; exact uniK_zero false S1 _ _
      have HR := Lib.hid hr; clear hr; go_wp2; go_ret2; rw [HR.out]; exact ⟨rfl, D1, HM.out.ex, HM.out.st⟩
     obtain ⟨j, hj⟩ : ∃ j, 20000 - k1 = j + 1 := ⟨20000 - k1 - 1, by omega⟩
     have hr : R = if (oneP S1 false j x y).1.1 = some true then uniK false j (oneP S1 false j x y).1.2.1 ((oneP S1 false j x y).2 ++ flatW Wr) else (oneP S1 false j x y).1 := by
      rw [HAT.out.eq, HF2.out.1, hj, uniK_cons, oneP_k]
     have HR := Lib.hid hr; have HJ := Lib.hid hj; have b2 : ((k1 : Int) == 20000) = false := by simp; omega
     obtain ⟨h5, s5⟩ := HM.out.ex.setWork (k1 + 1); have hfz : W2.frozen? ⟨rb, 11, none⟩ = false := by simp [World.frozen?, HM.out.ex.row]
     have hm5 := HM.out.step h5 s5; rw [show ((k1 + 1 : Nat) : Int) = (k1 : Int) + 1 by omega] at hm5; have HM5 := Lib.hid hm5; clear hr hj h5 s5 hm5 HM hk20
     go_upto_region 11 with fail
     clear y0 y1 y2 y3 y11 hfz; generalize W2.setCell ⟨rb, 11, none⟩ (.int .i64 ((k1 : Int) + 1)) = W3 at *; obtain ⟨hx, hy⟩ := HAT.out.inn (x, y) (by rw [HF2.out.1]; exact List.mem_cons_self ..); have HMORE := Lib.hid (oneP_more HAT.out.inv (sf := false) (k := j) hx hy); have HEXT := Lib.hid (oneP_ext HAT.out.inv (sf := false) (k := j) hx hy); have HNO := Lib.hid (oneP_some S1 false j x y rfl); have HK := Lib.hid (oneP_k S1 j x y); clear hno
     go_wp2_with fail
     refine (ex_pair HM5.out.ex HAT.out.inv j x y hx hy).mono ?_; generalize oneP S1 false j x y = r2 at HR HMORE HEXT HNO HK ⊢; obtain ⟨⟨o, S2, k2⟩, more⟩ := r2; dsimp only at HR HMORE HEXT HNO HK; rintro e6 w6 ⟨va, vb, A2, B2, rfl, hl2, hz2, hA2, hB2, D6, h6, s6, ia, ib⟩; dsimp only at h6 hz2; obtain ⟨qa, ca, rfl⟩ := ia.form; obtain ⟨qz, cz, rfl⟩ := ib.form; have hm6 := HM5.out.step h6 s6; have hb7 := below_new w6 (.cells #[.slice qa A2.length ca, .slice qz B2.length cz] 122 (0, 0)); have hr7 := heap_alloc_new w6 (.cells #[.slice qa A2.length ca, .slice qz B2.length cz] 122 (0, 0)); obtain ⟨-, s7, f7⟩ := hm6.ex.below hb7; have HM7 := Lib.hid (hm6.below hb7); have HR7 := Lib.hid hr7; have HG7 := Lib.hid (And.intro (f7 w6.heap.size (Nat.le_refl _) (by simp)) (And.intro HM5.out.st.size (HM5.out.wait.low g rfl).2)); have HIA := Lib.hid (And.intro (ia.estep s7) (ib.estep s7)); have HL2 := Lib.hid (And.intro hl2 (And.intro hz2 (And.intro hA2 hB2))); have hnw : ∀ b, W3.heap.size ≤ b → b ≠ g := fun b hb e => by have := HG7.out.2.2; omega
     have HNW := Lib.hid hnw; clear hl2 hz2 hA2 hB2 h6 s6 ia ib hm6 hb7 hr7 s7 f7 HM5 hnw; cases o with
     | none => exact absurd rfl HNO.out
     | some o =>
     cases o with
     | false =>
       have hr := HR.out; rw [if_neg (by simp)] at hr; have HR3 := Lib.hid hr; clear hr HR; simp only [hasB]; go_wp2; go_ret2; rw [HR3.out]; have e := HK.out; subst e; exact ⟨rfl, D6, by rw [show 20000 - k2 = k1 + 1 by have := HJ.out; omega]; exact HM7.out.ex, HM7.out.st⟩
     | true =>
       have hr := HR.out; rw [if_pos rfl] at hr; have e := HK.out; subst e; have HR3 := Lib.hid hr; clear hr HR HK; simp only [hasB]
       go_upto_region 14 with fail
       generalize w6.alloc (.cells #[.slice qa A2.length ca, .slice qz B2.length cz] 122 (0, 0)) = W7 at *; generalize w6.heap.size = g7 at *; have p0 : W7.cell? ⟨g7, 0, none⟩ = some (.slice qa A2.length ca) := cell_of_row _ _ 0 _ _ _ HR7.out; have p1 : W7.cell? ⟨g7, 1, none⟩ = some (.slice qz B2.length cz) := cell_of_row _ _ 1 _ _ _ HR7.out; have hlen := HAT.out.len; have hext := HEXT.out
       have hinn : InL S2 (flatW Wr) := fun q hq => by
        have h0 := HAT.out.inn q (by rw [HF2.out.1]; exact List.mem_cons_of_mem _ hq); have := hext.len; omega
       have hmr : ∀ q ∈ more, q.1 < S2.cells.length ∧ q.2 < S2.cells.length := fun q hq => by
        have h0 := HMORE.out q hq; have := hext.len; omega
       obtain ⟨f, hf⟩ : ∃ f, gk = f + 1 := ⟨gk - 1, by have := HAT.out.fuel; have := HJ.out; omega⟩; subst hf; have hfu := HAT.out.fuel; have HPL := Lib.hid (And.intro hinn (And.intro hmr (And.intro hext.inv (And.intro (show k1 + 1 ≤ 20000 by have := HJ.out; omega) (show 20000 - (k1 + 1) = k2 ∧ 20000 - (k1 + 1) ≤ f by have := HJ.out; omega))))); clear hext hinn hmr hfu
       by_cases ha2 : A2 = []
       ·subst ha2
        have hrel : UnRel w0 p rb qb lv L at_ sl R D w f (.slice (some ⟨g, 0, none⟩) nr c8) W7 := by
         refine ⟨S2, D6, k1 + 1, Wr, HM7.out.ex, HM7.out.st, HPL.out.2.2.1, HM7.out.wait, HM7.out.own, HF2.out.2.1, HPL.out.1, HPL.out.2.2.2.1, HPL.out.2.2.2.2.2, ?_, ?_, HAT.out.lvF, HAT.out.low⟩
         ·have := HF2.out.2.2.2; simp only [List.length_cons] at hlen; omega
         ·rw [HR3.out, HPL.out.2.2.2.2.1]
          congr 1
          have := HL2.out.2.1; rw [← this]
          simp
        have HREL := Lib.hid hrel; have e3 : decide ((0 : Int) < ((0 : Nat) : Int)) = false := rfl; clear hrel hlen p1 HM7 HR7 HG7 HIA; simp only [List.length_nil] at p0; go_wp2
        go_roundg f
        case measure => omega
        case rel => exact HREL.out
       ·obtain ⟨la, hla⟩ : ∃ la, la + 1 = A2.length := ⟨A2.length - 1, by have : 0 < A2.length := List.length_pos_iff.2 ha2; omega⟩
        have e3 : decide ((0 : Int) < (la : Int) + 1) = true := by simp
        obtain ⟨lb, hlb⟩ : ∃ lb, lb = B2.length := ⟨_, rfl⟩; rw [← hla] at p0 HR7 HIA; rw [← hlb] at p1 HR7 HIA; have HLA := Lib.hid (And.intro hla hlb); have HNE := Lib.hid ha2; clear hla hlb ha2
        go_upto_region 15 with fail
        have hb8 := below_new W7 (.cells #[.slice qa (la + 1) ca, .slice qz lb cz] 122 (0, 0)); have hr8 := heap_alloc_new W7 (.cells #[.slice qa (la + 1) ca, .slice qz lb cz] 122 (0, 0)); obtain ⟨-, s8, -⟩ := HM7.out.ex.below hb8; have HM8 := Lib.hid (HM7.out.below hb8); have HR8 := Lib.hid hr8; have HIA8 := Lib.hid (And.intro (HIA.out.1.estep s8) (HIA.out.2.estep s8)); have hwl : Wr.reverse.length = nr := by rw [List.length_reverse]; exact HF2.out.2.2.1.symm
        have HWL := Lib.hid (And.intro hwl (show nr ≤ 20001 by have := HF2.out.2.2.1; have := HF2.out.2.2.2; simp only [List.length_cons] at hlen; omega)); have HSZ := Lib.hid (show w.heap.size ≤ (W7.alloc (.cells #[.slice qa (la + 1) ca, .slice qz lb cz] 122 (0, 0))).heap.size from Nat.le_trans HM7.out.st.size hb8.size); clear hb8 hr8 s8 HM7 HR7 HIA hwl hlen
        go_wp2_with (first
         | (with_reducible show wpList _ _ _ (⟨some 95, _, _, _, _, _⟩ :: _) _ _
            refine wpList_put (K := pqKind) rfl (.tmp 92) (.tmp 94) 123 rfl Try.underlying123 info_pairs rfl w.heap.size (fun b => w.heap.size ≤ b ∧ EOut rb qb D6 (W7.alloc (.cells #[.slice qa (la + 1) ca, .slice qz lb cz] 122 (0, 0))) b) (.slice (some ⟨g, 0, none⟩) nr c8) Wr.reverse [.slice qa (la + 1) ca, .slice qz lb cz] (A2, B2) W7.heap.size 1 _ _ rfl HM8.out.wait rfl HR8.out ?_ (by rw [HWL.out.1]; unfold maxLen; have := HWL.out.2; omega) (by rw [HWL.out.1]; have := HWL.out.2; omega) HSZ.out ?_
            ·exact ⟨_, _, rfl, HIA8.out.1.move (fun b hb _ => ⟨⟨Nat.le_trans HG7.out.2.1 hb.1, hb.2⟩, fun e => HNW.out b hb.1 (by simpa [Value.ownBlock] using e.symm)⟩) (fun _ _ _ => rfl), HIA8.out.2.move (fun b hb _ => ⟨⟨Nat.le_trans HG7.out.2.1 hb.1, hb.2⟩, fun e => HNW.out b hb.1 (by simpa [Value.ownBlock] using e.symm)⟩) (fun _ _ _ => rfl)⟩
            intro v9 w9 hown9 hb9 hg9 hv9
            skip))
        have hm9 := HM8.out.put rfl hown9 hg9 hv9 HAT.out.lvF HAT.out.low
        have hrel : UnRel w0 p rb qb lv L at_ sl R D w f v9 w9 := by
         refine ⟨S2, D6, k1 + 1, (A2, B2) :: Wr, hm9.ex, hm9.st, HPL.out.2.2.1, by rw [List.reverse_cons]; exact hm9.wait, hm9.own, fun q hq => ?_, fun q hq => ?_, HPL.out.2.2.2.1, HPL.out.2.2.2.2.2, ?_, ?_, HAT.out.lvF, HAT.out.low⟩
         ·rcases List.mem_cons.1 hq with rfl | hq
          ·exact ⟨HL2.out.1, HNE.out, HL2.out.2.2.1, HL2.out.2.2.2⟩
          ·exact HF2.out.2.1 q hq
         ·rw [flat_cons] at hq
          rcases List.mem_append.1 hq with hq | hq
          ·exact HPL.out.2.1 q (by rw [← HL2.out.2.1]; exact hq)
          ·exact HPL.out.1 q hq
         ·have := HAT.out.len; have := HF2.out.2.2.2; simp only [List.length_cons] at *; omega
         ·rw [HR3.out, HPL.out.2.2.2.2.1, flat_cons, ← HL2.out.2.1]
        have HREL := Lib.hid hrel; clear hrel hown9 hb9 hg9 hv9 hm9 p0 p1; go_wp2
        go_roundg f
        case measure => omega
        case rel => exact HREL.out
    ·have e2 : ((m : Int) == 0) = false := by simp; omega
     have hne : A ≠ [] := fun e => hm0' (by rw [HN.out.2, e]; rfl)
     have hwok : ∀ q ∈ (A, B) :: Ws, WOk q := fun q hq => by
      rcases List.mem_cons.1 hq with rfl | hq
      ·have h0 := HAT.out.ok _ (List.mem_cons_self ..)
       exact ⟨HAB.out, hne, fun a ha => h0.left a (List.mem_cons_of_mem _ ha), fun b hb => h0.right b (List.mem_cons_of_mem _ hb)⟩
      ·exact HAT.out.ok q (List.mem_cons_of_mem _ hq)
     obtain ⟨Wr, hWr⟩ : ∃ Wr, Wr = (A, B) :: Ws := ⟨_, rfl⟩; have hm2 := HMID.out; rw [← List.reverse_cons, ← hWr] at hm2; have HM := Lib.hid hm2; have HF2 : Hid (flatW (((x : Int) :: A, (y : Int) :: B) :: Ws) = (x, y) :: flatW Wr ∧ (∀ q ∈ Wr, WOk q) ∧ n + 1 = Wr.length ∧ Wr.length ≤ Ws.length + 1) := Lib.hid (by rw [hWr]; exact ⟨flat_top, hwok, by rw [HN.out.1]; rfl, Nat.le_refl _⟩); clear hm2 hwok hnr HMID hne hm0' hWr
     go_upto_region 8 with fail
     clear x0 e2; obtain ⟨nr, hnr⟩ : ∃ nr, nr = n + 1 := ⟨_, rfl⟩; rw [← hnr] at HF2; rw [show ((n : Int) + 1) = (nr : Int) by omega]; rw [← hnr] at HM ⊢; clear hnr; obtain ⟨y0, y1, y2, y3, y11⟩ := row12 HM.out.ex.row
     by_cases hk20 : k1 = 20000
     ·subst hk20
      have hr : R = (none, S1, 0) := by
       rw [HAT.out.eq, HF2.out.1]; exact uniK_zero false S1 _ _
      have HR := Lib.hid hr; clear hr; go_wp2; go_ret2; rw [HR.out]; exact ⟨rfl, D1, HM.out.ex, HM.out.st⟩
     obtain ⟨j, hj⟩ : ∃ j, 20000 - k1 = j + 1 := ⟨20000 - k1 - 1, by omega⟩
     have hr : R = if (oneP S1 false j x y).1.1 = some true then uniK false j (oneP S1 false j x y).1.2.1 ((oneP S1 false j x y).2 ++ flatW Wr) else (oneP S1 false j x y).1 := by
      rw [HAT.out.eq, HF2.out.1, hj, uniK_cons, oneP_k]
     have HR := Lib.hid hr; have HJ := Lib.hid hj; have b2 : ((k1 : Int) == 20000) = false := by simp; omega
     obtain ⟨h5, s5⟩ := HM.out.ex.setWork (k1 + 1); have hfz : W2.frozen? ⟨rb, 11, none⟩ = false := by simp [World.frozen?, HM.out.ex.row]
     have hm5 := HM.out.step h5 s5; rw [show ((k1 + 1 : Nat) : Int) = (k1 : Int) + 1 by omega] at hm5; have HM5 := Lib.hid hm5; clear hr hj h5 s5 hm5 HM hk20
     go_upto_region 11 with fail
     clear y0 y1 y2 y3 y11 hfz; generalize W2.setCell ⟨rb, 11, none⟩ (.int .i64 ((k1 : Int) + 1)) = W3 at *; obtain ⟨hx, hy⟩ := HAT.out.inn (x, y) (by rw [HF2.out.1]; exact List.mem_cons_self ..); have HMORE := Lib.hid (oneP_more HAT.out.inv (sf := false) (k := j) hx hy); have HEXT := Lib.hid (oneP_ext HAT.out.inv (sf := false) (k := j) hx hy); have HNO := Lib.hid (oneP_some S1 false j x y rfl); have HK := Lib.hid (oneP_k S1 j x y); clear hno
     go_wp2_with fail
     refine (ex_pair HM5.out.ex HAT.out.inv j x y hx hy).mono ?_; generalize oneP S1 false j x y = r2 at HR HMORE HEXT HNO HK ⊢; obtain ⟨⟨o, S2, k2⟩, more⟩ := r2; dsimp only at HR HMORE HEXT HNO HK; rintro e6 w6 ⟨va, vb, A2, B2, rfl, hl2, hz2, hA2, hB2, D6, h6, s6, ia, ib⟩; dsimp only at h6 hz2; obtain ⟨qa, ca, rfl⟩ := ia.form; obtain ⟨qz, cz, rfl⟩ := ib.form; have hm6 := HM5.out.step h6 s6; have hb7 := below_new w6 (.cells #[.slice qa A2.length ca, .slice qz B2.length cz] 122 (0, 0)); have hr7 := heap_alloc_new w6 (.cells #[.slice qa A2.length ca, .slice qz B2.length cz] 122 (0, 0)); obtain ⟨-, s7, f7⟩ := hm6.ex.below hb7; have HM7 := Lib.hid (hm6.below hb7); have HR7 := Lib.hid hr7; have HG7 := Lib.hid (And.intro (f7 w6.heap.size (Nat.le_refl _) (by simp)) (And.intro HM5.out.st.size (HM5.out.wait.low g rfl).2)); have HIA := Lib.hid (And.intro (ia.estep s7) (ib.estep s7)); have HL2 := Lib.hid (And.intro hl2 (And.intro hz2 (And.intro hA2 hB2))); have hnw : ∀ b, W3.heap.size ≤ b → b ≠ g := fun b hb e => by have := HG7.out.2.2; omega
     have HNW := Lib.hid hnw; clear hl2 hz2 hA2 hB2 h6 s6 ia ib hm6 hb7 hr7 s7 f7 HM5 hnw; cases o with
     | none => exact absurd rfl HNO.out
     | some o =>
     cases o with
     | false =>
       have hr := HR.out; rw [if_neg (by simp)] at hr; have HR3 := Lib.hid hr; clear hr HR; simp only [hasB]; go_wp2; go_ret2; rw [HR3.out]; have e := HK.out; subst e; exact ⟨rfl, D6, by rw [show 20000 - k2 = k1 + 1 by have := HJ.out; omega]; exact HM7.out.ex, HM7.out.st⟩
     | true =>
       have hr := HR.out; rw [if_pos rfl] at hr; have e := HK.out; subst e; have HR3 := Lib.hid hr; clear hr HR HK; simp only [hasB]
       go_upto_region 14 with fail
       generalize w6.alloc (.cells #[.slice qa A2.length ca, .slice qz B2.length cz] 122 (0, 0)) = W7 at *; generalize w6.heap.size = g7 at *; have p0 : W7.cell? ⟨g7, 0, none⟩ = some (.slice qa A2.length ca) := cell_of_row _ _ 0 _ _ _ HR7.out; have p1 : W7.cell? ⟨g7, 1, none⟩ = some (.slice qz B2.length cz) := cell_of_row _ _ 1 _ _ _ HR7.out; have hlen := HAT.out.len; have hext := HEXT.out
       have hinn : InL S2 (flatW Wr) := fun q hq => by
        have h0 := HAT.out.inn q (by rw [HF2.out.1]; exact List.mem_cons_of_mem _ hq); have := hext.len; omega
       have hmr : ∀ q ∈ more, q.1 < S2.cells.length ∧ q.2 < S2.cells.length := fun q hq => by
        have h0 := HMORE.out q hq; have := hext.len; omega
       obtain ⟨f, hf⟩ : ∃ f, gk = f + 1 := ⟨gk - 1, by have := HAT.out.fuel; have := HJ.out; omega⟩; subst hf; have hfu := HAT.out.fuel; have HPL := Lib.hid (And.intro hinn (And.intro hmr (And.intro hext.inv (And.intro (show k1 + 1 ≤ 20000 by have := HJ.out; omega) (show 20000 - (k1 + 1) = k2 ∧ 20000 - (k1 + 1) ≤ f by have := HJ.out; omega))))); clear hext hinn hmr hfu
       by_cases ha2 : A2 = []
       ·subst ha2
        have hrel : UnRel w0 p rb qb lv L at_ sl R D w f (.slice (some ⟨g, 0, none⟩) nr c8) W7 := by
         refine ⟨S2, D6, k1 + 1, Wr, HM7.out.ex, HM7.out.st, HPL.out.2.2.1, HM7.out.wait, HM7.out.own, HF2.out.2.1, HPL.out.1, HPL.out.2.2.2.1, HPL.out.2.2.2.2.2, ?_, ?_, HAT.out.lvF, HAT.out.low⟩
         ·have := HF2.out.2.2.2; simp only [List.length_cons] at hlen; omega
         ·rw [HR3.out, HPL.out.2.2.2.2.1]
          congr 1
          have := HL2.out.2.1; rw [← this]
          simp
        have HREL := Lib.hid hrel; have e3 : decide ((0 : Int) < ((0 : Nat) : Int)) = false := rfl; clear hrel hlen p1 HM7 HR7 HG7 HIA; simp only [List.length_nil] at p0; go_wp2
        go_roundg f
        case measure => omega
        case rel => exact HREL.out
       ·obtain ⟨la, hla⟩ : ∃ la, la + 1 = A2.length := ⟨A2.length - 1, by have : 0 < A2.length := List.length_pos_iff.2 ha2; omega⟩
        have e3 : decide ((0 : Int) < (la : Int) + 1) = true := by simp
        obtain ⟨lb, hlb⟩ : ∃ lb, lb = B2.length := ⟨_, rfl⟩; rw [← hla] at p0 HR7 HIA; rw [← hlb] at p1 HR7 HIA; have HLA := Lib.hid (And.intro hla hlb); have HNE := Lib.hid ha2; clear hla hlb ha2
        go_upto_region 15 with fail
        have hb8 := below_new W7 (.cells #[.slice qa (la + 1) ca, .slice qz lb cz] 122 (0, 0)); have hr8 := heap_alloc_new W7 (.cells #[.slice qa (la + 1) ca, .slice qz lb cz] 122 (0, 0)); obtain ⟨-, s8, -⟩ := HM7.out.ex.below hb8; have HM8 := Lib.hid (HM7.out.below hb8); have HR8 := Lib.hid hr8; have HIA8 := Lib.hid (And.intro (HIA.out.1.estep s8) (HIA.out.2.estep s8)); have hwl : Wr.reverse.length = nr := by rw [List.length_reverse]; exact HF2.out.2.2.1.symm
        have HWL := Lib.hid (And.intro hwl (show nr ≤ 20001 by have := HF2.out.2.2.1; have := HF2.out.2.2.2; simp only [List.length_cons] at hlen; omega)); have HSZ := Lib.hid (show w.heap.size ≤ (W7.alloc (.cells #[.slice qa (la + 1) ca, .slice qz lb cz] 122 (0, 0))).heap.size from Nat.le_trans HM7.out.st.size hb8.size); clear hb8 hr8 s8 HM7 HR7 HIA hwl hlen
        go_wp2_with (first
         | (with_reducible show wpList _ _ _ (⟨some 95, _, _, _, _, _⟩ :: _) _ _
            refine wpList_put (K := pqKind) rfl (.tmp 92) (.tmp 94) 123 rfl Try.underlying123 info_pairs rfl w.heap.size (fun b => w.heap.size ≤ b ∧ EOut rb qb D6 (W7.alloc (.cells #[.slice qa (la + 1) ca, .slice qz lb cz] 122 (0, 0))) b) (.slice (some ⟨g, 0, none⟩) nr c8) Wr.reverse [.slice qa (la + 1) ca, .slice qz lb cz] (A2, B2) W7.heap.size 1 _ _ rfl HM8.out.wait rfl HR8.out ?_ (by rw [HWL.out.1]; unfold maxLen; have := HWL.out.2; omega) (by rw [HWL.out.1]; have := HWL.out.2; omega) HSZ.out ?_
            ·exact ⟨_, _, rfl, HIA8.out.1.move (fun b hb _ => ⟨⟨Nat.le_trans HG7.out.2.1 hb.1, hb.2⟩, fun e => HNW.out b hb.1 (by simpa [Value.ownBlock] using e.symm)⟩) (fun _ _ _ => rfl), HIA8.out.2.move (fun b hb _ => ⟨⟨Nat.le_trans HG7.out.2.1 hb.1, hb.2⟩, fun e => HNW.out b hb.1 (by simpa [Value.ownBlock] using e.symm)⟩) (fun _ _ _ => rfl)⟩
            intro v9 w9 hown9 hb9 hg9 hv9
            skip))
        have hm9 := HM8.out.put rfl hown9 hg9 hv9 HAT.out.lvF HAT.out.low
        have hrel : UnRel w0 p rb qb lv L at_ sl R D w f v9 w9 := by
         refine ⟨S2, D6, k1 + 1, (A2, B2) :: Wr, hm9.ex, hm9.st, HPL.out.2.2.1, by rw [List.reverse_cons]; exact hm9.wait, hm9.own, fun q hq => ?_, fun q hq => ?_, HPL.out.2.2.2.1, HPL.out.2.2.2.2.2, ?_, ?_, HAT.out.lvF, HAT.out.low⟩
         ·rcases List.mem_cons.1 hq with rfl | hq
          ·exact ⟨HL2.out.1, HNE.out, HL2.out.2.2.1, HL2.out.2.2.2⟩
          ·exact HF2.out.2.1 q hq
         ·rw [flat_cons] at hq
          rcases List.mem_append.1 hq with hq | hq
          ·exact HPL.out.2.1 q (by rw [← HL2.out.2.1]; exact hq)
          ·exact HPL.out.1 q hq
         ·have := HAT.out.len; have := HF2.out.2.2.2; simp only [List.length_cons] at *; omega
         ·rw [HR3.out, HPL.out.2.2.2.2.1, flat_cons, ← HL2.out.2.1]
        have HREL := Lib.hid hrel; clear hrel hown9 hb9 hg9 hv9 hm9 p0 p1; go_wp2
        go_roundg f
        case measure => omega
        case rel => exact HREL.out
end Go.Proofs.Ytcbijikalfodnaa.Tms
namespace Go.Proofs.Ytcbijikalfodnaa.Tms
open Go Go.RowKit Go.Proofs.Ytcbijikalfodnaa.Reg Go.Proofs.Ytcbijikalfodnaa.Rws Go.Proofs.Ytcbijikalfodnaa.Maps
def areB (S : Sto) (l : List Int) (none_ : Bool) : Bool := l.all fun c => (none_ && c == -1) || (decide (0 ≤ c) && decide (c < (S.cells.length : Int)))
def ArRel (S : Sto) (l : List Int) (nn : Bool) (w : World) (v : Value) (wr : World) : Prop := ∃ i : Nat, i ≤ l.length ∧ v = .int .i64 i ∧ areB S (l.take i) nn = true ∧ w = wr
theorem are_snoc (S : Sto) (l : List Int) (nn : Bool) (i : Nat) (h : i < l.length) : areB S (l.take (i + 1)) nn = (areB S (l.take i) nn && ((nn && l[i] == -1) || (decide (0 ≤ l[i]) && decide (l[i] < (S.cells.length : Int))))) := by
 unfold areB; rw [List.take_succ_eq_append_getElem h, List.all_append]
 simp
theorem are_bad (S : Sto) (l : List Int) (nn : Bool) (i : Nat) (h : i < l.length) (hb : ((nn && l[i] == -1) || (decide (0 ≤ l[i]) && decide (l[i] < (S.cells.length : Int)))) = false) : areB S l nn = false := by
 unfold areB; rw [List.all_eq_false]; exact ⟨l[i], List.getElem_mem h, by rw [hb]; simp⟩
theorem ex_are {S : Sto} {D : Nat → Prop} {p : Nat} (w : World) (hS : StoAt w D p S) (hlen : S.cells.length ≤ 20000000) (l : List Int) (v : Value) (P : Nat → Prop) (hl : IntSl w P v l) (hll : l.length ≤ 1000000) (nn : Bool) :
 Calls Try.prog 26 #[.pointer (some ⟨p, 0, none⟩), v, .bool nn] w fun e w' => e = .returned (.bool (areB S l nn)) ∧ w = w' := by
 obtain ⟨a, cap, rfl, h1, h2, h3⟩ := hl; have H3 := Lib.hid h3; clear h3
 go_enter Try.func26, Try.ntmps26
 go_wp2_with fail
 refine (sto_Cells w hS).mono ?_; rintro e w2 ⟨rfl, rfl⟩; go_wp2
 go_loopw [14] (fun v14 wr => ArRel S l nn w v14 wr) (fun v14 _ => l.length - (intOf v14).toNat)
 case atStart => exact ⟨0, by omega, rfl, rfl, rfl⟩
 case round =>
  obtain ⟨i, hi, rfl, hall, rfl⟩ := hrel; have HA := Lib.hid hall; clear hall
  by_cases hin : i < l.length
  ·have b1 : decide ((i : Int) < (l.length : Int)) = true := by simp; omega
   have b2 : decide (i < l.length) = true := by simpa using hin
   obtain ⟨b, off, ea, -, hbl, hc⟩ := H3.out i hin; subst ea; obtain ⟨c, hcv⟩ : ∃ c, c = l[i] := ⟨_, rfl⟩; rw [← hcv] at hc; have HCV := Lib.hid hcv; clear hcv; have HSN := Lib.hid (are_snoc S l nn i hin); have HBD := Lib.hid (are_bad S l nn i hin); rw [← HCV.out] at HSN HBD
   by_cases hm : nn = true ∧ c = -1
   ·have c1 : (c == -1) = true := by rw [hm.2]; rfl
    have hnn := hm.1; have HN := Lib.hid (show areB S (l.take (i + 1)) nn = true by rw [HSN.out, HA.out, hm.1, hm.2]; rfl); clear hm; subst hnn; go_wp2; go_roundw
    case measure => simp [intOf]; omega
    case rel => exact ⟨i + 1, by omega, rfl, HN.out, rfl⟩
   ·have hnn : (nn && c == -1) = false := by
     cases nn
     ·rfl
     ·have : c ≠ -1 := fun e => hm ⟨rfl, e⟩
      simpa using this
    have HNN := Lib.hid hnn; have hcn : nn = true → (c == -1) = false := fun e => by rw [e] at hnn; simpa using hnn
    clear hm
    by_cases hr : 0 ≤ c ∧ c < (S.cells.length : Int)
    ·have HN := Lib.hid (show areB S (l.take (i + 1)) nn = true by rw [HSN.out, HA.out, HNN.out, decide_eq_true hr.1, decide_eq_true hr.2]; rfl)
     have c2 : decide (c < 0) = false := by simp; omega
     have c3 : decide ((S.cells.length : Int) ≤ c) = false := by simp; omega
     clear hr; cases nn
     ·clear hnn hcn
      go_wp2; go_roundw
      case measure => simp [intOf]; omega
      case rel => exact ⟨i + 1, by omega, rfl, HN.out, rfl⟩
     ·have c1 := hcn rfl
      clear hnn hcn; go_wp2; go_roundw
      case measure => simp [intOf]; omega
      case rel => exact ⟨i + 1, by omega, rfl, HN.out, rfl⟩
    ·have HB := Lib.hid (show areB S l nn = false from HBD.out (by
      rw [HNN.out]
      by_cases h0 : 0 ≤ c
      ·rw [decide_eq_true h0, decide_eq_false (fun h => hr ⟨h0, h⟩)]; rfl
      ·rw [decide_eq_false h0]; rfl))
     by_cases h0 : c < 0
     ·have c2 : decide (c < 0) = true := by simpa using h0
      clear hr h0; cases nn
      ·clear hnn hcn
       go_wp2; go_ret; exact ⟨by rw [HB.out]; rfl, rfl⟩
      ·have c1 := hcn rfl
       clear hnn hcn; go_wp2; go_ret; exact ⟨by rw [HB.out]; rfl, rfl⟩
     ·have c2 : decide (c < 0) = false := by simpa using h0
      have c3 : decide ((S.cells.length : Int) ≤ c) = true := by simp; omega
      clear hr h0; cases nn
      ·clear hnn hcn
       go_wp2; go_ret; exact ⟨by rw [HB.out]; rfl, rfl⟩
      ·have c1 := hcn rfl
       clear hnn hcn; go_wp2; go_ret; exact ⟨by rw [HB.out]; rfl, rfl⟩
  ·have b1 : decide ((i : Int) < (l.length : Int)) = false := by simp; omega
   have b2 : decide (i < l.length) = false := by simpa using hin
   obtain rfl : i = l.length := by omega
   rw [List.take_length] at HA; go_wp2; go_ret; exact ⟨by rw [HA.out]; rfl, rfl⟩
end Go.Proofs.Ytcbijikalfodnaa.Tms
namespace Go.Proofs.Ytcbijikalfodnaa.Tms
open Go Go.RowKit Go.Proofs.Ytcbijikalfodnaa.Reg Go.Proofs.Ytcbijikalfodnaa.Rws Go.Proofs.Ytcbijikalfodnaa.Maps
open Go.Proofs.Ytcbijikalfodnaa.Cod (Ins Cod sk check slotsN InsSl InsAt codVal)
def StartPost (p : Nat) (v : Value) (n : Nat) (w : World) (e : Ending) (w' : World) : Prop := ∃ rb qb, e = .returned (.pointer (some ⟨rb, 0, none⟩)) ∧ w'.heap[rb]? = some (exO p v 0 (.slice (some ⟨qb, 0, none⟩) n n) 0) ∧ IFill w' qb n (List.replicate n (-1)) ∧ Below w.heap.size w w' ∧ w.heap.size ≤ rb ∧ w.heap.size ≤ qb ∧ qb ≠ rb
abbrev exZ (p : Nat) (lv : Value) (sv : Value) : Obj := .cells #[.pointer (some ⟨p, 0, none⟩), lv, .int .i64 0, sv, .nilFunc, .nilFunc, .nilFunc, .nilFunc, .nilFunc, .nilFunc, .nilFunc, .int .i64 0] 88 (0, 0)
def StRel (p : Nat) (lv : Value) (rb qb n : Nat) (w : World) (v : Value) (wr : World) : Prop := ∃ i : Nat, i ≤ n ∧ v = .int .i64 i ∧ IFill wr qb n (List.replicate i (-1)) ∧ wr.heap[rb]? = some (exZ p lv (.slice (some ⟨qb, 0, none⟩) n n)) ∧ Below w.heap.size w wr
theorem row_ex {w : World} {g : Nat} {p : Nat} {lv sv : Value} (h : w.heap[g]? = some (exZ p lv sv)) : w.cell? ⟨g, 3, none⟩ = some sv := cell_of_row w g 3 _ _ _ h
abbrev stepsL : List Value := [.nilFunc, .func (.func 53) #[] #[], .func (.func 54) #[] #[], .func (.func 54) #[] #[], .func (.func 55) #[] #[], .func (.func 56) #[] #[], .func (.func 57) #[] #[]]
theorem seven_cells (w : World) (g o : Nat) (x0 x1 x2 x3 x4 x5 x6 : Value) : w.setCells g o [x0, x1, x2, x3, x4, x5, x6] = ((((((w.setCell ⟨g, o, none⟩ x0).setCell ⟨g, o + 1, none⟩ x1).setCell ⟨g, o + 2, none⟩ x2).setCell ⟨g, o + 3, none⟩ x3).setCell ⟨g, o + 4, none⟩ x4).setCell ⟨g, o + 5, none⟩ x5).setCell ⟨g, o + 6, none⟩ x6 := by
 simp [World.setCells]
theorem seven_row {w : World} {g : Nat} {t : TypeId} {x0 x1 x2 x3 x4 x5 x6 x7 x8 x9 xa xb : Value} (h : w.heap[g]? = some (.cells #[x0, x1, x2, x3, x4, x5, x6, x7, x8, x9, xa, xb] t (0, 0))) (y4 y5 y6 y7 y8 y9 ya : Value) : w.there g 4 7 ∧ (w.setCells g 4 [y4, y5, y6, y7, y8, y9, ya]).heap[g]? = some (.cells #[x0, x1, x2, x3, y4, y5, y6, y7, y8, y9, ya, xb] t (0, 0)) := by
 constructor
 ·intro j hj
  refine ⟨?_, frozen_of_row w g _ _ _ h⟩; rw [cell_of_row w g _ _ _ _ h, Option.isSome_iff_ne_none]
  simp
  omega
 ·rw [seven_cells]
  have e1 := heap_setCell_same w g 4 _ _ y4 h; have e2 := heap_setCell_same _ g 5 _ _ y5 e1; have e3 := heap_setCell_same _ g 6 _ _ y6 e2; have e4 := heap_setCell_same _ g 7 _ _ y7 e3; have e5 := heap_setCell_same _ g 8 _ _ y8 e4; have e6 := heap_setCell_same _ g 9 _ _ y9 e5; have e7 := heap_setCell_same _ g 10 _ _ ya e6
  simpa using e7
theorem seven_other (w : World) (g : Nat) (y4 y5 y6 y7 y8 y9 ya : Value) {b : Nat} (hb : b ≠ g) : (w.setCells g 4 [y4, y5, y6, y7, y8, y9, ya]).heap[b]? = w.heap[b]? := by
 rw [seven_cells]; exact (Below.heap_setCell _ _ _ _ hb).trans ((Below.heap_setCell _ _ _ _ hb).trans ((Below.heap_setCell _ _ _ _ hb).trans ((Below.heap_setCell _ _ _ _ hb).trans ((Below.heap_setCell _ _ _ _ hb).trans ((Below.heap_setCell _ _ _ _ hb).trans (Below.heap_setCell _ _ _ _ hb))))))
theorem seven_below {w0 w : World} {n g : Nat} (h : Below n w0 w) (hg : n ≤ g) (y4 y5 y6 y7 y8 y9 ya : Value) : Below n w0 (w.setCells g 4 [y4, y5, y6, y7, y8, y9, ya]) := by
 rw [seven_cells]; exact ((((((h.setCell hg _).setCell hg _).setCell hg _).setCell hg _).setCell hg _).setCell hg _).setCell hg _
theorem steps_row {w : World} {p rb : Nat} {lv sv : Value} (h : w.heap[rb]? = some (exZ p lv sv)) : w.there rb 4 7 ∧ (w.setCells rb 4 stepsL).heap[rb]? = some (exO p lv 0 sv 0) := seven_row h _ _ _ _ _ _ _
theorem steps_one : stepsL.toArray.all (·.oneCell') = true := by
 apply all_oneCell_toArray
 intro v hv; simp only [stepsL, List.mem_cons, List.not_mem_nil, or_false] at hv; rcases hv with rfl | rfl | rfl | rfl | rfl | rfl | rfl <;> rfl
theorem size_steps : (Try.prog.info? 86).map (·.size) = some 7 := by kernel_rfl
theorem ex_start (p : Nat) (c : Cod) (v : Value) (w : World) (n : Nat) (hn : c.slots = (n : Int)) (hn2 : n ≤ 1000000) (hvs : ∃ a m k, v = .slice a m k) : Calls Try.prog 27 #[.pointer (some ⟨p, 0, none⟩), codVal c v] w (StartPost p v n w) := by
 obtain ⟨va, vm, vk, rfl⟩ := hvs; obtain ⟨i0, hti, hy0, hy1, hy2⟩ := info_parts info_int; have hal := (Below.refl w.heap.size w).alloc (Nat.le_refl _) (.cells #[.string c.name, .int .i64 c.args, .int .i64 c.slots, .int .i64 c.body, .slice va vm vk] 30 (0, 0)); have hr := heap_alloc_new w (.cells #[.string c.name, .int .i64 c.args, .int .i64 c.slots, .int .i64 c.body, .slice va vm vk] 30 (0, 0)); have HB := Lib.hid hal; have HR := Lib.hid hr; have HN := Lib.hid hn; clear hal hr hn
 go_enter Try.func27, Try.ntmps27
 go_upto_region 1 with fail
 generalize w.alloc (.cells #[.string c.name, .int .i64 c.args, .int .i64 c.slots, .int .i64 c.body, .slice va vm vk] 30 (0, 0)) = W1 at *; refine wp_region_rest (by kernel_rfl) ?_; have hd := (Below.refl W1.heap.size W1).drew; have HB0 := Lib.hid (HB.out.trans (hd.mono HB.out.size)); obtain ⟨c0, c1, c2, c3, c4⟩ := row5 (row_on HR.out hd); have hlt := (Array.getElem?_eq_some_iff.1 (row_on HR.out hd)).1; rw [HN.out] at c2; clear hd HB HR; generalize W1.drew = W0 at *; refine rest_chainP (fun u => Below W0.heap.size W0 u) 0 9 (.soft 0 (.soft 1 (.soft 2 (.soft 3 (.soft 4 (.one 5 (.soft 6 (.one 7 (.soft 8 .nil))))))))) (.soft _ (.soft _ (.soft _ (.soft _ (.soft _ (.one _ (.soft _ (.one _ (.soft _ .nil))))))))) ⟨rfl, ⟨rfl, ⟨rfl, ⟨rfl, ⟨rfl, ⟨rfl, ⟨rfl, ⟨rfl, ⟨rfl, trivial⟩⟩⟩⟩⟩⟩⟩⟩⟩ (by kernel_rfl) (by kernel_rfl) (by kernel_rfl) (by kernel_rfl) (.inl rfl) (Below.refl _ _) ?_; refine cS (a1 := ?ma1) ?mh1 ?mr1
 case mh1 =>
  intro u hu E hE; go_wp2; rfl
 refine cS (a1 := ?ma2) ?mh2 ?mr2
 case mh2 =>
  intro u hu E hE; go_wp2; rfl
 refine cS (a1 := ?ma3) ?mh3 ?mr3
 case mh3 =>
  intro u hu E hE; have e4 := (hu.cell (p := ⟨w.heap.size, 4, none⟩) hlt).trans c4; go_wp2; rfl
 refine cS (a1 := ?ma4) ?mh4 ?mr4
 case mh4 =>
  intro u hu E hE; go_wp2; rfl
 refine cS (a1 := ?ma5) ?mh5 ?mr5
 case mh5 =>
  intro u hu E hE; have e2 := (hu.cell (p := ⟨w.heap.size, 2, none⟩) hlt).trans c2; go_wp2; rfl
 refine chainP_one ?_; intro E hE; refine wpList_make_full _ rfl (.tmp 11) (.tmp 11) 38 rfl W0.heap.size 3 i0 _ 1 Try.underlying38 hti hy0 hy1 .i64 .i64 _ _ n rfl rfl rfl rfl (by rw [hy2]; omega) (by unfold maxLen; omega) (Nat.le_refl _) ?_; intro w3 hown hgr; have hif := IFill.made hown; have hb3 : Below W0.heap.size W0 w3 := (Below.refl _ _).grown hgr (Nat.le_refl _) (by simp); refine hE _ _ ⟨hb3, ?_⟩; clear c0 c1 c2 c3 c4 hown hgr hti hy0 hy1 hy2; refine cS (a1 := ?ma6) ?mh6 ?mr6
 case mh6 =>
  intro u hu E hE; go_wp2; rfl
 refine chainP_one ?_; intro E hE; go_wp2; have ha3 := (Below.refl w3.heap.size w3).alloc (Nat.le_refl _) (exZ p (.slice va vm vk) (.slice (some ⟨W0.heap.size, 0, none⟩) n n)); have hr3 := heap_alloc_new w3 (exZ p (.slice va vm vk) (.slice (some ⟨W0.heap.size, 0, none⟩) n n)); have hb4 := hb3.trans (ha3.mono hb3.size); have hqr : W0.heap.size ≠ w3.heap.size := by have := hif.lt; omega
 refine ⟨hb4, ?_⟩; refine cS (a1 := ?ma7) ?mh7 ?mr7
 case mh7 =>
  intro u hu E hE; go_wp2; rfl
 refine chainP_nil (rest_end (by decide) ?_); have hst : StRel p (.slice va vm vk) w3.heap.size W0.heap.size n w (.int .i64 ((0 : Nat) : Int)) (w3.alloc (exZ p (.slice va vm vk) (.slice (some ⟨W0.heap.size, 0, none⟩) n n))) := ⟨0, by omega, rfl, hif.keep (ha3.block _ hif.lt), hr3, HB0.out.trans (hb4.mono HB0.out.size)⟩; have HST := Lib.hid hst; have HQ := Lib.hid (And.intro hqr (And.intro HB0.out.size (Nat.le_trans HB0.out.size hb3.size))); have x3 := row_ex hr3; clear hst hqr hb4 ha3 hr3 hif hb3 HB0 hlt; go_wp2; clear x3; generalize w3.alloc (exZ p (.slice va vm vk) (.slice (some ⟨W0.heap.size, 0, none⟩) n n)) = W4 at *; generalize w3.heap.size = rb at *; generalize W0.heap.size = qb at *
 go_loopw [20] (fun v20 wr => StRel p (.slice va vm vk) rb qb n w v20 wr) (fun v20 _ => n - (intOf v20).toNat)
 case atStart => exact HST.out
 case round =>
  clear HST; obtain ⟨i, hi, rfl, hfi, hrow, hbw⟩ := hrel; have HR := Lib.hid hrow; have HF := Lib.hid hfi; have HB := Lib.hid hbw; have x3 := row_ex hrow; clear hrow hbw hfi
  by_cases hin : i < n
  ·have b1 : decide ((i : Int) < (n : Int)) = true := by simp; omega
   have b2 : decide (i < n) = true := by simpa using hin
   obtain ⟨⟨y, hy⟩, hfz, hp, hk⟩ := HF.out.put (q := i) (by simp) hin (-1); have hcm : n ≤ maxLen := by unfold maxLen; omega
   have HRL := Lib.hid (show StRel p (.slice va vm vk) rb qb n w (.int .i64 ((i + 1 : Nat) : Int)) (wr.setCell ⟨qb, i, none⟩ (.int .i64 (-1))) from
    ⟨i + 1, by omega, rfl, by rw [List.replicate_succ']; exact hp, (Below.heap_setCell _ _ _ _ (fun e => HQ.out.1 e.symm)).trans HR.out, HB.out.setCell HQ.out.2.1 _⟩)
   clear hp hk; go_wp2; go_roundw
   case measure => simp [intOf]; omega
   case rel => exact HRL.out
  ·have b1 : decide ((i : Int) < (n : Int)) = false := by simp; omega
   have b2 : decide (i < n) = false := by simpa using hin
   obtain rfl : i = n := by omega
   obtain ⟨hth, hrn⟩ := steps_row HR.out; have HTH := Lib.hid hth
   have HSP := Lib.hid (show StartPost p (.slice va vm vk) i w (.returned (.pointer (some ⟨rb, 0, none⟩))) (wr.setCells rb 4 stepsL) from
    ⟨rb, qb, rfl, hrn, HF.out.keep (seven_other wr rb _ _ _ _ _ _ _ HQ.out.1), seven_below HB.out HQ.out.2.2 _ _ _ _ _ _ _, HQ.out.2.2, HQ.out.2.1, HQ.out.1⟩)
   clear hth hrn HR HF
   go_wp2_with (with_reducible show wpList _ _ _ (⟨none, .store _ (.tmp 33) _, _, _, _, _⟩ :: _) _ _
                refine wpList_store_mid rfl 86 (.tmp 33) (.tmp 31) rfl rb 4 stepsL.toArray rfl rfl HTH.out size_steps steps_one ?_)
   exact bodyPost_ret (v := .pointer (some ⟨rb, 0, none⟩)) (by simp [results, Try.results27, go_sem]) rfl HSP.out
end Go.Proofs.Ytcbijikalfodnaa.Tms
namespace Go.Proofs.Ytcbijikalfodnaa.Tms
open Go Go.RowKit Go.Proofs.Ytcbijikalfodnaa.Reg Go.Proofs.Ytcbijikalfodnaa.Rws Go.Proofs.Ytcbijikalfodnaa.Maps
open Go.Proofs.Ytcbijikalfodnaa.Cod (Ins Cod sk check slotsN InsSl InsAt codVal go_check)
theorem slots_in : ∀ (l : List Ins) (m s : Nat), slotsN l m = some s → m ≤ s ∧ ∀ i ∈ l, i.op = 2 ∨ i.op = 3 → 0 ≤ i.a ∧ i.a < s
 | [], m, s, h => by
   simp only [slotsN, Option.some.injEq] at h; exact ⟨by omega, fun i hi => by cases hi⟩
 | i :: l, m, s, h => by
   unfold slotsN at h
   by_cases h2 : i.op = 2
   ·rw [if_pos h2] at h
    by_cases ha : i.a = m
    ·rw [if_pos ha] at h
     obtain ⟨g1, g2⟩ := slots_in l (m + 1) s h; refine ⟨by omega, fun x hx ho => ?_⟩; rcases List.mem_cons.1 hx with rfl | hx
     ·omega
     ·exact g2 x hx ho
    ·rw [if_neg ha] at h; cases h
   ·rw [if_neg h2] at h
    by_cases h3 : i.op = 3 ∧ (i.a < 0 ∨ (m : Int) ≤ i.a)
    ·rw [if_pos h3] at h; cases h
    ·rw [if_neg h3] at h
     obtain ⟨g1, g2⟩ := slots_in l m s h; refine ⟨g1, fun x hx ho => ?_⟩; rcases List.mem_cons.1 hx with rfl | hx
     ·rcases ho with ho | ho
      ·exact absurd ho h2
      ·have : ¬ (x.a < 0 ∨ (m : Int) ≤ x.a) := fun e => h3 ⟨ho, e⟩
       omega
     ·exact g2 x hx ho
structure MtR where
 ok : Bool
 err : Int
 S : Sto
 sl : List Int
noncomputable def matX (f : Nat → Sto → List Int → PtR) : List Int → Nat → Sto → List Int → Nat → MtR
 | [], _, S, sl, _ => ⟨true, 0, S, sl⟩
 | x :: xs, a, S, sl, k =>
   if (f a S sl).err ≠ 0 then ⟨false, (f a S sl).err, (f a S sl).S, (f a S sl).sl⟩ else
   if (uniK false k (f a S sl).S [((f a S sl).cell.toNat, x.toNat)]).1 = some true then
    matX f xs (f a S sl).at_ (uniK false k (f a S sl).S [((f a S sl).cell.toNat, x.toNat)]).2.1 (f a S sl).sl (uniK false k (f a S sl).S [((f a S sl).cell.toNat, x.toNat)]).2.2
   else ⟨false, hasE (uniK false k (f a S sl).S [((f a S sl).cell.toNat, x.toNat)]).1, (uniK false k (f a S sl).S [((f a S sl).cell.toNat, x.toNat)]).2.1, (f a S sl).sl⟩
structure MtAt (w0 : World) (p rb qb sn : Nat) (lv : Value) (L : List Ins) (args : List Int) (R : MtR) (D : Nat → Prop) (w : World) (i a j k : Nat) (S : Sto) (sl : List Int) (D' : Nat → Prop) (wr : World) : Prop where
 ex : ExAt w0 p rb qb S D' lv L a sl (20000 - k) wr
 st : EStep rb qb D w D' wr
 inv : Inv S
 slots : SlOk S sl
 len : sl.length = sn
 inn : ∀ x ∈ args, 0 ≤ x ∧ x < S.cells.length
 pats : sk (L.drop a) (args.length - i) = some j
 jn : j ≤ L.length
 kle : k ≤ 20000
 eq : R = matX (patX L L.length) (args.drop i) a S sl k
def MtRel (w0 : World) (p rb qb sn : Nat) (lv : Value) (L : List Ins) (args : List Int) (R : MtR) (D : Nat → Prop) (w : World) (vi : Value) (wr : World) : Prop := ∃ i a j k S sl D', vi = .int .i64 (i : Nat) ∧ i ≤ args.length ∧ MtAt w0 p rb qb sn lv L args R D w i a j k S sl D' wr
def MtPost (w0 : World) (p : Nat) (R : MtR) (mark : Nat) (D : Nat → Prop) (w : World) (e : Ending) (w' : World) : Prop :=
 ∃ v D', e = .returned (.tuple #[v, .bool R.ok, .int .i64 R.err]) ∧ Law8 w0 p (if R.ok = true then R.S else undoS R.S mark) D' w' ∧ Step D w D' w' ∧ IntSl w' (Free D' w') v (if R.ok = true then R.sl else [])
theorem EStep.step {rb qb : Nat} {D D' : Nat → Prop} {w w1 w' : World} (h : EStep rb qb D w1 D' w') (hb : Below w.heap.size w w1) (hr : w.heap.size ≤ rb) (hq : w.heap.size ≤ qb) : Step D w D' w' :=
 ⟨Nat.le_trans hb.size h.size, fun b hb' => by
   have hs := hb.size; have ho : EOut rb qb D w1 b := ⟨hb'.1, fun e => by have := hb'.2; omega, fun e => by have := hb'.2; omega, Nat.lt_of_lt_of_le hb'.2 hs⟩; obtain ⟨g1, g2⟩ := h.blk b ho; exact ⟨⟨g1.1, g1.2.2.2⟩, g2.trans (hb.block b hb'.2)⟩⟩
theorem matX_cons {f : Nat → Sto → List Int → PtR} {x : Int} {xs : List Int} {a : Nat} {S : Sto} {sl : List Int} {k : Nat} {r : PtR} (hr : f a S sl = r) : matX f (x :: xs) a S sl k = if r.err ≠ 0 then ⟨false, r.err, r.S, r.sl⟩ else
 if (uniK false k r.S [(r.cell.toNat, x.toNat)]).1 = some true then matX f xs r.at_ (uniK false k r.S [(r.cell.toNat, x.toNat)]).2.1 r.sl (uniK false k r.S [(r.cell.toNat, x.toNat)]).2.2
 else ⟨false, hasE (uniK false k r.S [(r.cell.toNat, x.toNat)]).1, (uniK false k r.S [(r.cell.toNat, x.toNat)]).2.1, r.sl⟩ := by
 subst hr; rfl
theorem hasB_notE {r : Option Bool} (h : hasB r = false) : r ≠ some true := fun e => by rw [e] at h; simp [hasB] at h
theorem hasB_yesE {r : Option Bool} (h : hasB r = true) : r = some true := by simpa [hasB] using h
theorem Law8.law_low {w0 w : World} {p : Nat} {S : Sto} {D : Nat → Prop} (h : Law8 w0 p S D w) : w0.heap.size ≤ w.heap.size := h.bel.size
theorem ex_slots {w0 w : World} {p rb qb at_ k : Nat} {S : Sto} {D : Nat → Prop} {lv : Value} {L : List Ins} {sl : List Int} (h : ExAt w0 p rb qb S D lv L at_ sl k w) (hl : sl.length ≤ 1000000) : IntSl w (Free D w) (.slice (some ⟨qb, 0, none⟩) sl.length sl.length) sl :=
 ⟨_, _, rfl, Nat.le_refl _, by unfold maxLen; omega, fun i hi => ⟨qb, 0, rfl, ⟨h.qF.1, h.qlt⟩, h.qlt, by rw [Nat.zero_add]; exact h.slots.got i hi⟩⟩
theorem ex_Match {w0 w : World} {p : Nat} {S : Sto} {D : Nat → Prop} (h : Law8 w0 p S D w) (hI : Inv S) (c : Cod) (lv : Value) (hins : InsSl w lv c.l) (hlv : ∀ b, slBlk lv = some b → Free D w b) (hck : check c = 0) (args : List Int) (av : Value) (hav : IntSl w (Free D w) av args) (hal : (args.length : Int) = c.args) (har : areB S args false = true) {s : Nat} (hs : slotsN c.l 0 = some s) (hs2 : (s : Int) = c.slots) :
 Calls Try.prog 10 #[.pointer (some ⟨p, 0, none⟩), codVal c lv, av] w (MtPost w0 p (matX (patX c.l c.l.length) args 0 S (List.replicate s (-1)) 20000) S.bonds.length D w) := by
 obtain ⟨a, j, s', hco⟩ := check_facts hck; obtain ⟨R, hR⟩ : ∃ R, R = matX (patX c.l c.l.length) args 0 S (List.replicate s (-1)) 20000 := ⟨_, rfl⟩; rw [← hR]; have hsl := (slots_in c.l 0 s hs).2; have hok : ∀ i ∈ c.l, i.ok = true := fun i hi => List.all_eq_true.1 hco.ok i hi
 have hss : s ≤ 20000 := by have := slotsN_le _ _ _ hs; have := hco.len; omega
 obtain ⟨la, lc, rfl, hic⟩ := id hins; obtain ⟨qa, ca, rfl⟩ := hav.form; have hb1 := below_new w (.cells #[.string c.name, .int .i64 c.args, .int .i64 c.slots, .int .i64 c.body, .slice la c.l.length lc] 30 (0, 0)); have hr1 := heap_alloc_new w (.cells #[.string c.name, .int .i64 c.args, .int .i64 c.slots, .int .i64 c.body, .slice la c.l.length lc] 30 (0, 0)); obtain ⟨h1, s1, f1⟩ := h.below hb1; have hi1 : InsSl (w.alloc (.cells #[.string c.name, .int .i64 c.args, .int .i64 c.slots, .int .i64 c.body, .slice la c.l.length lc] 30 (0, 0))) (.slice la c.l.length lc) c.l := insSl_keepX hins fun b e => hb1.block b (hlv b e).2
 have ha1 := hav.step s1; have H1 := Lib.hid h1; have S1 := Lib.hid s1; have HI1 := Lib.hid hi1; have HA1 := Lib.hid ha1; have HLV := Lib.hid (fun b e => (s1.blk b (hlv b e)).1 : ∀ b, slBlk (.slice la c.l.length lc) = some b → Free D (w.alloc (.cells #[.string c.name, .int .i64 c.args, .int .i64 c.slots, .int .i64 c.body, .slice la c.l.length lc] 30 (0, 0))) b); have HCO := Lib.hid hco; have HP := Lib.hid (And.intro hok (And.intro hsl (And.intro hss (And.intro hs2 hal)))); have HR := Lib.hid hR; have HAR := Lib.hid har; have HCK := Lib.hid hck; obtain ⟨k0, k1, k2, k3, k4⟩ := row5 hr1; have hsm := hI.small; have hal5 : args.length ≤ 1000000 := by have := hco.args.2; omega
 clear hb1 hr1 h1 s1 f1 hi1 ha1 hco hok hsl hss hs2 hR har hck hic hins hlv hav h hs
 go_enter Try.func10, Try.ntmps10
 go_upto_region 1 with fail
 obtain ⟨w1, hw1⟩ : ∃ w1, w1 = w.alloc (.cells #[.string c.name, .int .i64 c.args, .int .i64 c.slots, .int .i64 c.body, .slice la c.l.length lc] 30 (0, 0)) := ⟨_, rfl⟩; rw [← hw1] at H1 S1 HI1 HA1 HLV k0 k1 k2 k3 k4 ⊢; have HW2 := Lib.hid (show w.heap.size < w1.heap.size by rw [hw1]; simp); clear hw1; generalize hgw : w.heap.size = g at *; have b1 : (check c != 0) = false := by rw [HCK.out]; rfl
 have b2 : ((args.length : Int) != c.args) = false := by simp; exact hal
 have b3 : (!areB S args false) = false := by rw [HAR.out]; rfl
 have HAL := Lib.hid hal; clear hal
 go_wp2_with (first
  | (go_at_call 12
     refine (go_check c _ w1 HI1.out).mono ?_; rintro e2 w2 ⟨rfl, hb2⟩; obtain ⟨h2, s2, f2⟩ := H1.out.below hb2; have H2 := Lib.hid h2; have S2 := Lib.hid (S1.out.trans s2); have HA2 := Lib.hid (HA1.out.step s2); have HI2 := Lib.hid (insSl_keepX HI1.out fun b e => (s2.blk b (HLV.out b e)).2 : InsSl w2 (.slice la c.l.length lc) c.l); have HLV2 := Lib.hid (fun b e => (s2.blk b (HLV.out b e)).1 : ∀ b, slBlk (.slice la c.l.length lc) = some b → Free D w2 b); have m0 := (hb2.cell (p := ⟨g, 0, none⟩) HW2.out).trans k0; have m1 := (hb2.cell (p := ⟨g, 1, none⟩) HW2.out).trans k1; have m2 := (hb2.cell (p := ⟨g, 2, none⟩) HW2.out).trans k2; have m3 := (hb2.cell (p := ⟨g, 3, none⟩) HW2.out).trans k3; have m4 := (hb2.cell (p := ⟨g, 4, none⟩) HW2.out).trans k4; clear h2 s2 f2 hb2 k0 k1 k2 k3 k4 H1 S1 HA1 HI1 HLV)
  | (go_at_call 26
     refine (ex_are w2 H2.out.sto (by omega) args _ _ HA2.out hal5 false).mono ?_; rintro e3 w3 ⟨rfl, rfl⟩; clear b1 b2)
  | (go_at_call 11
     refine (sto_Mark w2 H2.out.sto).mono ?_; rintro e4 w4 ⟨rfl, rfl⟩)
  | fail)
 have hs3 := HP.out.2.2.2.1; refine (ex_start p c _ w2 s hs3.symm (by have := HP.out.2.2.1; omega) ⟨_, _, _, rfl⟩).mono ?_; rintro e3 w3 ⟨rb, qb, rfl, hrow, hfill, hb3, hrb, hqb, hne⟩; obtain ⟨h3, s3, f3⟩ := H2.out.below hb3; have hlow := H2.out.law_low
 have hex : ExAt w0 p rb qb S D (.slice la c.l.length lc) c.l 0 (List.replicate s (-1)) (20000 - 20000) w3 := by
  have hz := hb3.size; refine ⟨h3, by rw [List.length_replicate]; exact hrow, by rw [List.length_replicate]; exact hfill, insSl_keepX HI2.out fun b e => (s3.blk b (HLV2.out b e)).2, ⟨fun e => by have := H2.out.dl rb e; omega, by omega⟩, ⟨fun e => by have := H2.out.dl qb e; omega, by omega, hne⟩, fun b e => ⟨(s3.blk b (HLV2.out b e)).1, fun e2 => ?_, fun e2 => ?_⟩⟩
  ·have := (HLV2.out b e).2; omega
  ·have := (HLV2.out b e).2; omega
 have ha3 : IntSl w3 (EOut rb qb D w3) (.slice qa args.length ca) args := HA2.out.move (fun b hb _ => ⟨hb.1, fun e => by have := hb.2; omega, fun e => by have := hb.2; omega, Nat.lt_of_lt_of_le hb.2 hb3.size⟩) fun b hb _ => hb3.block b hb.2
 have hin : ∀ x ∈ args, 0 ≤ x ∧ x < S.cells.length := fun x hx => by
  have := List.all_eq_true.1 HAR.out x hx
  simpa using this
 have hst : MtRel w0 p rb qb s (.slice la c.l.length lc) c.l args R D w3 (.int .i64 0) w3 :=
  ⟨0, 0, a, 20000, S, _, D, rfl, Nat.zero_le _, hex, EStep.refl _ _ _ _, hI, fun x hx => .inl (List.eq_of_mem_replicate hx), List.length_replicate, hin, by
    have := HCO.out.sk; rw [show c.args.toNat = args.length by have := HAL.out; omega] at this; exact this, by have := HCO.out.all; omega, Nat.le_refl _, HR.out⟩
 have HST := Lib.hid hst; have HA3 := Lib.hid ha3; have S3 := Lib.hid S2.out; have HB3 := Lib.hid (And.intro hb3 (And.intro hrb hqb)); clear hst ha3 hin hex hlow h3 s3 f3 hrow hfill hb3 hrb hqb hne hs3 H2 HA2 HI2 HLV2 S2 m0 m1 m2 m3 m4 b3; go_wp2
 go_loopw [43] (fun vi wr => MtRel w0 p rb qb s (.slice la c.l.length lc) c.l args R D w3 vi wr) (fun vi _ => args.length - (intOf vi).toNat)
 case atStart => exact HST.out
 case round =>
  clear HST; obtain ⟨i, ai, ji, k, Si, sl, D1, rfl, hi, hat⟩ := hrel; have HAT := Lib.hid hat
  by_cases hil : i < args.length
  ·have d1 : decide ((i : Int) < (args.length : Int)) = true := by simp; omega
   have har : IntSl wr (EOut rb qb D1 wr) (.slice qa args.length ca) args := HA3.out.move (fun b hb _ => (hat.st.blk b hb).1) fun b hb _ => (hat.st.blk b hb).2
   obtain ⟨ab, ao, eqa, hx⟩ := har.pick i hil; have hroom := har.room; obtain ⟨j1, j2, e1, e2, e3⟩ := sk_split _ 1 (args.length - i - 1) ji (by rw [show 1 + (args.length - i - 1) = args.length - i by omega]; exact hat.pats); rw [List.drop_drop] at e2; obtain ⟨r, hr⟩ : ∃ r, r = patX c.l c.l.length ai Si sl := ⟨_, rfl⟩; have hjn := hat.jn; have hpt := patX_ok (L := c.l) (sn := s) HP.out.1 HP.out.2.1 c.l.length ai j1 Si sl e1 (by omega) hat.inv hat.slots hat.len; rw [← hr] at hpt; have hcall := ex_pattern (w0 := w0) (p := p) (rb := rb) (qb := qb) (k := 20000 - k) (lv := .slice la c.l.length lc) HCO.out.len (by have := HP.out.2.2.1; omega) HP.out.1 HP.out.2.1 c.l.length ai j1 Si sl D1 wr hat.ex hat.inv hat.slots hat.len e1 (by omega); rw [← hr] at hcall; obtain ⟨x, hxv⟩ : ∃ x, x = args[i] := ⟨_, rfl⟩; rw [← hxv] at hx; have heq : R = matX (patX c.l c.l.length) (x :: args.drop (i + 1)) ai Si sl k := by rw [hat.eq, List.drop_eq_getElem_cons hil, hxv]
   rw [matX_cons hr.symm] at heq; have hxin := hat.inn x (by rw [hxv]; exact List.getElem_mem hil); have hi0 : (0 : Int) ≤ (i : Int) := by omega
   have hi1 : (i : Int) < (args.length : Int) := by omega
   have HCALL := Lib.hid hcall; have HPT := Lib.hid hpt; have HE := Lib.hid (And.intro e1 (And.intro e2 (And.intro e3 hxin))); have HEQ := Lib.hid heq; have hr1 := hroom.1; subst eqa; clear hcall hpt e1 e2 e3 heq hr hxv hat har hxin hroom
   by_cases he : r.err = 0
   ·have d2 : (r.err == 0) = true := by simpa using he
    have heq := HEQ.out; rw [if_neg (fun h => h he)] at heq; have HEQ2 := Lib.hid heq; obtain ⟨ra, rc0, rc1⟩ := HPT.out.done he; obtain ⟨cn, hcn⟩ : ∃ cn : Nat, r.cell = (cn : Int) := ⟨r.cell.toNat, by omega⟩; obtain ⟨xn, hxn⟩ : ∃ xn : Nat, x = (xn : Int) := ⟨x.toNat, by have := HE.out.2.2.2; omega⟩; obtain ⟨rc, re, rat, rS, rsl⟩ := r; dsimp only at HPT HEQ2 ra rc0 rc1 hcn he d2; subst hcn; subst hxn; simp only [Int.toNat_natCast] at HEQ2; have hcl : cn < rS.cells.length := by omega
    have hgl : Si.cells.length ≤ rS.cells.length := HPT.out.go.len; have hxl : xn < rS.cells.length := by have := HE.out.2.2.2; omega
    obtain ⟨U, hU⟩ : ∃ U, U = uniK false k rS [(cn, xn)] := ⟨_, rfl⟩; rw [← hU] at HEQ2; have hext : Ext rS U.2.1 := by rw [hU]; exact uniP_ext false _ _ _ _ HPT.out.go.inv (inl1 hcl hxl)
    have hule : U.2.2 ≤ k := by rw [hU]; exact uniK_le _ _ _ _
    have HU := Lib.hid hU; have HX := Lib.hid (And.intro hext hule); have HRA := Lib.hid (And.intro ra (And.intro he (And.intro hcl hxl))); have hkle := HAT.out.kle; clear heq HEQ hU hext hule he ra rc0 rc1 hcl hxl hgl
    by_cases hb : hasB U.1 = true
    ·have HB := Lib.hid hb
     have heq := HEQ2.out; rw [if_pos (hasB_yesE hb)] at heq; have HEQ3 := Lib.hid heq; clear hb heq
     go_wp2_with (first
      | (go_at_call 28
         refine (HCALL.out).mono ?_; rintro e4 w4 ⟨rfl, D4, h4, s4⟩; have H4 := Lib.hid h4; have S4 := Lib.hid s4; clear h4 s4 hx)
      | (go_at_call 29
         refine (ex_unify H4.out HPT.out.go.inv (by omega) cn xn HRA.out.2.2.1 HRA.out.2.2.2).mono ?_; rw [show 20000 - (20000 - k) = k by omega, ← HU.out, HB.out]; rintro e5 w5 ⟨rfl, D5, h5, s5⟩; have H5 := Lib.hid h5; have S5 := Lib.hid (S4.out.trans s5); clear h5 s5
         skip)
      | (go_at_call 23
         refine (law_Undo H5.out.law HX.out.1.inv _).mono ?_; rintro e6 w6 ⟨rfl, D6, h6, s6⟩; have H6 := Lib.hid h6; have S6 := Lib.hid ((((HAT.out.st.trans S5.out).step HB3.out.1 HB3.out.2.1 HB3.out.2.2)).trans s6); clear h6 s6
         skip)
      | fail)
     have hst := HX.out.1
     have hrel : MtRel w0 p rb qb s (.slice la c.l.length lc) c.l args R D w3 (.int .i64 ((i : Int) + 1)) w5 := by
      refine ⟨i + 1, rat, j2, U.2.2, U.2.1, rsl, D5, by go_num, by omega, H5.out, HAT.out.st.trans S5.out, hst.inv, ?_, HPT.out.len.trans HAT.out.len, ?_, ?_, by have := HE.out.2.2.1; have := HAT.out.jn; omega, Nat.le_trans HX.out.2 hkle, HEQ3.out⟩
      ·intro x hx
       have h0 : x = -1 ∨ (0 ≤ x ∧ x < rS.cells.length) := HPT.out.slots x hx; have := hst.len; omega
      ·intro x hx
       have h0 := HAT.out.inn x hx; have h1 : Si.cells.length ≤ rS.cells.length := HPT.out.go.len; have := hst.len; omega
      ·have h0 : rat = ai + j1 := HRA.out.1
       rw [h0, show args.length - (i + 1) = args.length - i - 1 by omega]; exact HE.out.2.1
     have HREL := Lib.hid hrel; clear hst hrel; go_roundw
     case measure => simp [intOf]; omega
     case rel => exact HREL.out
    ·have hb' : hasB U.1 = false := by simpa using hb
     have HB := Lib.hid hb'; have heq := HEQ2.out; rw [if_neg (hasB_notE hb')] at heq; have HEQ3 := Lib.hid heq; clear hb hb' heq
     go_wp2_with (first
      | (go_at_call 28
         refine (HCALL.out).mono ?_; rintro e4 w4 ⟨rfl, D4, h4, s4⟩; have H4 := Lib.hid h4; have S4 := Lib.hid s4; clear h4 s4 hx)
      | (go_at_call 29
         refine (ex_unify H4.out HPT.out.go.inv (by omega) cn xn HRA.out.2.2.1 HRA.out.2.2.2).mono ?_; rw [show 20000 - (20000 - k) = k by omega, ← HU.out, HB.out]; rintro e5 w5 ⟨rfl, D5, h5, s5⟩; have H5 := Lib.hid h5; have S5 := Lib.hid (S4.out.trans s5); clear h5 s5
         skip)
      | (go_at_call 23
         refine (law_Undo H5.out.law HX.out.1.inv _).mono ?_; rintro e6 w6 ⟨rfl, D6, h6, s6⟩; have H6 := Lib.hid h6; have S6 := Lib.hid ((((HAT.out.st.trans S5.out).step HB3.out.1 HB3.out.2.1 HB3.out.2.2)).trans s6); clear h6 s6
         skip)
      | fail)
     go_ret3
     rw [HEQ3.out]; exact ⟨_, D6, rfl, H6.out, S3.out.trans S6.out, IntSl.nil _ _⟩
   ·have d2 : (r.err == 0) = false := by simpa using he
    have heq := HEQ.out; rw [if_pos he] at heq; have HEQ3 := Lib.hid heq; clear heq HEQ he
    go_wp2_with (first
     | (go_at_call 28
        refine (HCALL.out).mono ?_; rintro e4 w4 ⟨rfl, D4, h4, s4⟩; have H4 := Lib.hid h4; have S4 := Lib.hid s4; clear h4 s4 hx)
     | (go_at_call 23
        refine (law_Undo H4.out.law HPT.out.go.inv _).mono ?_; rintro e6 w6 ⟨rfl, D6, h6, s6⟩; have H6 := Lib.hid h6; have S6 := Lib.hid ((((HAT.out.st.trans S4.out).step HB3.out.1 HB3.out.2.1 HB3.out.2.2)).trans s6); clear h6 s6
        skip)
     | fail)
    go_ret3
    rw [HEQ3.out]; exact ⟨_, D6, rfl, H6.out, S3.out.trans S6.out, IntSl.nil _ _⟩
  ·obtain rfl : i = args.length := by omega
   have d1 : decide ((args.length : Int) < (args.length : Int)) = false := by simp
   have heq := hat.eq; rw [List.drop_length] at heq; have HEQ := Lib.hid (heq.trans rfl : R = ⟨true, 0, Si, sl⟩); obtain ⟨c0, c1, c2, c3, c11⟩ := row12 hat.ex.row; have hsl2 := ex_slots hat.ex (by rw [hat.len]; have := HP.out.2.2.1; omega); have HSL := Lib.hid hsl2; clear heq hsl2 hat; go_wp2
   go_ret3
   rw [HEQ.out]; exact ⟨_, D1, rfl, HAT.out.ex.law, S3.out.trans (HAT.out.st.step HB3.out.1 HB3.out.2.1 HB3.out.2.2), HSL.out⟩
theorem ex_Match_nil (w : World) (c : Cod) (lv av : Value) : Calls Try.prog 10 #[.pointer none, codVal c lv, av] w fun e w' => e = .returned (.tuple #[.slice none 0 0, .bool false, .int .i64 2]) ∧ Below w.heap.size w w' := by
 have hb1 := below_new w (.cells #[.string c.name, .int .i64 c.args, .int .i64 c.slots, .int .i64 c.body, lv] 30 (0, 0)); have HB1 := Lib.hid hb1; clear hb1
 go_enter Try.func10, Try.ntmps10
 go_wp2
 go_ret3
 exact ⟨rfl, HB1.out⟩
theorem ex_Match_no {w : World} {p : Nat} {S : Sto} {D : Nat → Prop} (hS : StoAt w D p S) (hI : Inv S) (c : Cod) (lv : Value) (hins : InsSl w lv c.l) (args : List Int) (av : Value) {P : Nat → Prop} (hav : IntSl w P av args) (hal : args.length ≤ 1000000) (hbad : check c ≠ 0 ∨ (args.length : Int) ≠ c.args ∨ areB S args false = false) :
 Calls Try.prog 10 #[.pointer (some ⟨p, 0, none⟩), codVal c lv, av] w fun e w' => e = .returned (.tuple #[.slice none 0 0, .bool false, .int .i64 2]) ∧ Below w.heap.size w w' := by
 obtain ⟨la, lc, rfl, hic⟩ := id hins; obtain ⟨qa, ca, rfl⟩ := hav.form; have hb1 := below_new w (.cells #[.string c.name, .int .i64 c.args, .int .i64 c.slots, .int .i64 c.body, .slice la c.l.length lc] 30 (0, 0)); have hr1 := heap_alloc_new w (.cells #[.string c.name, .int .i64 c.args, .int .i64 c.slots, .int .i64 c.body, .slice la c.l.length lc] 30 (0, 0)); have hlt : w.heap.size < (w.alloc (.cells #[.string c.name, .int .i64 c.args, .int .i64 c.slots, .int .i64 c.body, .slice la c.l.length lc] 30 (0, 0))).heap.size := by simp
 have H1 := Lib.hid (hS.below hb1); have HI1 := Lib.hid (hins.below hb1); have HA1 := Lib.hid (hav.below hb1); obtain ⟨k0, k1, k2, k3, k4⟩ := row5 hr1; have HB1 := Lib.hid hb1; have hsm := hI.small; have HBAD := Lib.hid hbad; clear hb1 hr1 hic hins hav hS hbad
 go_enter Try.func10, Try.ntmps10
 go_upto_region 1 with fail
 generalize w.alloc (.cells #[.string c.name, .int .i64 c.args, .int .i64 c.slots, .int .i64 c.body, .slice la c.l.length lc] 30 (0, 0)) = w1 at *
 by_cases hc : check c = 0
 case neg =>
  have b1 : (check c != 0) = true := by simpa using hc
  clear HBAD hc
  go_wp2_with (first
   | (go_at_call 12
      refine (go_check c _ w1 HI1.out).mono ?_; rintro e2 w2 ⟨rfl, hb2⟩; have HB2 := Lib.hid (HB1.out.trans (hb2.mono (Nat.le_of_lt hlt))); clear hb2)
   | fail)
  go_ret3
  exact ⟨rfl, HB2.out⟩
 have b1 : (check c != 0) = false := by rw [hc]; rfl
 by_cases hl : (args.length : Int) = c.args
 case neg =>
  have b2 : ((args.length : Int) != c.args) = true := by simpa using hl
  clear HBAD hc hl
  go_wp2_with (first
   | (go_at_call 12
      refine (go_check c _ w1 HI1.out).mono ?_; rintro e2 w2 ⟨rfl, hb2⟩; have HB2 := Lib.hid (HB1.out.trans (hb2.mono (Nat.le_of_lt hlt))); have m0 := (hb2.cell (p := ⟨w.heap.size, 0, none⟩) hlt).trans k0; have m1 := (hb2.cell (p := ⟨w.heap.size, 1, none⟩) hlt).trans k1; have m2 := (hb2.cell (p := ⟨w.heap.size, 2, none⟩) hlt).trans k2; clear hb2 k0 k1 k2 k3 k4)
   | fail)
  go_ret3
  exact ⟨rfl, HB2.out⟩
 have b2 : ((args.length : Int) != c.args) = false := by simpa using hl
 have ha : areB S args false = false := by
  rcases HBAD.out with h | h | h
  ·exact absurd hc h
  ·exact absurd hl h
  ·exact h
 have b3 : (!areB S args false) = true := by rw [ha]; rfl
 have HB := Lib.hid hl; clear hl hc ha HBAD
 go_wp2_with (first
  | (go_at_call 12
     refine (go_check c _ w1 HI1.out).mono ?_; rintro e2 w2 ⟨rfl, hb2⟩; have HB2 := Lib.hid (HB1.out.trans (hb2.mono (Nat.le_of_lt hlt))); have H2 := Lib.hid (H1.out.below hb2); have HA2 := Lib.hid (HA1.out.below hb2); have m0 := (hb2.cell (p := ⟨w.heap.size, 0, none⟩) hlt).trans k0; have m1 := (hb2.cell (p := ⟨w.heap.size, 1, none⟩) hlt).trans k1; have m2 := (hb2.cell (p := ⟨w.heap.size, 2, none⟩) hlt).trans k2; clear hb2 k0 k1 k2 k3 k4)
  | (go_at_call 26
     refine (ex_are w2 H2.out (by omega) args _ _ HA2.out hal false).mono ?_; rintro e3 w3 ⟨rfl, rfl⟩)
  | fail)
 go_ret3
 exact ⟨rfl, HB2.out⟩
end Go.Proofs.Ytcbijikalfodnaa.Tms
