/-
  Layer texts, glued and made small.
-/
import Derived.Test.YtcbijikalfodnaaG16
set_option linter.unusedVariables false
set_option linter.unusedSimpArgs false
set_option maxRecDepth 100000
set_option maxHeartbeats 3200000
namespace Go.Proofs.Ytcbijikalfodnaa.Tms
open Go Go.RowKit Go.Proofs.Ytcbijikalfodnaa.Reg Go.Proofs.Ytcbijikalfodnaa.Rws
abbrev Plc := Nat × Nat × Tm
def holes (φ : Int → Int) (l : List Plc) : List Plc := l.map fun x => (x.1, x.2.1, renT φ x.2.2)
mutual
def Rd (w : World) (S : Nat → Prop) (H : List Plc) (b o : Nat) : Tm → Prop
 | .mk k n s args => S b ∧ o % 4 = 0 ∧ ((b, o, Tm.mk k n s args) ∈ H ∨ ((∀ t', (b, o, t') ∉ H) ∧ ∃ a cap, w.cell? ⟨b, o, none⟩ = some (.int .i64 k) ∧ w.cell? ⟨b, o + 1, none⟩ = some (.int .i64 n) ∧ w.cell? ⟨b, o + 2, none⟩ = some (.string s) ∧
    w.cell? ⟨b, o + 3, none⟩ = some (.slice a args.length cap) ∧ RdL w S H a 0 args))
def RdL (w : World) (S : Nat → Prop) (H : List Plc) (a : Option Addr) (j : Nat) : List Tm → Prop
 | [] => True
 | t :: ts => (∃ b off, a = some ⟨b, off, none⟩ ∧ Rd w S H b (off + j * 4) t) ∧ RdL w S H a (j + 1) ts
end
theorem rdL_iff {w : World} {S : Nat → Prop} {H : List Plc} {a : Option Addr} : ∀ {ts : List Tm} {j : Nat}, RdL w S H a j ts ↔ ∀ i (h : i < ts.length), ∃ b off, a = some ⟨b, off, none⟩ ∧ Rd w S H b (off + (j + i) * 4) ts[i]
 | [], j => by unfold RdL; simp
 | t :: ts, j => by
   unfold RdL; rw [rdL_iff]; constructor
   ·rintro ⟨h0, h⟩ i hi
    cases i with
    | zero => simpa using h0
    | succ i =>
      have := h i (by simpa using hi)
      simpa [Nat.add_assoc, Nat.add_comm 1 i] using this
   ·intro h
    refine ⟨by have h0 := h 0 (Nat.zero_lt_succ _); rw [Nat.add_zero] at h0; exact h0, fun i hi => ?_⟩; have := h (i + 1) (by simpa using hi)
    simpa [Nat.add_assoc, Nat.add_comm 1 i] using this
theorem Rd.plc {w : World} {S : Nat → Prop} {H : List Plc} {b o : Nat} {t : Tm} (h : Rd w S H b o t) : S b ∧ o % 4 = 0 := by
 obtain ⟨k, n, s, a⟩ := t; unfold Rd at h; exact ⟨h.1, h.2.1⟩
theorem Rd.step {w w' : World} {S S' : Nat → Prop} {H H' : List Plc} (hc : ∀ b o, S b → o % 4 = 0 → (∀ t', (b, o, t') ∉ H) → ∀ q, q < 4 → w'.cell? ⟨b, o + q, none⟩ = w.cell? ⟨b, o + q, none⟩) (hS : ∀ b, S b → S' b)
 (hin : ∀ b o t, S b → o % 4 = 0 → (b, o, t) ∈ H → Rd w' S' H' b o t) (hout : ∀ b o, S b → (∀ t', (b, o, t') ∉ H) → ∀ t', (b, o, t') ∉ H') (N : Nat) : ∀ (t : Tm) (b o : Nat), t.size ≤ N → Rd w S H b o t → Rd w' S' H' b o t := by
 induction N with
 | zero => intro t b o hN; have := size_pos t; omega
 | succ N ih =>
   intro t b o hN h; have hp := h.plc; obtain ⟨k, n, s, ts⟩ := t; unfold Rd at h; obtain ⟨h1, h2, h | ⟨h3, a, cap, x0, x1, x2, x3, x4⟩⟩ := h
   ·exact hin _ _ _ h1 h2 h
   ·unfold Rd
    have hq := hc b o h1 h2 h3; refine ⟨hS _ h1, h2, .inr ⟨hout b o h1 h3, a, cap, (hq 0 (by omega)).trans x0, (hq 1 (by omega)).trans x1, (hq 2 (by omega)).trans x2, (hq 3 (by omega)).trans x3, rdL_iff.2 fun i hi => ?_⟩⟩; obtain ⟨b', off, e, hr⟩ := rdL_iff.1 x4 i hi; exact ⟨b', off, e, ih _ _ _ (by have := size_mem hi; simp only [Tm.size] at hN; omega) hr⟩
theorem rd_hole {w : World} {S : Nat → Prop} {H : List Plc} {b o : Nat} {t : Tm} (hS : S b) (ho : o % 4 = 0) (h : (b, o, t) ∈ H) : Rd w S H b o t := by
 obtain ⟨k, n, s, a⟩ := t; unfold Rd; exact ⟨hS, ho, .inl h⟩
theorem rd_nil {w : World} {S : Nat → Prop} (N : Nat) : ∀ (t : Tm) (b o : Nat), t.size ≤ N → Rd w S [] b o t → TmAt w S b o t := by
 induction N with
 | zero => intro t b o hN; have := size_pos t; omega
 | succ N ih =>
   intro t b o hN h; obtain ⟨k, n, s, ts⟩ := t; unfold Rd at h; obtain ⟨h1, h2, h | ⟨h3, a, cap, x0, x1, x2, x3, x4⟩⟩ := h
   ·cases h
   ·unfold TmAt
    refine ⟨a, cap, x0, x1, x2, x3, argsFrom_mk fun i hi => ?_⟩; obtain ⟨b', off, e, hr⟩ := rdL_iff.1 x4 i hi; have hp := hr.plc; rw [Nat.zero_add] at hr; exact ⟨b', off, e, hp.1, ih _ _ _ (by have := size_mem hi; simp only [Tm.size] at hN; omega) hr⟩
def ItemAt (w : World) (Q : Nat → Prop) (x : Plc) : Prop := ∃ a cap, w.cell? ⟨x.1, x.2.1, none⟩ = some (.int .i64 x.2.2.k) ∧ w.cell? ⟨x.1, x.2.1 + 1, none⟩ = some (.int .i64 x.2.2.n) ∧ w.cell? ⟨x.1, x.2.1 + 2, none⟩ = some (.string x.2.2.s) ∧
 w.cell? ⟨x.1, x.2.1 + 3, none⟩ = some (.slice a x.2.2.args.length cap) ∧ ArgsFrom w Q a 0 x.2.2.args
abbrev key (x : Plc) : Nat × Nat := (x.1, x.2.1)
abbrev Old (V : Vis) (w : World) : Nat → Prop := fun b => b < w.heap.size ∧ ¬ V.Mine [] w b
structure RnI (V : Vis) (φ : Int → Int) (t : Tm) (S : Nat → Prop) (w : World) (D : List (Tm × Int)) (H l : List Plc) (wr : World) : Prop where
 rows : ∀ b, S b → w.heap.size ≤ b ∧ b ≠ w.heap.size + 1 ∧ ¬ V.Mine D wr b ∧ ∃ cur, wr.heap[b]? = some (.cells cur 49 (0, 0))
 root : Rd wr S (holes φ H) w.heap.size 0 (renT φ t)
 plcs : ∀ x ∈ H, S x.1 ∧ x.2.1 % 4 = 0
 keys : (H.map key).Nodup
 items : ∀ x ∈ l, S x.1 ∧ x.2.1 % 4 = 0 ∧ ItemAt wr (Old V w) x
 keeps : Keeps w wr (V.Mine [] w)
 sig : V.Sig D wr
 mine : ∀ b, V.Mine D wr b → V.Mine [] w b ∨ w.heap.size ≤ b
 nores : ¬ V.Mine D wr (w.heap.size + 1)
 res : wr.heap[w.heap.size + 1]? = some (.cells #[.int .i64 0, .int .i64 0, .string ⟨#[]⟩, .slice none 0 0] 49 (0, 0))
theorem ItemAt.imp {w w' : World} {Q : Nat → Prop} {x : Plc} (h : ItemAt w Q x) (hc : ∀ q, q < 4 → w'.cell? ⟨x.1, x.2.1 + q, none⟩ = w.cell? ⟨x.1, x.2.1 + q, none⟩) (hQ : ∀ b, Q b → b < w.heap.size → w'.heap[b]? = w.heap[b]?) : ItemAt w' Q x := by
 obtain ⟨a, cap, h0, h1, h2, h3, h4⟩ := h; exact ⟨a, cap, (hc 0 (by omega)).trans h0, (hc 1 (by omega)).trans h1, (hc 2 (by omega)).trans h2, (hc 3 (by omega)).trans h3, ArgsFrom.imp (fun _ h => h) hQ _ _ _ h4⟩
section
variable {V : Vis} {φ : Int → Int} {t : Tm} {S : Nat → Prop} {w : World} {D : List (Tm × Int)} {H l : List Plc} {wr w' : World}
theorem RnI.old (h : RnI V φ t S w D H l wr) {b : Nat} (hb : Old V w b) : ¬ V.Mine D wr b := fun hm => (h.mine b hm).elim hb.2 fun hge => by have := hb.1; omega
theorem RnI.lt (h : RnI V φ t S w D H l wr) {b : Nat} (hb : S b) : b < wr.heap.size := by obtain ⟨-, -, -, cur, hc⟩ := h.rows b hb; exact (Array.getElem?_eq_some_iff.1 hc).1
theorem RnI.sub (h : RnI V φ t S w D H l wr) {l1 : List Plc} (hl : ∀ x ∈ l1, x ∈ l) : RnI V φ t S w D H l1 wr := { h with items := fun x hx => h.items x (hl x hx) }
theorem RnI.perm {H' l' : List Plc} (h : RnI V φ t S w D H l wr) (hH : H.Perm H') (hl : ∀ x ∈ l', x ∈ l) : RnI V φ t S w D H' l' wr := by
 have hm : ∀ x, x ∈ holes φ H ↔ x ∈ holes φ H' := fun x => (hH.map _).mem_iff
 refine { h with root := ?_, plcs := fun x hx => h.plcs x (hH.mem_iff.2 hx), keys := ((hH.map key).nodup_iff).1 h.keys, items := fun x hx => h.items x (hl x hx) }; exact Rd.step (fun _ _ _ _ _ _ _ => rfl) (fun _ h => h) (fun b o t hs ho hin => rd_hole hs ho ((hm _).1 hin)) (fun b o _ hn t' ht => hn t' ((hm _).2 ht)) _ _ _ _ (Nat.le_refl _) h.root
theorem RnI.keep (h : RnI V φ t S w D H l wr) {M : Nat → Prop} (hk : Keeps wr w' M) (hM : ∀ b, b < wr.heap.size → M b → ¬ S b ∧ ¬ V.Mine D wr b ∧ w.heap.size + 2 ≤ b) : RnI V φ t S w D H l w' := by
 have hlt := fun b (hb : S b) => h.lt hb
 have hblk : ∀ b, S b → w'.heap[b]? = wr.heap[b]? := fun b hb => hk.block b (hlt b hb) fun hm => (hM b (hlt b hb) hm).1 hb
 have hcell : ∀ b o, S b → w'.cell? ⟨b, o, none⟩ = wr.cell? ⟨b, o, none⟩ := fun b o hb => World.cell?_of_block (hblk b hb)
 have hv := V.keep h.sig hk.size fun b hb hm => hk.block b hb fun hm' => (hM b hb hm').2.1 hm
 have hold : ∀ b, Old V w b → b < wr.heap.size → w'.heap[b]? = wr.heap[b]? := fun b hb hl => hk.block b hl fun hm => by have := (hM b hl hm).2.2; have := hb.1; omega
 have hr1 : w.heap.size + 1 < wr.heap.size := (Array.getElem?_eq_some_iff.1 h.res).1; refine ⟨fun b hb => ?_, ?_, h.plcs, h.keys, fun x hx => ?_, ?_, hv.1, fun b hb => h.mine b (hv.2 b hb), fun hm => h.nores (hv.2 _ hm), (hk.block _ hr1 fun hm => by have := (hM _ hr1 hm).2.2; omega).trans h.res⟩
 ·obtain ⟨h1, h2, h3, cur, hc⟩ := h.rows b hb
  exact ⟨h1, h2, fun hm => h3 (hv.2 b hm), cur, (hblk b hb).trans hc⟩
 ·exact Rd.step (fun b o hs _ _ q _ => hcell b _ hs) (fun _ h => h) (fun b o t hs ho hin => rd_hole hs ho hin) (fun b o _ hn => hn) _ _ _ _ (Nat.le_refl _) h.root
 ·obtain ⟨h1, h2, h3⟩ := h.items x hx
  exact ⟨h1, h2, h3.imp (fun q _ => hcell _ _ h1) hold⟩
 ·exact h.keeps.trans hk fun b hm => by
   rcases Nat.lt_or_ge b wr.heap.size with hl | hl
   ·exact .inr (by have := (hM b hl hm).2.2; omega)
   ·exact .inr (by have := h.keeps.size; omega)
theorem RnI.called (h : RnI V φ t S w D H l wr) {p : Tm × Int} (hs : V.Sig (D ++ [p]) w') (hk : Keeps wr w' (V.Mine D wr)) (hm : ∀ b, V.Mine (D ++ [p]) w' b → V.Mine D wr b ∨ wr.heap.size ≤ b) : RnI V φ t S w (D ++ [p]) H l w' := by
 have hlt := fun b (hb : S b) => h.lt hb
 have hblk : ∀ b, S b → w'.heap[b]? = wr.heap[b]? := fun b hb => hk.block b (hlt b hb) (h.rows b hb).2.2.1
 have hcell : ∀ b o, S b → w'.cell? ⟨b, o, none⟩ = wr.cell? ⟨b, o, none⟩ := fun b o hb => World.cell?_of_block (hblk b hb)
 have hr1 : w.heap.size + 1 < wr.heap.size := (Array.getElem?_eq_some_iff.1 h.res).1; have hz := h.keeps.size; refine ⟨fun b hb => ?_, ?_, h.plcs, h.keys, fun x hx => ?_, h.keeps.trans hk h.mine, hs, fun b hb => ?_, fun hb => ?_, (hk.block _ hr1 h.nores).trans h.res⟩
 ·obtain ⟨h1, h2, h3, cur, hc⟩ := h.rows b hb
  refine ⟨h1, h2, fun hb' => ?_, cur, (hblk b hb).trans hc⟩; rcases hm b hb' with h' | h'
  ·exact h3 h'
  ·have := hlt b hb; omega
 ·exact Rd.step (fun b o hs _ _ q _ => hcell b _ hs) (fun _ h => h) (fun b o t hs ho hin => rd_hole hs ho hin) (fun b o _ hn => hn) _ _ _ _ (Nat.le_refl _) h.root
 ·obtain ⟨h1, h2, h3⟩ := h.items x hx
  exact ⟨h1, h2, h3.imp (fun q _ => hcell _ _ h1) fun b hb hl => hk.block b hl (h.old hb)⟩
 ·rcases hm b hb with h' | h'
  ·exact h.mine b h'
  ·exact .inr (by omega)
 ·rcases hm _ hb with h' | h'
  ·exact h.nores h'
  ·omega
theorem RnI.skipped (h : RnI V φ t S w D H l wr) {p : Tm × Int} (hs : V.Sig (D ++ [p]) wr ∧ ∀ b, V.Mine (D ++ [p]) wr b → V.Mine D wr b) : RnI V φ t S w (D ++ [p]) H l wr :=
 { h with rows := fun b hb => ⟨(h.rows b hb).1, (h.rows b hb).2.1, fun hm => (h.rows b hb).2.2.1 (hs.2 b hm), (h.rows b hb).2.2.2⟩, sig := hs.1, mine := fun b hb => h.mine b (hs.2 b hb), nores := fun hm => h.nores (hs.2 _ hm) }
theorem RnI.write (h : RnI V φ t S w D H l wr) {b o q : Nat} {u : Tm} (hH : (b, o, u) ∈ H) (hl : ∀ x ∈ l, key x ≠ (b, o)) (hq : q < 4) (v : Value) : RnI V φ t S w D H l (wr.setCell ⟨b, o + q, none⟩ v) := by
 obtain ⟨hS, ho⟩ := h.plcs _ hH; simp only at hS ho; obtain ⟨h1, h2, h3, cur, hc⟩ := h.rows b hS; have hother : ∀ b' o', o' % 4 = 0 → (b', o') ≠ (b, o) → ∀ q', q' < 4 → (wr.setCell ⟨b, o + q, none⟩ v).cell? ⟨b', o' + q', none⟩ = wr.cell? ⟨b', o' + q', none⟩ := fun b' o' ho' hne q' hq' => cell_setCell_ne fun ⟨e1, e2⟩ => hne (by rw [e1]; congr 1; omega)
 have hblk : ∀ b', b' ≠ b → (wr.setCell ⟨b, o + q, none⟩ v).heap[b']? = wr.heap[b']? := fun b' hne => Below.heap_setCell _ _ _ _ hne
 have hsz : (wr.setCell ⟨b, o + q, none⟩ v).heap.size = wr.heap.size := by simp [World.setCell]
 have hv := V.keep h.sig (Nat.le_of_eq hsz.symm) fun b' hb hm => hblk b' fun e => h3 (by rw [← e]; exact hm)
 refine ⟨fun b' hb => ?_, ?_, h.plcs, h.keys, fun x hx => ?_, h.keeps.trans (M' := fun b' => b' = b) ⟨rfl, rfl, rfl, Nat.le_of_eq hsz.symm, fun b' _ hne => hblk b' hne⟩ fun b' e => .inr (by rw [e]; exact h1), hv.1, fun b' hb => h.mine b' (hv.2 b' hb), fun hm => h.nores (hv.2 _ hm), (hblk _ fun e => h2 e.symm).trans h.res⟩
 ·obtain ⟨g1, g2, g3, cur', hc'⟩ := h.rows b' hb
  refine ⟨g1, g2, fun hm => g3 (hv.2 b' hm), ?_⟩
  by_cases e : b' = b
  ·subst e
   exact ⟨_, heap_setCell_same wr b' (o + q) cur _ _ hc⟩
  ·exact ⟨cur', (hblk b' e).trans hc'⟩
 ·refine Rd.step (fun b' o' hs ho' hn q' hq' => hother b' o' ho' (fun e => ?_) q' hq') (fun _ h => h) (fun b o t hs ho hin => rd_hole hs ho hin) (fun b o _ hn => hn) _ _ _ _ (Nat.le_refl _) h.root
  simp only [Prod.mk.injEq] at e; obtain ⟨rfl, rfl⟩ := e; exact hn (renT φ u) (List.mem_map.2 ⟨_, hH, rfl⟩)
 ·obtain ⟨g1, g2, g3⟩ := h.items x hx
  exact ⟨g1, g2, g3.imp (fun q' hq' => hother _ _ g2 (hl x hx) q' hq') fun b' hb _ => hblk b' fun e => by have := hb.1; omega⟩
end
def kids (g : Nat) : Nat → List Tm → List Plc
 | _, [] => []
 | j, t :: l => (g, j * 4, t) :: kids g (j + 1) l
theorem kids_len (g : Nat) : ∀ (j : Nat) (l : List Tm), (kids g j l).length = l.length
 | _, [] => rfl
 | j, t :: l => by simp [kids, kids_len g (j + 1) l]
theorem kids_get (g : Nat) : ∀ (j : Nat) (l : List Tm) (i : Nat) (h : i < l.length), (kids g j l)[i]'(by rw [kids_len]; exact h) = (g, (j + i) * 4, l[i])
 | j, t :: l, 0, _ => by simp [kids]
 | j, t :: l, i + 1, h => by
   have := kids_get g (j + 1) l i (by simpa using h); simp only [kids, List.getElem_cons_succ]; rw [this]
   congr 2
   omega
theorem kids_mem {g : Nat} : ∀ {j : Nat} {l : List Tm} {x : Plc}, x ∈ kids g j l → x.1 = g ∧ ∃ i, ∃ h : i < l.length, x = (g, (j + i) * 4, l[i])
 | j, t :: l, x, h => by
   rcases List.mem_cons.1 h with rfl | h
   ·exact ⟨rfl, 0, by simp, by simp⟩
   ·obtain ⟨e, i, hi, e2⟩ := kids_mem h
    exact ⟨e, i + 1, by simpa using hi, by rw [e2]; simp; omega⟩
theorem kids_keys (g : Nat) : ∀ (j : Nat) (l : List Tm), ((kids g j l).map key).Nodup
 | _, [] => List.nodup_nil
 | j, t :: l => by
   simp only [kids, List.map_cons, List.nodup_cons]; refine ⟨fun h => ?_, kids_keys g (j + 1) l⟩; obtain ⟨x, hx, e⟩ := List.mem_map.1 h; obtain ⟨-, i, hi, rfl⟩ := kids_mem hx; simp only [Prod.mk.injEq, true_and] at e; omega
theorem RnI.close {V : Vis} {φ : Int → Int} {t : Tm} {S : Nat → Prop} {w : World} {D : List (Tm × Int)} {l : List Plc} {wr : World} {b o g c : Nat} {u : Tm} (h : RnI V φ t S w D (l ++ [(b, o, u)]) l wr) {a : Option Addr}
 (x0 : wr.cell? ⟨b, o, none⟩ = some (.int .i64 u.k)) (x1 : wr.cell? ⟨b, o + 1, none⟩ = some (.int .i64 (if u.k = 1 then φ u.n else u.n))) (x2 : wr.cell? ⟨b, o + 2, none⟩ = some (.string u.s)) (x3 : wr.cell? ⟨b, o + 3, none⟩ = some (.slice a u.args.length c))
 (ha : u.args ≠ [] → a = some ⟨g, 0, none⟩ ∧ w.heap.size + 2 ≤ g ∧ ¬ V.Mine D wr g ∧ ∃ cur, wr.heap[g]? = some (.cells cur 49 (0, 0))) (hgS : ¬ S g) (hi : ∀ i (hi : i < u.args.length), ItemAt wr (Old V w) (g, i * 4, u.args[i])) :
 RnI V φ t (fun b => S b ∨ (u.args ≠ [] ∧ b = g)) w D (l ++ kids g 0 u.args) (l ++ kids g 0 u.args) wr := by
 obtain ⟨hS, ho⟩ := h.plcs (b, o, u) (by simp); simp only at hS ho; have hk := h.keys; rw [List.map_append, List.map_singleton, List.nodup_append] at hk; have hnot : ∀ x ∈ l, key x ≠ (b, o) := fun x hx e => hk.2.2 _ (List.mem_map.2 ⟨x, hx, rfl⟩) _ (List.mem_singleton.2 rfl) e
 have hb : b ≠ g := fun e => hgS (by rw [← e]; exact hS)
 have hg : ∀ x ∈ l, x.1 ≠ g := fun x hx e => hgS (by rw [← e]; exact (h.plcs x (List.mem_append_left _ hx)).1)
 have hkS : ∀ x ∈ kids g 0 u.args, (S x.1 ∨ (u.args ≠ [] ∧ x.1 = g)) ∧ x.2.1 % 4 = 0 := fun x hx => by
  obtain ⟨e, i, hi, rfl⟩ := kids_mem hx; exact ⟨.inr ⟨fun e => (by rw [e] at hi; simp at hi), rfl⟩, by simp⟩
 have hout : ∀ t', (b, o, t') ∉ holes φ (l ++ kids g 0 u.args) := fun t' ht => by
  obtain ⟨x, hx, e⟩ := List.mem_map.1 ht; rcases List.mem_append.1 hx with hx | hx
  ·exact hnot x hx (by simp only [Prod.mk.injEq] at e; exact Prod.ext e.1 e.2.1)
  ·obtain ⟨e', -⟩ := kids_mem hx
   simp only [Prod.mk.injEq] at e; exact hb (e.1.symm.trans e')
 refine { h with rows := fun b' hb' => ?_, root := ?_, plcs := fun x hx => ?_, keys := ?_, items := fun x hx => ?_ }
 ·rcases hb' with hb' | ⟨hn, rfl⟩
  ·exact h.rows b' hb'
  ·obtain ⟨-, g1, g2, g3⟩ := ha hn
   exact ⟨by omega, by omega, g2, g3⟩
 ·refine Rd.step (fun _ _ _ _ _ _ _ => rfl) (fun _ h => .inl h) (fun b' o' t' hs ho' hin => ?_) (fun b' o' hs hn t' ht => ?_) _ _ _ _ (Nat.le_refl _) h.root
  ·obtain ⟨x, hx, e⟩ := List.mem_map.1 hin
   rcases List.mem_append.1 hx with hx | hx
   ·exact rd_hole (.inl hs) ho' (List.mem_map.2 ⟨x, List.mem_append_left _ hx, e⟩)
   ·simp only [List.mem_singleton] at hx
    subst hx; simp only [Prod.mk.injEq] at e; obtain ⟨rfl, rfl, rfl⟩ := e; obtain ⟨k, n, s, us⟩ := u; simp only [Tm.k, Tm.n, Tm.s, Tm.args] at *; rw [renT]; unfold Rd; refine ⟨.inl hS, ho, .inr ⟨hout, a, c, x0, x1, x2, by rw [x3, renL_map]; simp, rdL_iff.2 fun i hil => ?_⟩⟩; rw [renL_map] at hil; have hil' : i < us.length := by simpa using hil
    have hnn : us ≠ [] := fun e => by rw [e] at hil'; simp at hil'
    refine ⟨g, 0, (ha hnn).1, rd_hole (.inr ⟨hnn, rfl⟩) (by omega) (List.mem_map.2 ⟨(g, (0 + i) * 4, us[i]), List.mem_append_right _ ?_, by simp [renL_map]⟩)⟩; rw [← kids_get g 0 us i hil']; exact List.getElem_mem _
  ·obtain ⟨x, hx, e⟩ := List.mem_map.1 ht
   rcases List.mem_append.1 hx with hx | hx
   ·exact hn t' (List.mem_map.2 ⟨x, List.mem_append_left _ hx, e⟩)
   ·obtain ⟨e', -⟩ := kids_mem hx
    simp only [Prod.mk.injEq] at e; exact hgS (by rw [← e', e.1]; exact hs)
 ·rcases List.mem_append.1 hx with hx | hx
  ·exact ⟨.inl (h.plcs x (List.mem_append_left _ hx)).1, (h.plcs x (List.mem_append_left _ hx)).2⟩
  ·exact hkS x hx
 ·rw [List.map_append, List.nodup_append]
  refine ⟨hk.1, kids_keys g 0 u.args, fun x hx y hy e => ?_⟩; obtain ⟨x', hx', rfl⟩ := List.mem_map.1 hx; obtain ⟨y', hy', rfl⟩ := List.mem_map.1 hy; exact hg x' hx' ((congrArg Prod.fst e).trans (kids_mem hy').1)
 ·rcases List.mem_append.1 hx with hx | hx
  ·exact ⟨.inl (h.items x hx).1, (h.items x hx).2⟩
  ·have h2 := hkS x hx
   obtain ⟨e, i, hil, rfl⟩ := kids_mem hx; refine ⟨h2.1, h2.2, ?_⟩; rw [Nat.zero_add]; exact hi i hil
def flatS (l : List Plc) : List (Tm × Int) := flatL (l.map fun x => x.2.2)
theorem flatS_app (l m : List Plc) : flatS (l ++ m) = flatS l ++ flatS m := by simp [flatS, flatL_app]
theorem flatS_kids (g : Nat) : ∀ (j : Nat) (l : List Tm), flatS (kids g j l) = flatL l
 | _, [] => rfl
 | j, t :: l => by
   have := flatS_kids g (j + 1) l; simp only [flatS, kids, List.map_cons, flatL] at this ⊢; rw [this]
theorem sumSz_kids (g : Nat) : ∀ (j : Nat) (l : List Tm), sumSz (kids g j l) = sizeL l
 | _, [] => rfl
 | j, t :: l => by simp only [kids, sumSz, sizeL, sumSz_kids g (j + 1) l]
theorem sumSz_rev : ∀ l : List Plc, sumSz l.reverse = sumSz l
 | [] => rfl
 | x :: l => by simp [sumSz, sumSz_app, sumSz_rev l]; omega
theorem Stack.same {B g cap n : Nat} {l : List Plc} {wr w' : World} (h : Stack B g cap n l wr) (hb : w'.heap[g]? = wr.heap[g]?) : Stack B g cap n l w' := by
 refine ⟨h.len, h.owns.1, ?_⟩; rcases h.owns.2 with h2 | ⟨g', cap', cur, hv, hg, hh, r⟩
 ·exact .inl h2
 ·refine .inr ⟨g', cap', cur, hv, hg, ?_, r⟩
  have e : g = g' := by simp at hv; exact hv.1
  rw [← e] at hh ⊢; exact hb.trans hh
theorem Stack.lt {B g cap n : Nat} {l : List Plc} {wr : World} (h : Stack B g cap n l wr) : g < wr.heap.size := by obtain ⟨cur, hc, -⟩ := h.blk; exact (Array.getElem?_eq_some_iff.1 hc).1
def RnRel (V : Vis) (φ : Int → Int) (t : Tm) (w : World) (k : Nat) (v5 : Value) (wr : World) : Prop :=
 ∃ (S : Nat → Prop) (D : List (Tm × Int)) (l : List Plc) (g cap n : Nat), v5 = .slice (some ⟨g, 0, none⟩) n cap ∧ Stack (w.heap.size + 2) g cap n l wr ∧ RnI V φ t S w D l l wr ∧ flatT t = D ++ flatS l.reverse ∧ ¬ V.Mine D wr g ∧ sumSz l ≤ k ∧ k ≤ t.size
theorem RnI.notS {V : Vis} {φ : Int → Int} {t : Tm} {S : Nat → Prop} {w : World} {D : List (Tm × Int)} {H l l2 : List Plc} {wr : World} {B g cap n : Nat} (h : RnI V φ t S w D H l wr) (hs : Stack B g cap n l2 wr) : ¬ S g := fun hS => by
 obtain ⟨-, -, -, cur, hc⟩ := h.rows g hS; obtain ⟨cur', hc', -⟩ := hs.blk; rw [hc] at hc'
 simp at hc'
theorem ren_start (V : Vis) (φ : Int → Int) (t : Tm) (w : World) (a : Option Addr) (cap : Nat) (h : IsTm w (Old V w) (.agg #[.int .i64 t.k, .int .i64 t.n, .string t.s, .slice a t.args.length cap]) t) (hs : V.Sig [] w) :
 RnRel V φ t w t.size (.slice (some ⟨w.heap.size + 1 + 1, 0, none⟩) 1 1) (((w.alloc (.cells #[.int .i64 t.k, .int .i64 t.n, .string t.s, .slice a t.args.length cap] 49 (0, 0))).alloc
  (.cells #[.int .i64 0, .int .i64 0, .string ⟨#[]⟩, .slice none 0 0] 49 (0, 0))).alloc (.cells #[.pointer (some ⟨w.heap.size, 0, none⟩)] 142 (0, 0))) := by
 generalize hw1 : w.alloc (.cells #[.int .i64 t.k, .int .i64 t.n, .string t.s, .slice a t.args.length cap] 49 (0, 0)) = w1; have s1 : w1.heap.size = w.heap.size + 1 := by rw [← hw1]; simp
 have b1 : Below w.heap.size w w1 := by rw [← hw1]; exact (Below.refl _ _).alloc (Nat.le_refl _) _
 have r1 : w1.heap[w.heap.size]? = some (.cells #[.int .i64 t.k, .int .i64 t.n, .string t.s, .slice a t.args.length cap] 49 (0, 0)) := by rw [← hw1]; exact heap_alloc_new _ _
 generalize hw2 : w1.alloc (.cells #[.int .i64 0, .int .i64 0, .string ⟨#[]⟩, .slice none 0 0] 49 (0, 0)) = w2; have s2 : w2.heap.size = w.heap.size + 2 := by rw [← hw2]; simp [s1]
 have b2 : Below w1.heap.size w1 w2 := by rw [← hw2]; exact (Below.refl _ _).alloc (Nat.le_refl _) _
 have r2 : w2.heap[w.heap.size + 1]? = some (.cells #[.int .i64 0, .int .i64 0, .string ⟨#[]⟩, .slice none 0 0] 49 (0, 0)) := by rw [← hw2, ← s1]; exact heap_alloc_new _ _
 generalize hw3 : w2.alloc (.cells #[.pointer (some ⟨w.heap.size, 0, none⟩)] 142 (0, 0)) = w3; have s3 : w3.heap.size = w.heap.size + 3 := by rw [← hw3]; simp [s2]
 have b3 : Below w2.heap.size w2 w3 := by rw [← hw3]; exact (Below.refl _ _).alloc (Nat.le_refl _) _
 have b03 : Below w.heap.size w w3 := b1.trans ((b2.mono (by omega)).trans (b3.mono (by omega))); have r13 : w3.heap[w.heap.size]? = some (.cells #[.int .i64 t.k, .int .i64 t.n, .string t.s, .slice a t.args.length cap] 49 (0, 0)) := (b3.block _ (by omega)).trans ((b2.block _ (by omega)).trans r1); have hv := V.below hs b03; have hlow : ∀ b, V.Mine [] w3 b → b < w.heap.size := fun b hb => V.low hs (hv.2 b hb)
 have hst : Stack (w.heap.size + 2) (w.heap.size + 1 + 1) 1 1 [(w.heap.size, 0, t)] w3 := ⟨rfl, by
  rw [← hw3, show w.heap.size + 1 + 1 = w2.heap.size by omega]; exact World.ownsRow_lit w2 _ 1 (by omega) (by decide) rfl⟩
 refine ⟨fun b => b = w.heap.size, [], [(w.heap.size, 0, t)], w.heap.size + 1 + 1, 1, 1, rfl, hst, ⟨?_, ?_, ?_, ?_, ?_, Keeps.of b03, hv.1, fun b hb => .inl (hv.2 b hb), fun hm => by have := hlow _ hm; omega, (b3.block _ (by omega)).trans r2⟩, by simp [flatS, flatL], fun hm => by have := hlow _ hm; omega, by simp [sumSz], Nat.le_refl _⟩
 ·rintro b rfl
  exact ⟨by omega, by omega, fun hm => by have := hlow _ hm; omega, _, r13⟩
 ·exact rd_hole rfl (by omega) (by simp [holes])
 ·intro x hx
  simp only [List.mem_singleton] at hx; subst hx; exact ⟨rfl, by simp⟩
 ·simp
 ·intro x hx
  simp only [List.mem_singleton] at hx; subst hx; refine ⟨rfl, by simp, a, cap, cell_of_row w3 _ _ _ _ _ r13, cell_of_row w3 _ _ _ _ _ r13, cell_of_row w3 _ _ _ _ _ r13, cell_of_row w3 _ _ _ _ _ r13, ?_⟩; obtain ⟨a', c', e, h'⟩ := h
  simp at e
  obtain ⟨rfl, rfl⟩ := e; exact ArgsFrom.imp (fun _ h => h) (fun b hb hlt => b03.block b hlt) _ _ _ h'
def Plain (w : World) (b : Nat) : Prop := ∃ cur, w.heap[b]? = some (.cells cur 49 (0, 0))
def RenPost (V : Vis) (φ : Int → Int) (t : Tm) (w : World) (e : Ending) (w' : World) : Prop :=
 ∃ v, e = .returned v ∧ IsTm w' (fun b => w.heap.size ≤ b ∧ ¬ V.Mine (flatT t) w' b ∧ Plain w' b) v (renT φ t) ∧ V.Sig (flatT t) w' ∧ Keeps w w' (V.Mine [] w) ∧ ∀ b, V.Mine (flatT t) w' b → V.Mine [] w b ∨ w.heap.size ≤ b
theorem ren_end {V : Vis} {φ : Int → Int} {t : Tm} {S : Nat → Prop} {w wr : World} {D : List (Tm × Int)} {v : Value} {cs : Array Value} (h : RnI V φ t S w D [] [] wr) (hD : flatT t = D) (it : IsTm wr S v (renT φ t)) :
 RenPost V φ t w (.returned v) (wr.setRow (w.heap.size + 1) cs) := by
 have hr1 : w.heap.size + 1 < wr.heap.size := (Array.getElem?_eq_some_iff.1 h.res).1; have hz : (wr.setRow (w.heap.size + 1) cs).heap.size = wr.heap.size := by simp
 have hv := V.keep h.sig (Nat.le_of_eq hz.symm) fun b hb hm => setRow_other _ _ _ _ fun e => h.nores (by rw [← e]; exact hm)
 refine ⟨v, rfl, ?_, by rw [hD]; exact hv.1, h.keeps.trans (M' := fun b => b = w.heap.size + 1) ⟨rfl, rfl, rfl, Nat.le_of_eq hz.symm, fun b _ hne => setRow_other _ _ _ _ hne⟩ fun b e => .inr (by rw [e]; omega), fun b hb => by rw [hD] at hb; exact h.mine b (hv.2 b hb)⟩; refine it.imp (fun b hb => ⟨(h.rows b hb).1, fun hm => ?_, by obtain ⟨-, h2, -, cur, hc⟩ := h.rows b hb; exact ⟨cur, (setRow_other _ _ _ _ h2).trans hc⟩⟩) fun b hb _ => setRow_other _ _ _ _ (h.rows b hb).2.1
 rw [hD] at hm; exact (h.rows b hb).2.2.1 (hv.2 b hm)
def RnIn (V : Vis) (φ : Int → Int) (t : Tm) (w : World) (S : Nat → Prop) (D : List (Tm × Int)) (l' : List Plc) (xa : List Tm) (g2 : Nat) (v5 v8 : Value) (wr : World) : Prop :=
 ∃ (q g cap n : Nat), q ≤ xa.length ∧ v8 = .int .i64 ((q : Int) - 1) ∧ v5 = .slice (some ⟨g, 0, none⟩) n cap ∧ Stack (w.heap.size + 2) g cap n (l' ++ ((kids g2 0 xa).drop q).reverse) wr ∧ RnI V φ t S w D (l' ++ kids g2 0 xa) (l' ++ kids g2 0 xa) wr ∧ ¬ V.Mine D wr g
theorem ren_push {V : Vis} {φ : Int → Int} {t : Tm} {w wr w5 : World} {S : Nat → Prop} {D : List (Tm × Int)} {l' : List Plc} {xa : List Tm} {g2 r g4 cp4 n4 : Nat} {v5 : Value} (hst : Stack (w.heap.size + 2) g4 cp4 n4 (l' ++ ((kids g2 0 xa).drop (r + 1)).reverse) wr)
 (hI : RnI V φ t S w D (l' ++ kids g2 0 xa) (l' ++ kids g2 0 xa) wr) (hng : ¬ V.Mine D wr g4) (hq : r + 1 ≤ xa.length)
 (hown : w5.ownsRow (w.heap.size + 2) 142 1 v5 (n4 + 1) ((l' ++ ((kids g2 0 xa).drop (r + 1)).reverse).map ptrOf ++ [.pointer (some ⟨g2, r * 4, none⟩)])) (hg : (wr.alloc (.cells #[.pointer (some ⟨g2, r * 4, none⟩)] 142 (0, 0))).grownBy w5 (Value.slice (some ⟨g4, 0, none⟩) n4 cp4).ownBlock)
 (hv : ∀ k, v5.ownBlock = some k → (Value.slice (some ⟨g4, 0, none⟩) n4 cp4).ownBlock = some k ∨ (wr.alloc (.cells #[.pointer (some ⟨g2, r * 4, none⟩)] 142 (0, 0))).heap.size ≤ k) :
 ∃ g5 cp5, v5 = .slice (some ⟨g5, 0, none⟩) (n4 + 1) cp5 ∧ RnIn V φ t w S D l' xa g2 v5 (.int .i64 ((r : Int) - 1)) w5 := by
 have hba : Below wr.heap.size wr (wr.alloc (.cells #[.pointer (some ⟨g2, r * 4, none⟩)] 142 (0, 0))) := (Below.refl _ _).alloc (Nat.le_refl _) _; have hsz : (wr.alloc (.cells #[.pointer (some ⟨g2, r * 4, none⟩)] 142 (0, 0))).heap.size = wr.heap.size + 1 := by simp
 generalize wr.alloc (.cells #[.pointer (some ⟨g2, r * 4, none⟩)] 142 (0, 0)) = u at *; have hg4 := hst.lt; have hS4 := hI.notS hst; obtain ⟨cur, -, hB4⟩ := hst.blk; have hk : Keeps wr w5 (fun b => b = g4) := ⟨hg.os.trans hba.os, hg.tape.trans hba.tape, hg.output.trans hba.output, by have := hg.size; omega, fun b hb hne => (hg.block b (by omega) fun e => hne (Option.some.inj e)).trans (hba.block b hb)⟩; have hI5 := hI.keep hk fun b _ e => by subst e; exact ⟨hS4, hng, hB4⟩
 have hv5 := V.keep hI.sig hk.size fun b hb hm => hk.block b hb fun e => hng (by rw [← e]; exact hm)
 have hxr : (kids g2 0 xa).drop r = (g2, r * 4, xa[r]) :: (kids g2 0 xa).drop (r + 1) := by
  rw [List.drop_eq_getElem_cons (by rw [kids_len]; omega), kids_get g2 0 xa r (by omega)]
  simp
 have hl : (l' ++ ((kids g2 0 xa).drop r).reverse) = (l' ++ ((kids g2 0 xa).drop (r + 1)).reverse) ++ [(g2, r * 4, xa[r])] := by rw [hxr, List.reverse_cons, List.append_assoc]
 have ho := hown; obtain ⟨-, h0 | ⟨g5, cp5, cur5, e, -⟩⟩ := hown
 ·exact absurd h0.2 (by omega)
 ·subst e
  refine ⟨g5, cp5, rfl, r, g5, cp5, n4 + 1, by omega, rfl, rfl, ⟨by rw [hl, List.length_append, hst.len]; rfl, by rw [hl, List.map_append]; exact ho⟩, hI5, fun hm => ?_⟩; have hm' := hv5.2 _ hm; rcases hv g5 rfl with h | h
  ·have : g4 = g5 := Option.some.inj (show some g4 = some g5 from h)
   exact hng (by rw [this]; exact hm')
  ·have := V.low hI.sig hm'; omega
theorem ren_seen (V : Vis) (φ : Int → Int) (x0 : Value) (t : Tm) (v : Value) (P : Nat → Prop) (w : World) (hM : t.size ≤ 1000000000) (h : IsTm w P v t) (hP : ∀ b, P b → ¬ V.Mine [] w b) (hs : V.Sig [] w)
 (hcall : ∀ (D : List (Tm × Int)) (p : Tm × Int) (rest : List (Tm × Int)) (W : World), flatT t = D ++ p :: rest → p.1.k = 1 → V.Sig D W → Calls Try.prog 51 #[x0, .int .i64 p.1.n] W fun e w' => e = .returned (.int .i64 (φ p.1.n)) ∧ V.Sig (D ++ [p]) w' ∧ Keeps W w' (V.Mine D W) ∧ ∀ b, V.Mine (D ++ [p]) w' b → V.Mine D W b ∨ W.heap.size ≤ b)
 (hskip : ∀ (D : List (Tm × Int)) (p : Tm × Int) (W : World), p.1.k ≠ 1 → V.Sig D W → V.Sig (D ++ [p]) W ∧ ∀ b, V.Mine (D ++ [p]) W b → V.Mine D W b) :
 Calls Try.prog 50 #[v, .func (.func 51) #[x0] #[]] w (RenPost V φ t w) := by
 have hl : IsTm w (Old V w) v t := h.lt.imp (fun b h => ⟨h.2, hP b h.1⟩) fun _ _ _ => rfl
 clear h hP; have HCALL := Lib.hid hcall; have HSKIP := Lib.hid hskip; clear hcall hskip; obtain ⟨a, c, rfl⟩ := hl.form; have HST := Lib.hid (ren_start V φ t w a c hl hs); clear hl hs
 go_enter Try.func50, Try.ntmps50
 go_wp2
 go_loopg [5] t.size (fun k v5 wr => RnRel V φ t w k v5 wr)
 case atStart => exact HST.out
 case round =>
  obtain ⟨S, D, l, g, cap, n, rfl, hst, hI, hfl, hng, hk, hkt⟩ := hrel; clear HST; rcases nil_or_snoc l with rfl | ⟨l', x, rfl⟩
  ·obtain rfl : n = 0 := hst.len.symm
   have hread := (rd_nil _ _ _ _ (Nat.le_refl _) hI.root).read; have hD : flatT t = D := by simpa [flatS, flatL] using hfl
   have HI := Lib.hid hI; have HD := Lib.hid hD; obtain ⟨a', c', x0, x1, x2, x3, it, hlt⟩ := hread; have IT := Lib.hid it; have HRES := Lib.hid hI.res; clear hI hD hfl it hst hng hk
   go_wp2_with (refine wpList_store_row rfl 49 (.tmp 4) (.tmp 76) rfl (w.heap.size + 1) #[.int .i64 (renT φ t).k, .int .i64 (renT φ t).n, .string (renT φ t).s, .slice a' (renT φ t).args.length c'] rfl rfl _ _ HRES.out size_term rfl (one4 _ _ _ _ _ _) ?_)
   have hz := setRow_heap wr (w.heap.size + 1) _ (#[.int .i64 (renT φ t).k, .int .i64 (renT φ t).n, .string (renT φ t).s, .slice a' (renT φ t).args.length c'] : Array Value) _ _ HRES.out; exact bodyPost_ret (v := .agg #[.int .i64 (renT φ t).k, .int .i64 (renT φ t).n, .string (renT φ t).s, .slice a' (renT φ t).args.length c']) (results_cell_row Try.results50 _ _ (w.heap.size + 1) _ _ _ _ rfl hz Try.underlying49 rfl (by kernel_rfl)) rfl (ren_end HI.out HD.out IT.out)
  ·have em : (l' ++ [x]).map ptrOf = l'.map ptrOf ++ [ptrOf x] := by simp
   obtain ⟨hn, hown⟩ := hst; obtain ⟨m, rfl⟩ : ∃ m, n = m + 1 := ⟨l'.length, by rw [← hn]; simp⟩; have hm : l'.length = m := by simpa using hn
   rw [em] at hown; have hgl : w.heap.size + 2 ≤ g ∧ g < wr.heap.size := hown.lt g rfl; obtain ⟨hown', hcell, hcap, -⟩ := owns_pop hown; have hstk : Stack (w.heap.size + 2) g cap m l' wr := ⟨hm, hown'⟩; obtain ⟨hSx, hox, ba, bc, x0, x1, x2, x3, hA⟩ := hI.items x (by simp); have hsum : sumSz l' + x.2.2.size ≤ gk := by have := sumSz_app l' [x]; simp only [sumSz] at this; omega
   have hkeys : ∀ y ∈ l', key y ≠ key x := fun y hy e => by
    have hk := hI.keys; rw [List.map_append, List.map_singleton, List.nodup_append] at hk; exact hk.2.2 _ (List.mem_map.2 ⟨y, hy, rfl⟩) _ (List.mem_singleton.2 rfl) e
   have hflx : flatT t = D ++ (x.2.2, 0) :: (flatL x.2.2.args ++ flatS l'.reverse) := by
    rw [hfl, List.reverse_append, List.reverse_singleton, List.singleton_append]; show D ++ (flatT x.2.2 ++ _) = _; rw [flatT_eq]
    simp [flatS]
   have hmid := hI.sub (l1 := l') (fun y hy => by simp [hy]); obtain ⟨xb, xo, u⟩ := x; dsimp only [key] at hcell hSx hox x0 x1 x2 x3 hA hsum hkeys hflx; obtain ⟨hSB, hS1, -, cur, hcur⟩ := hI.rows xb hSx; have hlt : xb < wr.heap.size := (Array.getElem?_eq_some_iff.1 hcur).1; have hmb : m + 1 ≤ 1000000000 := by have := len_sumSz l'; have := size_pos u; omega
   have hxl : u.args.length ≤ 1000000000 := by have := len_le u.args; have : sizeL u.args + 1 = u.size := (by obtain ⟨k1, n1, s1, a1⟩ := u; simp [Tm.size, Tm.args]); omega
   have hgk : 0 < gk := by have := size_pos u; omega
   have HSUM := Lib.hid hsum; have HFL := Lib.hid hflx; have HKEY := Lib.hid hkeys; have HSX := Lib.hid hSx; have HNG0 := Lib.hid hng; have HMID := Lib.hid hmid; have HSTK := Lib.hid hstk; have HCUR0 := Lib.hid hcur; have HA0 := Lib.hid hA; clear hI hown hown' em hn hm hstk hsum hkeys hflx hmid hSx hcur hA hfl hng hk
   by_cases hk1 : u.k = 1
   ·have hq1 : (u.k == 1) = true := by simpa using hk1
    have hfz1 : wr.frozen? ⟨xb, xo + 1, none⟩ = false := frozen_of_row wr xb (xo + 1) cur _ HCUR0.out
    go_wp2_with fail
    refine (HCALL.out D (u, 0) _ _ HFL.out hk1 HMID.out.sig).mono ?_; rintro e2 w2 ⟨rfl, hs2, hk2, hm2⟩; have hI2 := HMID.out.called hs2 hk2 hm2; have hb2 : w2.heap[xb]? = wr.heap[xb]? := hk2.block xb hlt (HMID.out.rows xb HSX.out).2.2.1; have hcur2 : w2.heap[xb]? = some (.cells cur 49 (0, 0)) := hb2.trans HCUR0.out; have hc2 : ∀ o, w2.cell? ⟨xb, o, none⟩ = wr.cell? ⟨xb, o, none⟩ := fun o => World.cell?_of_block hb2
    replace x0 := (hc2 _).trans x0; replace x1 := (hc2 _).trans x1; replace x2 := (hc2 _).trans x2; replace x3 := (hc2 _).trans x3
    have hng2 : ¬ V.Mine (D ++ [(u, 0)]) w2 g := fun h => by
     rcases hm2 g h with h | h
     ·exact HNG0.out h
     ·omega
    have hst2 := HSTK.out.same (hk2.block g hgl.2 HNG0.out); have hA2 : ArgsFrom w2 (Old V w) ba 0 u.args := ArgsFrom.imp (fun _ h => h) (fun b hb hl => hk2.block b hl (HMID.out.old hb)) _ _ _ HA0.out; replace hfz1 : w2.frozen? ⟨xb, xo + 1, none⟩ = false := frozen_of_row w2 xb (xo + 1) cur _ hcur2; have hI3 := hI2.write (q := 1) (b := xb) (o := xo) (u := u) (by simp) HKEY.out (by omega) (.int .i64 (φ u.n)); have hst3 := hst2.other (b := xb) (q := xo + 1) ⟨cur, hcur2⟩ (.int .i64 (φ u.n)); have hblk3 : ∀ b, b ≠ xb → (w2.setCell ⟨xb, xo + 1, none⟩ (.int .i64 (φ u.n))).heap[b]? = w2.heap[b]? := fun b hne => Below.heap_setCell _ _ _ _ hne
    have hv3 := V.keep hI2.sig (W' := w2.setCell ⟨xb, xo + 1, none⟩ (.int .i64 (φ u.n))) (by simp [World.setCell]) fun b hb hm => hblk3 b fun e => (hI2.rows xb HSX.out).2.2.1 (by rw [← e]; exact hm)
    have hng3 : ¬ V.Mine (D ++ [(u, 0)]) (w2.setCell ⟨xb, xo + 1, none⟩ (.int .i64 (φ u.n))) g := fun h => hng2 (hv3.2 _ h)
    have hA3 : ArgsFrom (w2.setCell ⟨xb, xo + 1, none⟩ (.int .i64 (φ u.n))) (Old V w) ba 0 u.args := ArgsFrom.imp (fun _ h => h) (fun b hb hl => hblk3 b fun e => by have := hb.1; omega) _ _ _ hA2; have hx1 : (w2.setCell ⟨xb, xo + 1, none⟩ (.int .i64 (φ u.n))).cell? ⟨xb, xo + 1, none⟩ = some (.int .i64 (if u.k = 1 then φ u.n else u.n)) := by rw [if_pos hk1]; exact cell_setCell_eq x1
    have hx0 : (w2.setCell ⟨xb, xo + 1, none⟩ (.int .i64 (φ u.n))).cell? ⟨xb, xo, none⟩ = some (.int .i64 u.k) := (cell_setCell_ne (by omega)).trans x0; have hx2 : (w2.setCell ⟨xb, xo + 1, none⟩ (.int .i64 (φ u.n))).cell? ⟨xb, xo + 2, none⟩ = some (.string u.s) := (cell_setCell_ne (by omega)).trans x2; have hx3 : (w2.setCell ⟨xb, xo + 1, none⟩ (.int .i64 (φ u.n))).cell? ⟨xb, xo + 3, none⟩ = some (.slice ba u.args.length bc) := (cell_setCell_ne (by omega)).trans x3; have hcur3 : ∃ cur, (w2.setCell ⟨xb, xo + 1, none⟩ (.int .i64 (φ u.n))).heap[xb]? = some (.cells cur 49 (0, 0)) := ⟨_, heap_setCell_same w2 xb (xo + 1) cur _ _ hcur2⟩; have HI := Lib.hid hI3; have HST := Lib.hid hst3; have HNG := Lib.hid hng3; have HA := Lib.hid hA3; have HX0 := Lib.hid hx0; have HX1 := Lib.hid hx1; have HX2 := Lib.hid hx2; have HX3 := Lib.hid hx3; have HCUR := Lib.hid hcur3; have HLT := Lib.hid (show xb < (w2.setCell ⟨xb, xo + 1, none⟩ (.int .i64 (φ u.n))).heap.size by obtain ⟨cur, hc⟩ := hcur3; exact (Array.getElem?_eq_some_iff.1 hc).1); clear hs2 hk2 hm2 hI2 hb2 hcur2 hc2 hng2 hst2 hA2 hI3 hst3 hblk3 hv3 hng3 hA3 hx0 hx1 hx2 hx3 hcur3 x0 x2 x3 hcell HMID HSTK HCUR0 HA0 HNG0 hlt
    by_cases hz : u.args.length = 0
    ·have hz0 := hz
     have hz1 : ((u.args.length : Int) == 0) = true := by rw [beq_iff_eq]; omega
     have x0 := HX0.out; have x1w := HX1.out; have x2 := HX2.out; have x3 := HX3.out; have hlt := HLT.out; have hfz : (w2.setCell ⟨xb, xo + 1, none⟩ (.int .i64 (φ u.n))).frozen? ⟨xb, xo + 3, none⟩ = false := by obtain ⟨cur, hc⟩ := HCUR.out; exact frozen_of_row _ xb (xo + 3) cur _ hc
     rw [hz0] at x3; have hturn := HI.out.write (q := 3) (b := xb) (o := xo) (u := u) (by simp) HKEY.out (by omega) (.slice none 0 0); have hw0 : ((w2.setCell ⟨xb, xo + 1, none⟩ (.int .i64 (φ u.n))).setCell ⟨xb, xo + 3, none⟩ (.slice none 0 0)).cell? ⟨xb, xo, none⟩ = some (.int .i64 u.k) := (cell_setCell_ne (by omega)).trans x0; have hw1 : ((w2.setCell ⟨xb, xo + 1, none⟩ (.int .i64 (φ u.n))).setCell ⟨xb, xo + 3, none⟩ (.slice none 0 0)).cell? ⟨xb, xo + 1, none⟩ = some (.int .i64 (if u.k = 1 then φ u.n else u.n)) := (cell_setCell_ne (by omega)).trans HX1.out; have hw2 : ((w2.setCell ⟨xb, xo + 1, none⟩ (.int .i64 (φ u.n))).setCell ⟨xb, xo + 3, none⟩ (.slice none 0 0)).cell? ⟨xb, xo + 2, none⟩ = some (.string u.s) := (cell_setCell_ne (by omega)).trans x2; have hw3 : ((w2.setCell ⟨xb, xo + 1, none⟩ (.int .i64 (φ u.n))).setCell ⟨xb, xo + 3, none⟩ (.slice none 0 0)).cell? ⟨xb, xo + 3, none⟩ = some (.slice none u.args.length 0) := by rw [hz0]; exact cell_setCell_eq x3
     have hgS : ¬ S ((w2.setCell ⟨xb, xo + 1, none⟩ (.int .i64 (φ u.n))).heap.size) := fun h => by have := HI.out.lt h; omega
     have hclose := hturn.close (g := (w2.setCell ⟨xb, xo + 1, none⟩ (.int .i64 (φ u.n))).heap.size) hw0 hw1 hw2 hw3 (fun hn => absurd (List.eq_nil_of_length_eq_zero hz0) hn) hgS (fun i hi => absurd hi (by omega)); have hst4 := HST.out.other (b := xb) (q := xo + 3) HCUR.out (.slice none 0 0); have hv4 := V.keep HI.out.sig (W' := (w2.setCell ⟨xb, xo + 1, none⟩ (.int .i64 (φ u.n))).setCell ⟨xb, xo + 3, none⟩ (.slice none 0 0)) (by simp [World.setCell]) fun b hb hm => Below.heap_setCell _ _ _ _ fun e => absurd hm (by rw [show b = xb from e]; exact (HI.out.rows xb HSX.out).2.2.1)
     have hng4 : ¬ V.Mine (D ++ [(u, 0)]) ((w2.setCell ⟨xb, xo + 1, none⟩ (.int .i64 (φ u.n))).setCell ⟨xb, xo + 3, none⟩ (.slice none 0 0)) g := fun hm => HNG.out (hv4.2 _ hm)
     have hk : kids (w2.setCell ⟨xb, xo + 1, none⟩ (.int .i64 (φ u.n))).heap.size 0 u.args = [] := by rw [List.eq_nil_of_length_eq_zero hz0]; rfl
     rw [hk, List.append_nil] at hclose; have HC := Lib.hid hclose; have HST4 := Lib.hid hst4; have HNG4 := Lib.hid hng4; clear hturn hw0 hw1 hw2 hw3 hgS hclose hst4 hv4 hng4 hk; go_wp2
     go_roundg (gk - 1)
     case measure => omega
     case rel => exact ⟨_, D ++ [(u, 0)], l', g, cap, m, rfl, HST4.out, HC.out, by rw [HFL.out, List.eq_nil_of_length_eq_zero hz0]; simp [flatL], HNG4.out, by have := HSUM.out; have := size_pos u; omega, by omega⟩
    ·have hz' : ((u.args.length : Int) == 0) = false := by rw [beq_eq_false_iff_ne]; omega
     have x3w := HX3.out
     go_wp2_with (first
      | (at_make
         clear x3w; obtain ⟨w3, hw3⟩ : ∃ w3, w3 = w2.setCell ⟨xb, xo + 1, none⟩ (.int .i64 (φ u.n)) := ⟨_, rfl⟩; rw [← hw3] at HI HST HNG HA HX0 HX1 HX2 HX3 HCUR HLT ⊢; clear hw3 x1 hfz1; have x0 := HX0.out; have x1 := HX1.out; have x2 := HX2.out; have x3 := HX3.out; have hlt := HLT.out; have hfz : w3.frozen? ⟨xb, xo + 3, none⟩ = false := by obtain ⟨cur, hc⟩ := HCUR.out; exact frozen_of_row _ xb (xo + 3) cur _ hc
         clear HX3 HLT; obtain ⟨bb, oo, rfl⟩ : ∃ bb oo, ba = some ⟨bb, oo, none⟩ := by obtain ⟨b, o, e, -⟩ := argsFrom_at HA.out 0 (Nat.pos_of_ne_zero hz); exact ⟨b, o, e⟩
         obtain ⟨i0, hi, hz0, hz1, hz2⟩ := info_parts info_term
         have hat : ∀ i (hi : i < u.args.length), Old V w bb ∧ TmAt w3 (Old V w) bb (oo + i * 4) u.args[i] := fun i hi => by
          obtain ⟨b, o, e, hp, ht⟩ := argsFrom_at HA.out i hi; simp only [Option.some.injEq, Addr.mk.injEq, and_true] at e; obtain ⟨rfl, rfl⟩ := e; exact ⟨hp, ht⟩
         have HAT := Lib.hid hat; clear hat; refine wpList_make_full _ rfl (.tmp 51) (.tmp 51) 47 rfl w3.heap.size 49 i0 _ 4 Try.underlying47 hi hz0 hz1 .i64 .i64 _ _ u.args.length rfl rfl rfl rfl (by rw [hz2]; omega) (by unfold maxLen; omega) (Nat.le_refl _) ?_; intro wA hown1 hgrow1; obtain ⟨row, hrow, hrs⟩ := own_row hown1; have hb1 : Below w3.heap.size w3 wA := (Below.refl _ _).grown hgrow1 (Nat.le_refl _) (by simp); have hl1 : w3.heap.size < wA.heap.size := (Array.getElem?_eq_some_iff.1 hrow).1; have X3 := Lib.hid x3; have x3 : wA.cell? ⟨xb, xo + 3, none⟩ = some (.slice (some ⟨bb, oo, none⟩) u.args.length bc) := (hb1.cell (p := ⟨xb, xo + 3, none⟩) hlt).trans x3; have HAT1 : Hid (∀ i (hi : i < u.args.length), TmAt wA (Old V w) bb (oo + i * 4) u.args[i]) := Lib.hid fun i hi => (HAT.out i hi).2.imp (fun _ h => h) (fun b _ h => hb1.block b h) _ _ _ (HAT.out i hi).1
         obtain ⟨cs, hcl, hcc, hc1⟩ := row_cells HAT1.out; have HROW := Lib.hid hrow; have HRS := Lib.hid hrs; have HB1 := Lib.hid hb1; have HCL := Lib.hid hcl; have HCC := Lib.hid hcc; have HC1 := Lib.hid hc1; clear hrow hrs hb1 hown1 hgrow1 hcl hcc hc1)
      | (with_reducible show wpList _ _ _ (⟨some 58, _, _, _, _, _⟩ :: _) _ _; go_loud (refine wpList_copy_all (o := ⟨some 58, _, _, _, _, _⟩) rfl (.tmp 53) (.tmp 57) 47 47 rfl 49 4 u.args.length w3.heap.size _ _ ⟨bb, oo, none⟩ Try.underlying47 size_term rfl rfl _ _ cs HROW.out HCL.out HRS.out (fun j v h => by rw [Addr.add_lit]; exact HCC.out j v h) HC1.out ?_)
         have hg2 := setRow_heap wA w3.heap.size _ cs.toArray _ _ HROW.out; have hb2 : Below w3.heap.size w3 (wA.setRow w3.heap.size cs.toArray) := below_setRow HB1.out (Nat.le_refl _) _; have HAT2 := Lib.hid (copied (P' := Old V w) HAT1.out HCL.out HCC.out hg2 (fun b h => h) (fun b h hb => setRow_other _ _ _ _ (by have := h.1; have := HI.out.keeps.size; omega))); have hI2 := HI.out.keep (Keeps.of hb2 (M := fun _ => False)) fun _ _ hm => hm.elim
         have hst2 := HST.out.keep hb2; have hv2 := V.below HI.out.sig hb2; have hng2 : ¬ V.Mine (D ++ [(u, 0)]) (wA.setRow w3.heap.size cs.toArray) g := fun hm => HNG.out (hv2.2 _ hm)
         have hn2 : ¬ V.Mine (D ++ [(u, 0)]) (wA.setRow w3.heap.size cs.toArray) w3.heap.size := fun hm => by have := V.low HI.out.sig (hv2.2 _ hm); omega
         have hgS : ¬ S w3.heap.size := fun h => by have := HI.out.lt h; omega
         have hcur2 : ∃ cur, (wA.setRow w3.heap.size cs.toArray).heap[xb]? = some (.cells cur 49 (0, 0)) := by obtain ⟨cur, hc⟩ := HCUR.out; exact ⟨cur, (hb2.block _ hlt).trans hc⟩
         have x32 : (wA.setRow w3.heap.size cs.toArray).cell? ⟨xb, xo + 3, none⟩ = some (.slice (some ⟨bb, oo, none⟩) u.args.length bc) := (hb2.cell (p := ⟨xb, xo + 3, none⟩) hlt).trans X3.out; have y0 : (wA.setRow w3.heap.size cs.toArray).cell? ⟨xb, xo, none⟩ = some (.int .i64 u.k) := (hb2.cell (p := ⟨xb, xo, none⟩) hlt).trans HX0.out; have y1 : (wA.setRow w3.heap.size cs.toArray).cell? ⟨xb, xo + 1, none⟩ = some (.int .i64 (if u.k = 1 then φ u.n else u.n)) := (hb2.cell (p := ⟨xb, xo + 1, none⟩) hlt).trans HX1.out; have y2 : (wA.setRow w3.heap.size cs.toArray).cell? ⟨xb, xo + 2, none⟩ = some (.string u.s) := (hb2.cell (p := ⟨xb, xo + 2, none⟩) hlt).trans HX2.out; have hfz2 : (wA.setRow w3.heap.size cs.toArray).frozen? ⟨xb, xo + 3, none⟩ = false := by obtain ⟨cur, hc⟩ := hcur2; exact frozen_of_row _ xb (xo + 3) cur _ hc
         have hsz2 : w3.heap.size + 1 ≤ (wA.setRow w3.heap.size cs.toArray).heap.size := by simp; omega
         clear x3 hl1; generalize wA.setRow w3.heap.size cs.toArray = wB at *; have HI2 := Lib.hid hI2; have HST2 := Lib.hid hst2; have HCUR2 := Lib.hid hcur2; have HG2 := Lib.hid hg2; have HN2 := Lib.hid hn2; have HNG2 := Lib.hid hng2; have HGS := Lib.hid hgS; have Y0 := Lib.hid y0; have Y1 := Lib.hid y1; have Y2 := Lib.hid y2; have HV2 := Lib.hid hv2.1; clear hI2 hst2 hcur2 hg2 hb2 hn2 hng2 hgS y0 y1 y2 hv2 hfz x0 x1 x2))
     have hI3 := HI2.out.write (q := 3) (b := xb) (o := xo) (u := u) (by simp) HKEY.out (by omega) (.slice (some ⟨w3.heap.size, 0, none⟩) u.args.length u.args.length); have hxg : xb ≠ w3.heap.size := by omega
     have hst3 := HST2.out.other (b := xb) (q := xo + 3) HCUR2.out (.slice (some ⟨w3.heap.size, 0, none⟩) u.args.length u.args.length); have hblk3 : ∀ b, b ≠ xb → (wB.setCell ⟨xb, xo + 3, none⟩ (.slice (some ⟨w3.heap.size, 0, none⟩) u.args.length u.args.length)).heap[b]? = wB.heap[b]? := fun b hne => Below.heap_setCell _ _ _ _ hne
     have hv3 := V.keep HV2.out (W' := wB.setCell ⟨xb, xo + 3, none⟩ (.slice (some ⟨w3.heap.size, 0, none⟩) u.args.length u.args.length)) (by simp [World.setCell]) fun b hb hm => hblk3 b fun e => (HI2.out.rows xb HSX.out).2.2.1 (by rw [← e]; exact hm)
     have hsz3 : w3.heap.size + 1 ≤ (wB.setCell ⟨xb, xo + 3, none⟩ (.slice (some ⟨w3.heap.size, 0, none⟩) u.args.length u.args.length)).heap.size := by simp [World.setCell]; omega
     have hlow : w.heap.size + 2 ≤ w3.heap.size := by have h1 := (Array.getElem?_eq_some_iff.1 HI.out.res).1; omega
     have hclose := hI3.close (g := w3.heap.size) (a := some ⟨w3.heap.size, 0, none⟩) (c := u.args.length) ((cell_setCell_ne (by omega)).trans Y0.out) ((cell_setCell_ne (by omega)).trans Y1.out) ((cell_setCell_ne (by omega)).trans Y2.out) (cell_setCell_eq x32)
      (fun _ => ⟨rfl, hlow, fun hm => HN2.out (hv3.2 _ hm), _, (hblk3 _ (fun e => hxg e.symm)).trans HG2.out⟩) HGS.out (fun i hi => by
        obtain ⟨aa, cc, z0, z1, z2, z3, z4, z5⟩ := (HAT2.out i hi).read; have hcx : ∀ o v, wB.cell? ⟨w3.heap.size, o, none⟩ = some v → (wB.setCell ⟨xb, xo + 3, none⟩ (.slice (some ⟨w3.heap.size, 0, none⟩) u.args.length u.args.length)).cell? ⟨w3.heap.size, o, none⟩ = some v := fun o v h => (cell_setCell_ne (fun e => hxg e.1.symm)).trans h
        obtain ⟨a', c', e', h'⟩ := z4
        simp at e'
        obtain ⟨rfl, rfl⟩ := e'; exact ⟨aa, cc, hcx _ _ z0, hcx _ _ z1, hcx _ _ z2, hcx _ _ z3, ArgsFrom.imp (fun _ h => h) (fun b hb _ => hblk3 b fun e => by have := hb.1; have := (HI2.out.rows xb HSX.out).1; omega) _ _ _ h'⟩)
     have hin3 : RnIn V φ t w (fun b => S b ∨ (u.args ≠ [] ∧ b = w3.heap.size)) (D ++ [(u, 0)]) l' u.args w3.heap.size (.slice (some ⟨g, 0, none⟩) m cap) (.int .i64 ((u.args.length : Int) - 1)) (wB.setCell ⟨xb, xo + 3, none⟩ (.slice (some ⟨w3.heap.size, 0, none⟩) u.args.length u.args.length)) :=
      ⟨u.args.length, g, cap, m, Nat.le_refl _, rfl, rfl, by rw [List.drop_of_length_le (by rw [kids_len]; exact Nat.le_refl _)]; simpa using hst3, hclose, fun hm => HNG2.out (hv3.2 _ hm)⟩
     have HIN := Lib.hid hin3; clear hI3 hst3 hblk3 hv3 hclose hin3 x32 hfz2 hz X3 hxg; generalize wB.setCell ⟨xb, xo + 3, none⟩ (.slice (some ⟨w3.heap.size, 0, none⟩) u.args.length u.args.length) = wC at *; clear HAT HAT1 HROW HRS HB1 HCL HCC HC1 HAT2 HI2 HST2 HCUR2 HG2 HN2 HNG2 HGS Y0 Y1 Y2 HV2 HI HST HNG HA HX0 HX1 HX2 hi hz0 hz1 hz2; generalize hg2e : w3.heap.size = g2 at *; have HG2E := Lib.hid hg2e; clear hg2e
     go_loopw [5, 8] (fun v5 v8 w4 => RnIn V φ t w (fun b => S b ∨ (u.args ≠ [] ∧ b = g2)) (D ++ [(u, 0)]) l' u.args g2 v5 v8 w4) (fun _ c _ => (intOf c + 1).toNat)
     case atStart => exact HIN.out
     case round =>
      obtain ⟨q, g4, cp4, n4, hq, rfl, rfl, hst4, hI4, hng4⟩ := hrel; clear HIN; have HST4 := Lib.hid hst4; have HI4 := Lib.hid hI4; have HNG4 := Lib.hid hng4; clear hst4 hI4 hng4; rcases q with _ | r
      ·go_wp2
       go_roundg (gk - 1)
       case measure => omega
       case rel =>
        have hs := HST4.out; rw [List.drop_zero] at hs; have hp : (l' ++ kids g2 0 u.args).Perm (l' ++ (kids g2 0 u.args).reverse) := List.Perm.append_left _ (List.reverse_perm _).symm; refine ⟨_, D ++ [(u, 0)], l' ++ (kids g2 0 u.args).reverse, g4, cp4, n4, rfl, hs, HI4.out.perm hp (fun x hx => hp.mem_iff.2 hx), ?_, HNG4.out, ?_, by omega⟩
        ·rw [HFL.out, List.reverse_append, List.reverse_reverse, flatS_app, flatS_kids]
         simp
        ·rw [sumSz_app, sumSz_rev, sumSz_kids]
         have h1 := HSUM.out; have h2 : sizeL u.args + 1 = u.size := by obtain ⟨k1, n1, s1, a1⟩ := u; simp [Tm.size, Tm.args]
         omega
      ·have e8 : (((r + 1 : Nat) : Int) - 1) = r := by omega
       rw [e8]; clear e8; have hri : (r : Int) < (u.args.length : Int) := by omega
       have hnn : n4 ≤ 1000000000 := by
        have h0 := HST4.out.len; have h1 := len_sumSz l'; have h2 := len_le u.args; have h3 := HSUM.out; have h4 : t.size ≤ 1000000000 := hM; have h5 : sizeL u.args + 1 = u.size := by obtain ⟨k1, n1, s1, a1⟩ := u; simp [Tm.size, Tm.args]
        simp [kids_len] at h0
        omega
       obtain ⟨i1, hi1, hw0, hw1, hw2⟩ := info_parts info_ptr; have hbase : w.heap.size + 2 ≤ wr.heap.size := by have h1 := (Array.getElem?_eq_some_iff.1 HI4.out.res).1; omega
       go_wp2_with (
        (with_reducible show wpList _ _ _ (⟨some 75, _, _, _, _, _⟩ :: _) _ _
         have hba : Below wr.heap.size wr (wr.alloc (.cells #[.pointer (some ⟨g2, r * 4, none⟩)] 142 (0, 0))) := (Below.refl _ _).alloc (Nat.le_refl _) _; have hsz : (wr.alloc (.cells #[.pointer (some ⟨g2, r * 4, none⟩)] 142 (0, 0))).heap.size = wr.heap.size + 1 := by simp
         refine Push.wpList_push rfl (.tmp 70) (.tmp 74) _ rfl (w.heap.size + 2) 142 i1 (.pointer none) 1 8 Try.underlying143 hi1 hw0 hw1 hw2 rfl (by decide) _ n4 _ rfl (HST4.out.keep hba).owns ⟨wr.heap.size, 0, none⟩ 1 [.pointer (some ⟨g2, r * 4, none⟩)] rfl rfl (one_news wr _ _) (by simp [Value.oneCell']) (by unfold maxLen; omega) (by omega) (by omega) ?_; intro v5 w5 hown5 hgr5 hv5; obtain ⟨g5, cp5, e5, hfin⟩ : ∃ g5 cp5, v5 = .slice (some ⟨g5, 0, none⟩) (n4 + 1) cp5 ∧ RnIn V φ t w (fun b => S b ∨ (u.args ≠ [] ∧ b = g2)) (D ++ [(u, 0)]) l' u.args g2 v5 (.int .i64 ((r : Int) - 1)) w5 := ren_push HST4.out HI4.out HNG4.out hq hown5 hgr5 hv5; subst e5; have HFIN := Lib.hid hfin; clear hfin hown5 hgr5 hv5 hba hsz))
       go_roundw
       case rel => exact HFIN.out
       case measure => simp [intOf]
   ·have hq1 : (u.k == 1) = false := by simpa using hk1
    have HI := Lib.hid (HMID.out.skipped (HSKIP.out D (u, 0) wr hk1 HMID.out.sig)); have HST := Lib.hid HSTK.out; have HNG : Hid (¬ V.Mine (D ++ [(u, 0)]) wr g) := Lib.hid fun h => HNG0.out ((HSKIP.out D (u, 0) wr hk1 HMID.out.sig).2 _ h)
    have HA := Lib.hid HA0.out; have HX0 := Lib.hid x0; have HX1 : Hid (wr.cell? ⟨xb, xo + 1, none⟩ = some (.int .i64 (if u.k = 1 then φ u.n else u.n))) := Lib.hid (by rw [if_neg hk1]; exact x1); have HX2 := Lib.hid x2; have HCUR : Hid (∃ cur, wr.heap[xb]? = some (.cells cur 49 (0, 0))) := Lib.hid ⟨cur, HCUR0.out⟩; have hfz : wr.frozen? ⟨xb, xo + 3, none⟩ = false := frozen_of_row wr xb (xo + 3) cur _ HCUR0.out; clear HMID HSTK HCUR0 HA0 HNG0
    by_cases hz : u.args.length = 0
    ·have hz0 := hz
     have hz1 : ((u.args.length : Int) == 0) = true := by rw [beq_iff_eq]; omega
     rw [hz0] at x3; have hturn := HI.out.write (q := 3) (b := xb) (o := xo) (u := u) (by simp) HKEY.out (by omega) (.slice none 0 0); have hw0 : (wr.setCell ⟨xb, xo + 3, none⟩ (.slice none 0 0)).cell? ⟨xb, xo, none⟩ = some (.int .i64 u.k) := (cell_setCell_ne (by omega)).trans x0; have hw1 : (wr.setCell ⟨xb, xo + 3, none⟩ (.slice none 0 0)).cell? ⟨xb, xo + 1, none⟩ = some (.int .i64 (if u.k = 1 then φ u.n else u.n)) := (cell_setCell_ne (by omega)).trans HX1.out; have hw2 : (wr.setCell ⟨xb, xo + 3, none⟩ (.slice none 0 0)).cell? ⟨xb, xo + 2, none⟩ = some (.string u.s) := (cell_setCell_ne (by omega)).trans x2; have hw3 : (wr.setCell ⟨xb, xo + 3, none⟩ (.slice none 0 0)).cell? ⟨xb, xo + 3, none⟩ = some (.slice none u.args.length 0) := by rw [hz0]; exact cell_setCell_eq x3
     have hgS : ¬ S (wr.heap.size) := fun h => by have := HI.out.lt h; omega
     have hclose := hturn.close (g := wr.heap.size) hw0 hw1 hw2 hw3 (fun hn => absurd (List.eq_nil_of_length_eq_zero hz0) hn) hgS (fun i hi => absurd hi (by omega)); have hst4 := HST.out.other (b := xb) (q := xo + 3) HCUR.out (.slice none 0 0); have hv4 := V.keep HI.out.sig (W' := wr.setCell ⟨xb, xo + 3, none⟩ (.slice none 0 0)) (by simp [World.setCell]) fun b hb hm => Below.heap_setCell _ _ _ _ fun e => absurd hm (by rw [show b = xb from e]; exact (HI.out.rows xb HSX.out).2.2.1)
     have hng4 : ¬ V.Mine (D ++ [(u, 0)]) (wr.setCell ⟨xb, xo + 3, none⟩ (.slice none 0 0)) g := fun hm => HNG.out (hv4.2 _ hm)
     have hk : kids wr.heap.size 0 u.args = [] := by rw [List.eq_nil_of_length_eq_zero hz0]; rfl
     rw [hk, List.append_nil] at hclose; have HC := Lib.hid hclose; have HST4 := Lib.hid hst4; have HNG4 := Lib.hid hng4; clear hturn hw0 hw1 hw2 hw3 hgS hclose hst4 hv4 hng4 hk; go_wp2
     go_roundg (gk - 1)
     case measure => omega
     case rel => exact ⟨_, D ++ [(u, 0)], l', g, cap, m, rfl, HST4.out, HC.out, by rw [HFL.out, List.eq_nil_of_length_eq_zero hz0]; simp [flatL], HNG4.out, by have := HSUM.out; have := size_pos u; omega, by omega⟩
    ·obtain ⟨bb, oo, rfl⟩ : ∃ bb oo, ba = some ⟨bb, oo, none⟩ := by obtain ⟨b, o, e, -⟩ := argsFrom_at HA.out 0 (Nat.pos_of_ne_zero hz); exact ⟨b, o, e⟩
     obtain ⟨i0, hi, hz0, hz1, hz2⟩ := info_parts info_term
     have hat : ∀ i (hi : i < u.args.length), Old V w bb ∧ TmAt wr (Old V w) bb (oo + i * 4) u.args[i] := fun i hi => by
      obtain ⟨b, o, e, hp, ht⟩ := argsFrom_at HA.out i hi; simp only [Option.some.injEq, Addr.mk.injEq, and_true] at e; obtain ⟨rfl, rfl⟩ := e; exact ⟨hp, ht⟩
     have HAT := Lib.hid hat; clear hat; have hz' : ((u.args.length : Int) == 0) = false := by rw [beq_eq_false_iff_ne]; omega
     go_wp2_with (first
      | (at_make; refine wpList_make_full _ rfl (.tmp 51) (.tmp 51) 47 rfl wr.heap.size 49 i0 _ 4 Try.underlying47 hi hz0 hz1 .i64 .i64 _ _ u.args.length rfl rfl rfl rfl (by rw [hz2]; omega) (by unfold maxLen; omega) (Nat.le_refl _) ?_
         intro wA hown1 hgrow1; obtain ⟨row, hrow, hrs⟩ := own_row hown1; have hb1 : Below wr.heap.size wr wA := (Below.refl _ _).grown hgrow1 (Nat.le_refl _) (by simp); have hl1 : wr.heap.size < wA.heap.size := (Array.getElem?_eq_some_iff.1 hrow).1; have X3 := Lib.hid x3; have x3 : wA.cell? ⟨xb, xo + 3, none⟩ = some (.slice (some ⟨bb, oo, none⟩) u.args.length bc) := (hb1.cell (p := ⟨xb, xo + 3, none⟩) hlt).trans x3; have HAT1 : Hid (∀ i (hi : i < u.args.length), TmAt wA (Old V w) bb (oo + i * 4) u.args[i]) := Lib.hid fun i hi => (HAT.out i hi).2.imp (fun _ h => h) (fun b _ h => hb1.block b h) _ _ _ (HAT.out i hi).1
         obtain ⟨cs, hcl, hcc, hc1⟩ := row_cells HAT1.out; have HROW := Lib.hid hrow; have HRS := Lib.hid hrs; have HB1 := Lib.hid hb1; have HCL := Lib.hid hcl; have HCC := Lib.hid hcc; have HC1 := Lib.hid hc1; clear hrow hrs hb1 hown1 hgrow1 hcl hcc hc1)
      | (with_reducible show wpList _ _ _ (⟨some 58, _, _, _, _, _⟩ :: _) _ _; go_loud (refine wpList_copy_all (o := ⟨some 58, _, _, _, _, _⟩) rfl (.tmp 53) (.tmp 57) 47 47 rfl 49 4 u.args.length wr.heap.size _ _ ⟨bb, oo, none⟩ Try.underlying47 size_term rfl rfl _ _ cs HROW.out HCL.out HRS.out (fun j v h => by rw [Addr.add_lit]; exact HCC.out j v h) HC1.out ?_)
         have hg2 := setRow_heap wA wr.heap.size _ cs.toArray _ _ HROW.out; have hb2 : Below wr.heap.size wr (wA.setRow wr.heap.size cs.toArray) := below_setRow HB1.out (Nat.le_refl _) _; have HAT2 := Lib.hid (copied (P' := Old V w) HAT1.out HCL.out HCC.out hg2 (fun b h => h) (fun b h hb => setRow_other _ _ _ _ (by have := h.1; have := HI.out.keeps.size; omega))); have hI2 := HI.out.keep (Keeps.of hb2 (M := fun _ => False)) fun _ _ hm => hm.elim
         have hst2 := HST.out.keep hb2; have hv2 := V.below HI.out.sig hb2; have hng2 : ¬ V.Mine (D ++ [(u, 0)]) (wA.setRow wr.heap.size cs.toArray) g := fun hm => HNG.out (hv2.2 _ hm)
         have hn2 : ¬ V.Mine (D ++ [(u, 0)]) (wA.setRow wr.heap.size cs.toArray) wr.heap.size := fun hm => by have := V.low HI.out.sig (hv2.2 _ hm); omega
         have hgS : ¬ S wr.heap.size := fun h => by have := HI.out.lt h; omega
         have hcur2 : ∃ cur, (wA.setRow wr.heap.size cs.toArray).heap[xb]? = some (.cells cur 49 (0, 0)) := by obtain ⟨cur, hc⟩ := HCUR.out; exact ⟨cur, (hb2.block _ hlt).trans hc⟩
         have x32 : (wA.setRow wr.heap.size cs.toArray).cell? ⟨xb, xo + 3, none⟩ = some (.slice (some ⟨bb, oo, none⟩) u.args.length bc) := (hb2.cell (p := ⟨xb, xo + 3, none⟩) hlt).trans X3.out; have y0 : (wA.setRow wr.heap.size cs.toArray).cell? ⟨xb, xo, none⟩ = some (.int .i64 u.k) := (hb2.cell (p := ⟨xb, xo, none⟩) hlt).trans HX0.out; have y1 : (wA.setRow wr.heap.size cs.toArray).cell? ⟨xb, xo + 1, none⟩ = some (.int .i64 (if u.k = 1 then φ u.n else u.n)) := (hb2.cell (p := ⟨xb, xo + 1, none⟩) hlt).trans HX1.out; have y2 : (wA.setRow wr.heap.size cs.toArray).cell? ⟨xb, xo + 2, none⟩ = some (.string u.s) := (hb2.cell (p := ⟨xb, xo + 2, none⟩) hlt).trans HX2.out; have hfz2 : (wA.setRow wr.heap.size cs.toArray).frozen? ⟨xb, xo + 3, none⟩ = false := by obtain ⟨cur, hc⟩ := hcur2; exact frozen_of_row _ xb (xo + 3) cur _ hc
         have hsz2 : wr.heap.size + 1 ≤ (wA.setRow wr.heap.size cs.toArray).heap.size := by simp; omega
         clear x3 hl1; generalize wA.setRow wr.heap.size cs.toArray = wB at *; have HI2 := Lib.hid hI2; have HST2 := Lib.hid hst2; have HCUR2 := Lib.hid hcur2; have HG2 := Lib.hid hg2; have HN2 := Lib.hid hn2; have HNG2 := Lib.hid hng2; have HGS := Lib.hid hgS; have Y0 := Lib.hid y0; have Y1 := Lib.hid y1; have Y2 := Lib.hid y2; have HV2 := Lib.hid hv2.1; clear hI2 hst2 hcur2 hg2 hb2 hn2 hng2 hgS y0 y1 y2 hv2 hfz x0 x1 x2))
     have hI3 := HI2.out.write (q := 3) (b := xb) (o := xo) (u := u) (by simp) HKEY.out (by omega) (.slice (some ⟨wr.heap.size, 0, none⟩) u.args.length u.args.length); have hxg : xb ≠ wr.heap.size := by omega
     have hst3 := HST2.out.other (b := xb) (q := xo + 3) HCUR2.out (.slice (some ⟨wr.heap.size, 0, none⟩) u.args.length u.args.length); have hblk3 : ∀ b, b ≠ xb → (wB.setCell ⟨xb, xo + 3, none⟩ (.slice (some ⟨wr.heap.size, 0, none⟩) u.args.length u.args.length)).heap[b]? = wB.heap[b]? := fun b hne => Below.heap_setCell _ _ _ _ hne
     have hv3 := V.keep HV2.out (W' := wB.setCell ⟨xb, xo + 3, none⟩ (.slice (some ⟨wr.heap.size, 0, none⟩) u.args.length u.args.length)) (by simp [World.setCell]) fun b hb hm => hblk3 b fun e => (HI2.out.rows xb HSX.out).2.2.1 (by rw [← e]; exact hm)
     have hsz3 : wr.heap.size + 1 ≤ (wB.setCell ⟨xb, xo + 3, none⟩ (.slice (some ⟨wr.heap.size, 0, none⟩) u.args.length u.args.length)).heap.size := by simp [World.setCell]; omega
     have hlow : w.heap.size + 2 ≤ wr.heap.size := by have h1 := (Array.getElem?_eq_some_iff.1 HI.out.res).1; omega
     have hclose := hI3.close (g := wr.heap.size) (a := some ⟨wr.heap.size, 0, none⟩) (c := u.args.length) ((cell_setCell_ne (by omega)).trans Y0.out) ((cell_setCell_ne (by omega)).trans Y1.out) ((cell_setCell_ne (by omega)).trans Y2.out) (cell_setCell_eq x32)
      (fun _ => ⟨rfl, hlow, fun hm => HN2.out (hv3.2 _ hm), _, (hblk3 _ (fun e => hxg e.symm)).trans HG2.out⟩) HGS.out (fun i hi => by
        obtain ⟨aa, cc, z0, z1, z2, z3, z4, z5⟩ := (HAT2.out i hi).read; have hcx : ∀ o v, wB.cell? ⟨wr.heap.size, o, none⟩ = some v → (wB.setCell ⟨xb, xo + 3, none⟩ (.slice (some ⟨wr.heap.size, 0, none⟩) u.args.length u.args.length)).cell? ⟨wr.heap.size, o, none⟩ = some v := fun o v h => (cell_setCell_ne (fun e => hxg e.1.symm)).trans h
        obtain ⟨a', c', e', h'⟩ := z4
        simp at e'
        obtain ⟨rfl, rfl⟩ := e'; exact ⟨aa, cc, hcx _ _ z0, hcx _ _ z1, hcx _ _ z2, hcx _ _ z3, ArgsFrom.imp (fun _ h => h) (fun b hb _ => hblk3 b fun e => by have := hb.1; have := (HI2.out.rows xb HSX.out).1; omega) _ _ _ h'⟩)
     have hin3 : RnIn V φ t w (fun b => S b ∨ (u.args ≠ [] ∧ b = wr.heap.size)) (D ++ [(u, 0)]) l' u.args wr.heap.size (.slice (some ⟨g, 0, none⟩) m cap) (.int .i64 ((u.args.length : Int) - 1)) (wB.setCell ⟨xb, xo + 3, none⟩ (.slice (some ⟨wr.heap.size, 0, none⟩) u.args.length u.args.length)) :=
      ⟨u.args.length, g, cap, m, Nat.le_refl _, rfl, rfl, by rw [List.drop_of_length_le (by rw [kids_len]; exact Nat.le_refl _)]; simpa using hst3, hclose, fun hm => HNG2.out (hv3.2 _ hm)⟩
     have HIN := Lib.hid hin3; clear hI3 hst3 hblk3 hv3 hclose hin3 x32 hfz2 hz X3 hxg; generalize wB.setCell ⟨xb, xo + 3, none⟩ (.slice (some ⟨wr.heap.size, 0, none⟩) u.args.length u.args.length) = wC at *; clear HAT HAT1 HROW HRS HB1 HCL HCC HC1 HAT2 HI2 HST2 HCUR2 HG2 HN2 HNG2 HGS Y0 Y1 Y2 HV2 HI HST HNG HA HX0 HX1 HX2 hi hz0 hz1 hz2; generalize hg2e : wr.heap.size = g2 at *; have HG2E := Lib.hid hg2e; clear hg2e
     go_loopw [5, 8] (fun v5 v8 w4 => RnIn V φ t w (fun b => S b ∨ (u.args ≠ [] ∧ b = g2)) (D ++ [(u, 0)]) l' u.args g2 v5 v8 w4) (fun _ c _ => (intOf c + 1).toNat)
     case atStart => exact HIN.out
     case round =>
      obtain ⟨q, g4, cp4, n4, hq, rfl, rfl, hst4, hI4, hng4⟩ := hrel; clear HIN; have HST4 := Lib.hid hst4; have HI4 := Lib.hid hI4; have HNG4 := Lib.hid hng4; clear hst4 hI4 hng4; rcases q with _ | r
      ·go_wp2
       go_roundg (gk - 1)
       case measure => omega
       case rel =>
        have hs := HST4.out; rw [List.drop_zero] at hs; have hp : (l' ++ kids g2 0 u.args).Perm (l' ++ (kids g2 0 u.args).reverse) := List.Perm.append_left _ (List.reverse_perm _).symm; refine ⟨_, D ++ [(u, 0)], l' ++ (kids g2 0 u.args).reverse, g4, cp4, n4, rfl, hs, HI4.out.perm hp (fun x hx => hp.mem_iff.2 hx), ?_, HNG4.out, ?_, by omega⟩
        ·rw [HFL.out, List.reverse_append, List.reverse_reverse, flatS_app, flatS_kids]
         simp
        ·rw [sumSz_app, sumSz_rev, sumSz_kids]
         have h1 := HSUM.out; have h2 : sizeL u.args + 1 = u.size := by obtain ⟨k1, n1, s1, a1⟩ := u; simp [Tm.size, Tm.args]
         omega
      ·have e8 : (((r + 1 : Nat) : Int) - 1) = r := by omega
       rw [e8]; clear e8; have hri : (r : Int) < (u.args.length : Int) := by omega
       have hnn : n4 ≤ 1000000000 := by
        have h0 := HST4.out.len; have h1 := len_sumSz l'; have h2 := len_le u.args; have h3 := HSUM.out; have h4 : t.size ≤ 1000000000 := hM; have h5 : sizeL u.args + 1 = u.size := by obtain ⟨k1, n1, s1, a1⟩ := u; simp [Tm.size, Tm.args]
        simp [kids_len] at h0
        omega
       obtain ⟨i1, hi1, hw0, hw1, hw2⟩ := info_parts info_ptr; have hbase : w.heap.size + 2 ≤ wr.heap.size := by have h1 := (Array.getElem?_eq_some_iff.1 HI4.out.res).1; omega
       go_wp2_with (
        (with_reducible show wpList _ _ _ (⟨some 75, _, _, _, _, _⟩ :: _) _ _
         have hba : Below wr.heap.size wr (wr.alloc (.cells #[.pointer (some ⟨g2, r * 4, none⟩)] 142 (0, 0))) := (Below.refl _ _).alloc (Nat.le_refl _) _; have hsz : (wr.alloc (.cells #[.pointer (some ⟨g2, r * 4, none⟩)] 142 (0, 0))).heap.size = wr.heap.size + 1 := by simp
         refine Push.wpList_push rfl (.tmp 70) (.tmp 74) _ rfl (w.heap.size + 2) 142 i1 (.pointer none) 1 8 Try.underlying143 hi1 hw0 hw1 hw2 rfl (by decide) _ n4 _ rfl (HST4.out.keep hba).owns ⟨wr.heap.size, 0, none⟩ 1 [.pointer (some ⟨g2, r * 4, none⟩)] rfl rfl (one_news wr _ _) (by simp [Value.oneCell']) (by unfold maxLen; omega) (by omega) (by omega) ?_; intro v5 w5 hown5 hgr5 hv5; obtain ⟨g5, cp5, e5, hfin⟩ : ∃ g5 cp5, v5 = .slice (some ⟨g5, 0, none⟩) (n4 + 1) cp5 ∧ RnIn V φ t w (fun b => S b ∨ (u.args ≠ [] ∧ b = g2)) (D ++ [(u, 0)]) l' u.args g2 v5 (.int .i64 ((r : Int) - 1)) w5 := ren_push HST4.out HI4.out HNG4.out hq hown5 hgr5 hv5; subst e5; have HFIN := Lib.hid hfin; clear hfin hown5 hgr5 hv5 hba hsz))
       go_roundw
       case rel => exact HFIN.out
       case measure => simp [intOf]
theorem num_start (w : World) (o o2 : Obj) : SeenAt w.heap.size (w.heap.size + 1 + 1 + 1) (w.heap.size + 1 + 1) [] ((((w.alloc o).alloc o2).alloc (.map #[] 0)).alloc (.cells #[.slice none 0 0, .map (some (w.heap.size + 1 + 1))] 117 (0, 0))) ∧
 (∀ b, SeenMine (w.heap.size + 1 + 1 + 1) (w.heap.size + 1 + 1) ((((w.alloc o).alloc o2).alloc (.map #[] 0)).alloc (.cells #[.slice none 0 0, .map (some (w.heap.size + 1 + 1))] 117 (0, 0))) b → w.heap.size + 2 ≤ b) ∧
 ((((w.alloc o).alloc o2).alloc (.map #[] 0)).alloc (.cells #[.slice none 0 0, .map (some (w.heap.size + 1 + 1))] 117 (0, 0))).heap[w.heap.size + 1]? = some o2 ∧
 ((((w.alloc o).alloc o2).alloc (.map #[] 0)).alloc (.cells #[.slice none 0 0, .map (some (w.heap.size + 1 + 1))] 117 (0, 0))).heap.size = w.heap.size + 4 ∧
 Below w.heap.size w ((((w.alloc o).alloc o2).alloc (.map #[] 0)).alloc (.cells #[.slice none 0 0, .map (some (w.heap.size + 1 + 1))] 117 (0, 0))) := by
 have h1 := vars_start (w.alloc o) o2; have h2 := vars_new (w.alloc o) o2; have hsz : (w.alloc o).heap.size = w.heap.size + 1 := by simp
 have hr : ((((w.alloc o).alloc o2).alloc (.map #[] 0)).alloc (.cells #[.slice none 0 0, .map (some (w.heap.size + 1 + 1))] 117 (0, 0))).heap[w.heap.size + 1 + 1 + 1]? = some (.cells #[.slice none 0 0, .map (some (w.heap.size + 1 + 1))] 117 (0, 0)) := by
  have := heap_alloc2_new ((w.alloc o).alloc o2) (.map #[] 0) (.cells #[.slice none 0 0, .map (some (w.heap.size + 1 + 1))] 117 (0, 0)); simpa using this
 rw [hsz] at h1 h2; obtain ⟨lv, h1⟩ := h1; refine ⟨⟨lv, { h1 with own := ?_, base := by simp; omega }⟩, fun b hb => ?_, ?_, by simp, ((((Below.refl _ _).alloc (Nat.le_refl _) _).alloc (by simp) _).alloc (by simp; omega) _).alloc (by simp; omega) _⟩
 ·obtain ⟨xss, h3, h4⟩ := h1.own
  refine ⟨xss, ⟨h3.1, ?_⟩, h4⟩; rcases h3.2 with h | ⟨g, cap, cur, e, hb, rest⟩
  ·exact .inl h
  ·exact .inr ⟨g, cap, cur, e, by omega, rest⟩
 ·rcases hb with hb | hb | ⟨lv', hc, hb⟩
  ·omega
  ·omega
  ·rw [cell_of_row _ _ 0 _ _ _ hr] at hc
   obtain rfl := Option.some.inj hc; cases hb
 ·have e1 := heap_alloc_new (w.alloc o) o2
  rw [hsz] at e1; exact (heap_alloc_old _ _ (by simp)).trans ((heap_alloc_old _ _ (by simp)).trans e1)
def MakesP (t : Tm) (w : World) (e : Ending) (w' : World) : Prop := ∃ v, e = .returned v ∧ IsTm w' (fun b => w.heap.size ≤ b ∧ Plain w' b) v t ∧ Below w.heap.size w w'
theorem tm_NumberP (t : Tm) (v : Value) (P : Nat → Prop) (w : World) (hM : t.size ≤ 1000000000) (h : IsTm w P v t) :
 Calls Try.prog 21 #[v] w (MakesP (numT t) w) := by
 have hl := h.lt; clear h; obtain ⟨a, c, rfl⟩ := hl.form; have hst := num_start w (.cells #[.int .i64 t.k, .int .i64 t.n, .string t.s, .slice a t.args.length c] 49 (0, 0)) (.cells #[.int .i64 0, .int .i64 0, .string ⟨#[]⟩, .slice none 0 0] 49 (0, 0)); have HST := Lib.hid hst; have HL := Lib.hid hl; clear hl hst
 go_enter Try.func21, Try.ntmps21
 go_wp2_with (first
  | (refine wpList_makeMap rfl 114 rfl ?_)
  | fail)
 obtain ⟨h1, h2, h3, h4, h5⟩ := HST.out; generalize (((w.alloc (.cells #[.int .i64 t.k, .int .i64 t.n, .string t.s, .slice a t.args.length c] 49 (0, 0))).alloc (.cells #[.int .i64 0, .int .i64 0, .string ⟨#[]⟩, .slice none 0 0] 49 (0, 0))).alloc (.map #[] 0)).alloc (.cells #[.slice none 0 0, .map (some (w.heap.size + 1 + 1))] 117 (0, 0)) = W at *; refine (ren_seen (seenVis w.heap.size (w.heap.size + 1 + 1 + 1) (w.heap.size + 1 + 1)) (fun n => (numP (varsT t) n : Int)) (.pointer (some ⟨w.heap.size + 1 + 1 + 1, 0, none⟩)) t _ _ _ hM (HL.out.below h5) (fun b h e => by have h6 := h.2; have h7 := h2 b e; omega) h1 ?_ ?_).mono ?_
 ·intro D p rest W' hp hk hs
  have hlen := varsD_len D; have hpl := parts_len 1 t; have hpl2 : (flatT t).length = (parts 1 t).length := by have := congrArg List.length (flatT_parts 1 t); simpa using this
  rw [hp] at hpl2; simp only [List.length_append, List.length_cons] at hpl2; refine (seen_number _ _ _ (varsD D) p.1.n W' (by omega) hs).mono ?_; rintro e w' ⟨rfl, h6, h7, h8⟩; have hf := place_final (D := D) (rest := rest) hk; rw [← hp, varsT_flat] at hf; have hn : numP (varsT t) p.1.n = numP (varsD D) p.1.n := by unfold numP at hf ⊢; rw [hf]; rfl
  have ht : varsD (D ++ [p]) = numL (varsD D) p.1.n := by rw [varsD_snoc]; unfold takeL; rw [if_pos hk]
  exact ⟨by rw [hn], by show SeenAt _ _ _ (varsD (D ++ [p])) w'; rw [ht]; exact h6, h7, h8⟩
 ·intro D p W' hk hs
  have ht : varsD (D ++ [p]) = varsD D := by rw [varsD_snoc]; unfold takeL; rw [if_neg hk]
  exact ⟨by show SeenAt _ _ _ (varsD (D ++ [p])) W'; rw [ht]; exact hs, fun _ h => h⟩
 rintro e w' ⟨v', rfl, hi, -, hk, -⟩; obtain ⟨a', c', rfl⟩ := hi.form; have hres : w'.heap[w.heap.size + 1]? = some (.cells #[.int .i64 0, .int .i64 0, .string ⟨#[]⟩, .slice none 0 0] 49 (0, 0)) := (hk.block _ (by omega) fun e => by have := h2 _ e; omega).trans h3; have hb : Below w.heap.size w w' := h5.trans ⟨hk.os, hk.tape, hk.output, hk.size, fun b hb => hk.block b (by omega) fun e => by have := h2 _ e; omega⟩; have hw' : W.heap.size ≤ w'.heap.size := hk.size; have HI := Lib.hid hi; have HB := Lib.hid hb; have HRES := Lib.hid hres; clear hi hk hb hres h1 h2 h3 h5 HL HST
 go_wp2_with (refine wpList_store_row rfl 49 (.tmp 2) (.tmp 8) rfl (w.heap.size + 1) _ rfl rfl _ _ HRES.out size_term rfl (one4 _ _ _ _ _ _) ?_)
 have hz := setRow_heap w' (w.heap.size + 1) _ (#[.int .i64 (numT t).k, .int .i64 (numT t).n, .string (numT t).s, .slice a' (numT t).args.length c'] : Array Value) _ _ HRES.out; refine bodyPost_ret (v := .agg #[.int .i64 (numT t).k, .int .i64 (numT t).n, .string (numT t).s, .slice a' (numT t).args.length c']) (results_cell_row Try.results21 _ _ (w.heap.size + 1) _ _ _ _ rfl hz Try.underlying49 rfl (by kernel_rfl)) rfl ?_; refine ⟨_, rfl, HI.out.imp (fun b h => ⟨by have := h.1; omega, ?_⟩) (fun b h _ => setRow_other _ _ _ _ (by have := h.1; omega)), below_setRow HB.out (by omega) _⟩; obtain ⟨cur, hc⟩ := h.2.2; exact ⟨cur, (setRow_other _ _ _ _ (by have := h.1; omega)).trans hc⟩
theorem tm_Number (t : Tm) (v : Value) (P : Nat → Prop) (w : World) (hM : t.size ≤ 1000000000) (h : IsTm w P v t) :
 Calls Try.prog 21 #[v] w (MakesTm (fun _ => False) (numT t) w) :=
 (tm_NumberP t v P w hM h).mono fun e w' ⟨v', e1, hi, hb⟩ => ⟨v', e1, hi.imp (fun b h => .inr h.1) fun _ _ _ => rfl, hb⟩
end Go.Proofs.Ytcbijikalfodnaa.Tms
