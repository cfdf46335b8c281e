
/-
  A copy of a term, made place by place, each variable with another number. How a term reads of which some places are still to be made ('holes'). Plain.
  term.rename: what holds while it runs. Plain.
  term.rename: a place is put on the stack. Plain.
  term.rename of the program with prolix/term.same, walked (printed by gen_ren.py).
  term.rename of the program with (*prolix/term.seen).number, walked (printed by gen_ren.py).
  term.Number of the program walked; a copy of a term (rename by same).
-/
import Derived.Test.YtibjcfbilkkmkaaVars
namespace Go.Proofs.Ytibjcfbilkkmkaa.Tms
open Go Go.RowKit Go.Proofs.Ytibjcfbilkkmkaa.Reg Go.Proofs.Ytibjcfbilkkmkaa.Rws
set_option linter.unusedVariables false

mutual
def renT (φ : Int → Int) : Tm → Tm
  | .mk k n s a => .mk k (if k = 1 then φ n else n) s (renL φ a)
def renL (φ : Int → Int) : List Tm → List Tm
  | [] => []
  | t :: l => renT φ t :: renL φ l
end
theorem renL_map (φ : Int → Int) : ∀ l, renL φ l = l.map (renT φ)
  | [] => by simp [renL]
  | t :: l => by simp [renL, renL_map φ l]
abbrev Plc := Nat × Nat × Tm
def holes (φ : Int → Int) (l : List Plc) : List Plc := l.map fun x => (x.1, x.2.1, renT φ x.2.2)

mutual
/-- the term reads so from this place on, where the holes read as told -/
def Rd (w : World) (S : Nat → Prop) (H : List Plc) (b o : Nat) : Tm → Prop
  | .mk k n s args => S b ∧ o % 4 = 0 ∧ ((b, o, Tm.mk k n s args) ∈ H ∨ ((∀ t', (b, o, t') ∉ H) ∧ ∃ a cap, w.cell? ⟨b, o, none⟩ = some (.int .i64 k) ∧ w.cell? ⟨b, o + 1, none⟩ = some (.int .i64 n) ∧ w.cell? ⟨b, o + 2, none⟩ = some (.string s) ∧
      w.cell? ⟨b, o + 3, none⟩ = some (.slice a args.length cap) ∧ RdL w S H a 0 args))
def RdL (w : World) (S : Nat → Prop) (H : List Plc) (a : Option Addr) (j : Nat) : List Tm → Prop
  | [] => True
  | t :: ts => (∃ b off, a = some ⟨b, off, none⟩ ∧ Rd w S H b (off + j * 4) t) ∧ RdL w S H a (j + 1) ts
end
theorem rdL_iff {w : World} {S : Nat → Prop} {H : List Plc} {a : Option Addr} : ∀ {ts : List Tm} {j : Nat}, RdL w S H a j ts ↔ ∀ i (h : i < ts.length), ∃ b off, a = some ⟨b, off, none⟩ ∧ Rd w S H b (off + (j + i) * 4) ts[i]
  | [], j => by unfold RdL; simp
  | t :: ts, j => by
    unfold RdL
    rw [rdL_iff]
    constructor
    · rintro ⟨h0, h⟩ i hi
      cases i with
      | zero => simpa using h0
      | succ i =>
        have := h i (by simpa using hi)
        simpa [Nat.add_assoc, Nat.add_comm 1 i] using this
    · intro h
      refine ⟨by have h0 := h 0 (Nat.zero_lt_succ _); rw [Nat.add_zero] at h0; exact h0, fun i hi => ?_⟩
      have := h (i + 1) (by simpa using hi)
      simpa [Nat.add_assoc, Nat.add_comm 1 i] using this
theorem Rd.plc {w : World} {S : Nat → Prop} {H : List Plc} {b o : Nat} {t : Tm} (h : Rd w S H b o t) : S b ∧ o % 4 = 0 := by
  obtain ⟨k, n, s, a⟩ := t
  unfold Rd at h
  exact ⟨h.1, h.2.1⟩

/-- other memory, other holes: what is no hole reads as it read -/
theorem Rd.step {w w' : World} {S S' : Nat → Prop} {H H' : List Plc} (hc : ∀ b o, S b → o % 4 = 0 → (∀ t', (b, o, t') ∉ H) → ∀ q, q < 4 → w'.cell? ⟨b, o + q, none⟩ = w.cell? ⟨b, o + q, none⟩) (hS : ∀ b, S b → S' b)
    (hin : ∀ b o t, S b → o % 4 = 0 → (b, o, t) ∈ H → Rd w' S' H' b o t) (hout : ∀ b o, S b → (∀ t', (b, o, t') ∉ H) → ∀ t', (b, o, t') ∉ H') (N : Nat) : ∀ (t : Tm) (b o : Nat), t.size ≤ N → Rd w S H b o t → Rd w' S' H' b o t := by
  induction N with
  | zero => intro t b o hN; have := size_pos t; omega
  | succ N ih =>
    intro t b o hN h
    have hp := h.plc
    obtain ⟨k, n, s, ts⟩ := t
    unfold Rd at h
    obtain ⟨h1, h2, h | ⟨h3, a, cap, x0, x1, x2, x3, x4⟩⟩ := h
    · exact hin _ _ _ h1 h2 h
    · unfold Rd
      have hq := hc b o h1 h2 h3
      refine ⟨hS _ h1, h2, .inr ⟨hout b o h1 h3, a, cap, (hq 0 (by omega)).trans x0, (hq 1 (by omega)).trans x1, (hq 2 (by omega)).trans x2, (hq 3 (by omega)).trans x3, rdL_iff.2 fun i hi => ?_⟩⟩
      obtain ⟨b', off, e, hr⟩ := rdL_iff.1 x4 i hi
      exact ⟨b', off, e, ih _ _ _ (by have := size_mem hi; simp only [Tm.size] at hN; omega) hr⟩
theorem rd_hole {w : World} {S : Nat → Prop} {H : List Plc} {b o : Nat} {t : Tm} (hS : S b) (ho : o % 4 = 0) (h : (b, o, t) ∈ H) : Rd w S H b o t := by
  obtain ⟨k, n, s, a⟩ := t
  unfold Rd
  exact ⟨hS, ho, .inl h⟩
theorem rd_nil {w : World} {S : Nat → Prop} (N : Nat) : ∀ (t : Tm) (b o : Nat), t.size ≤ N → Rd w S [] b o t → TmAt w S b o t := by
  induction N with
  | zero => intro t b o hN; have := size_pos t; omega
  | succ N ih =>
    intro t b o hN h
    obtain ⟨k, n, s, ts⟩ := t
    unfold Rd at h
    obtain ⟨h1, h2, h | ⟨h3, a, cap, x0, x1, x2, x3, x4⟩⟩ := h
    · cases h
    · unfold TmAt
      refine ⟨a, cap, x0, x1, x2, x3, argsFrom_mk fun i hi => ?_⟩
      obtain ⟨b', off, e, hr⟩ := rdL_iff.1 x4 i hi
      have hp := hr.plc
      rw [Nat.zero_add] at hr
      exact ⟨b', off, e, hp.1, ih _ _ _ (by have := size_mem hi; simp only [Tm.size] at hN; omega) hr⟩

/-- a place that waits: its four cells, and what they lead to, in blocks of Q -/
def ItemAt (w : World) (Q : Nat → Prop) (x : Plc) : Prop := ∃ a cap, w.cell? ⟨x.1, x.2.1, none⟩ = some (.int .i64 x.2.2.k) ∧ w.cell? ⟨x.1, x.2.1 + 1, none⟩ = some (.int .i64 x.2.2.n) ∧ w.cell? ⟨x.1, x.2.1 + 2, none⟩ = some (.string x.2.2.s) ∧
  w.cell? ⟨x.1, x.2.1 + 3, none⟩ = some (.slice a x.2.2.args.length cap) ∧ ArgsFrom w Q a 0 x.2.2.args

abbrev key (x : Plc) : Nat × Nat := (x.1, x.2.1)
abbrev Old (V : Vis) (w : World) : Nat → Prop := fun b => b < w.heap.size ∧ ¬ V.Mine [] w b
/-- while a copy is made: H: the places that are still to be made; l: those of them that are as they were -/
structure RnI (V : Vis) (φ : Int → Int) (t : Tm) (S : Nat → Prop) (w : World) (D : List (Tm × Int)) (H l : List Plc) (wr : World) : Prop where
  rows : ∀ b, S b → w.heap.size ≤ b ∧ b ≠ w.heap.size + 1 ∧ ¬ V.Mine D wr b ∧ ∃ cur, wr.heap[b]? = some (.cells cur 30 (0, 0))
  root : Rd wr S (holes φ H) w.heap.size 0 (renT φ t)
  plcs : ∀ x ∈ H, S x.1 ∧ x.2.1 % 4 = 0
  keys : (H.map key).Nodup
  items : ∀ x ∈ l, S x.1 ∧ x.2.1 % 4 = 0 ∧ ItemAt wr (Old V w) x
  keeps : Keeps w wr (V.Mine [] w)
  sig : V.Sig D wr
  mine : ∀ b, V.Mine D wr b → V.Mine [] w b ∨ w.heap.size ≤ b
  nores : ¬ V.Mine D wr (w.heap.size + 1)
  res : wr.heap[w.heap.size + 1]? = some (.cells #[.int .i64 0, .int .i64 0, .string ⟨#[]⟩, .slice none 0 0] 30 (0, 0))

theorem ItemAt.imp {w w' : World} {Q : Nat → Prop} {x : Plc} (h : ItemAt w Q x) (hc : ∀ q, q < 4 → w'.cell? ⟨x.1, x.2.1 + q, none⟩ = w.cell? ⟨x.1, x.2.1 + q, none⟩) (hQ : ∀ b, Q b → b < w.heap.size → w'.heap[b]? = w.heap[b]?) : ItemAt w' Q x := by
  obtain ⟨a, cap, h0, h1, h2, h3, h4⟩ := h
  exact ⟨a, cap, (hc 0 (by omega)).trans h0, (hc 1 (by omega)).trans h1, (hc 2 (by omega)).trans h2, (hc 3 (by omega)).trans h3, ArgsFrom.imp (fun _ h => h) hQ _ _ _ h4⟩

section
variable {V : Vis} {φ : Int → Int} {t : Tm} {S : Nat → Prop} {w : World} {D : List (Tm × Int)} {H l : List Plc} {wr w' : World}

theorem RnI.old (h : RnI V φ t S w D H l wr) {b : Nat} (hb : Old V w b) : ¬ V.Mine D wr b := fun hm => (h.mine b hm).elim hb.2 fun hge => by have := hb.1; omega
theorem RnI.lt (h : RnI V φ t S w D H l wr) {b : Nat} (hb : S b) : b < wr.heap.size := by obtain ⟨-, -, -, cur, hc⟩ := h.rows b hb; exact (Array.getElem?_eq_some_iff.1 hc).1
theorem RnI.sub (h : RnI V φ t S w D H l wr) {l1 : List Plc} (hl : ∀ x ∈ l1, x ∈ l) : RnI V φ t S w D H l1 wr := { h with items := fun x hx => h.items x (hl x hx) }
theorem RnI.perm {H' l' : List Plc} (h : RnI V φ t S w D H l wr) (hH : H.Perm H') (hl : ∀ x ∈ l', x ∈ l) : RnI V φ t S w D H' l' wr := by
  have hm : ∀ x, x ∈ holes φ H ↔ x ∈ holes φ H' := fun x => (hH.map _).mem_iff
  refine { h with root := ?_, plcs := fun x hx => h.plcs x (hH.mem_iff.2 hx), keys := ((hH.map key).nodup_iff).1 h.keys, items := fun x hx => h.items x (hl x hx) }
  exact Rd.step (fun _ _ _ _ _ _ _ => rfl) (fun _ h => h) (fun b o t hs ho hin => rd_hole hs ho ((hm _).1 hin)) (fun b o _ hn t' ht => hn t' ((hm _).2 ht)) _ _ _ _ (Nat.le_refl _) h.root

/-- blocks turn that are none of the copy's, none of the visitor's, none that were there -/
theorem RnI.keep (h : RnI V φ t S w D H l wr) {M : Nat → Prop} (hk : Keeps wr w' M) (hM : ∀ b, b < wr.heap.size → M b → ¬ S b ∧ ¬ V.Mine D wr b ∧ w.heap.size + 2 ≤ b) : RnI V φ t S w D H l w' := by
  have hlt := fun b (hb : S b) => h.lt hb
  have hblk : ∀ b, S b → w'.heap[b]? = wr.heap[b]? := fun b hb => hk.block b (hlt b hb) fun hm => (hM b (hlt b hb) hm).1 hb
  have hcell : ∀ b o, S b → w'.cell? ⟨b, o, none⟩ = wr.cell? ⟨b, o, none⟩ := fun b o hb => World.cell?_of_block (hblk b hb)
  have hv := V.keep h.sig hk.size fun b hb hm => hk.block b hb fun hm' => (hM b hb hm').2.1 hm
  have hold : ∀ b, Old V w b → b < wr.heap.size → w'.heap[b]? = wr.heap[b]? := fun b hb hl => hk.block b hl fun hm => by have := (hM b hl hm).2.2; have := hb.1; omega
  have hr1 : w.heap.size + 1 < wr.heap.size := (Array.getElem?_eq_some_iff.1 h.res).1
  refine ⟨fun b hb => ?_, ?_, h.plcs, h.keys, fun x hx => ?_, ?_, hv.1, fun b hb => h.mine b (hv.2 b hb), fun hm => h.nores (hv.2 _ hm), (hk.block _ hr1 fun hm => by have := (hM _ hr1 hm).2.2; omega).trans h.res⟩
  · obtain ⟨h1, h2, h3, cur, hc⟩ := h.rows b hb
    exact ⟨h1, h2, fun hm => h3 (hv.2 b hm), cur, (hblk b hb).trans hc⟩
  · exact Rd.step (fun b o hs _ _ q _ => hcell b _ hs) (fun _ h => h) (fun b o t hs ho hin => rd_hole hs ho hin) (fun b o _ hn => hn) _ _ _ _ (Nat.le_refl _) h.root
  · obtain ⟨h1, h2, h3⟩ := h.items x hx
    exact ⟨h1, h2, h3.imp (fun q _ => hcell _ _ h1) hold⟩
  · exact h.keeps.trans hk fun b hm => by
      rcases Nat.lt_or_ge b wr.heap.size with hl | hl
      · exact .inr (by have := (hM b hl hm).2.2; omega)
      · exact .inr (by have := h.keeps.size; omega)

/-- the visitor has been called -/
theorem RnI.called (h : RnI V φ t S w D H l wr) {p : Tm × Int} (hs : V.Sig (D ++ [p]) w') (hk : Keeps wr w' (V.Mine D wr)) (hm : ∀ b, V.Mine (D ++ [p]) w' b → V.Mine D wr b ∨ wr.heap.size ≤ b) : RnI V φ t S w (D ++ [p]) H l w' := by
  have hlt := fun b (hb : S b) => h.lt hb
  have hblk : ∀ b, S b → w'.heap[b]? = wr.heap[b]? := fun b hb => hk.block b (hlt b hb) (h.rows b hb).2.2.1
  have hcell : ∀ b o, S b → w'.cell? ⟨b, o, none⟩ = wr.cell? ⟨b, o, none⟩ := fun b o hb => World.cell?_of_block (hblk b hb)
  have hr1 : w.heap.size + 1 < wr.heap.size := (Array.getElem?_eq_some_iff.1 h.res).1
  have hz := h.keeps.size
  refine ⟨fun b hb => ?_, ?_, h.plcs, h.keys, fun x hx => ?_, h.keeps.trans hk h.mine, hs, fun b hb => ?_, fun hb => ?_, (hk.block _ hr1 h.nores).trans h.res⟩
  · obtain ⟨h1, h2, h3, cur, hc⟩ := h.rows b hb
    refine ⟨h1, h2, fun hb' => ?_, cur, (hblk b hb).trans hc⟩
    rcases hm b hb' with h' | h'
    · exact h3 h'
    · have := hlt b hb; omega
  · exact Rd.step (fun b o hs _ _ q _ => hcell b _ hs) (fun _ h => h) (fun b o t hs ho hin => rd_hole hs ho hin) (fun b o _ hn => hn) _ _ _ _ (Nat.le_refl _) h.root
  · obtain ⟨h1, h2, h3⟩ := h.items x hx
    exact ⟨h1, h2, h3.imp (fun q _ => hcell _ _ h1) fun b hb hl => hk.block b hl (h.old hb)⟩
  · rcases hm b hb with h' | h'
    · exact h.mine b h'
    · exact .inr (by omega)
  · rcases hm _ hb with h' | h'
    · exact h.nores h'
    · omega
theorem RnI.skipped (h : RnI V φ t S w D H l wr) {p : Tm × Int} (hs : V.Sig (D ++ [p]) wr ∧ ∀ b, V.Mine (D ++ [p]) wr b → V.Mine D wr b) : RnI V φ t S w (D ++ [p]) H l wr :=
  { h with rows := fun b hb => ⟨(h.rows b hb).1, (h.rows b hb).2.1, fun hm => (h.rows b hb).2.2.1 (hs.2 b hm), (h.rows b hb).2.2.2⟩, sig := hs.1, mine := fun b hb => h.mine b (hs.2 b hb), nores := fun hm => h.nores (hs.2 _ hm) }

/-- a cell of a place that is to be made -/
theorem RnI.write (h : RnI V φ t S w D H l wr) {b o q : Nat} {u : Tm} (hH : (b, o, u) ∈ H) (hl : ∀ x ∈ l, key x ≠ (b, o)) (hq : q < 4) (v : Value) : RnI V φ t S w D H l (wr.setCell ⟨b, o + q, none⟩ v) := by
  obtain ⟨hS, ho⟩ := h.plcs _ hH
  simp only at hS ho
  obtain ⟨h1, h2, h3, cur, hc⟩ := h.rows b hS
  have hother : ∀ b' o', o' % 4 = 0 → (b', o') ≠ (b, o) → ∀ q', q' < 4 → (wr.setCell ⟨b, o + q, none⟩ v).cell? ⟨b', o' + q', none⟩ = wr.cell? ⟨b', o' + q', none⟩ := fun b' o' ho' hne q' hq' => cell_setCell_ne fun ⟨e1, e2⟩ => hne (by rw [e1]; congr 1; omega)
  have hblk : ∀ b', b' ≠ b → (wr.setCell ⟨b, o + q, none⟩ v).heap[b']? = wr.heap[b']? := fun b' hne => Below.heap_setCell _ _ _ _ hne
  have hsz : (wr.setCell ⟨b, o + q, none⟩ v).heap.size = wr.heap.size := by simp [World.setCell]
  have hv := V.keep h.sig (Nat.le_of_eq hsz.symm) fun b' hb hm => hblk b' fun e => h3 (by rw [← e]; exact hm)
  refine ⟨fun b' hb => ?_, ?_, h.plcs, h.keys, fun x hx => ?_, h.keeps.trans (M' := fun b' => b' = b) ⟨rfl, rfl, rfl, Nat.le_of_eq hsz.symm, fun b' _ hne => hblk b' hne⟩ fun b' e => .inr (by rw [e]; exact h1), hv.1, fun b' hb => h.mine b' (hv.2 b' hb), fun hm => h.nores (hv.2 _ hm), (hblk _ fun e => h2 e.symm).trans h.res⟩
  · obtain ⟨g1, g2, g3, cur', hc'⟩ := h.rows b' hb
    refine ⟨g1, g2, fun hm => g3 (hv.2 b' hm), ?_⟩
    by_cases e : b' = b
    · subst e
      exact ⟨_, heap_setCell_same wr b' (o + q) cur _ _ hc⟩
    · exact ⟨cur', (hblk b' e).trans hc'⟩
  · refine Rd.step (fun b' o' hs ho' hn q' hq' => hother b' o' ho' (fun e => ?_) q' hq') (fun _ h => h) (fun b o t hs ho hin => rd_hole hs ho hin) (fun b o _ hn => hn) _ _ _ _ (Nat.le_refl _) h.root
    simp only [Prod.mk.injEq] at e
    obtain ⟨rfl, rfl⟩ := e
    exact hn (renT φ u) (List.mem_map.2 ⟨_, hH, rfl⟩)
  · obtain ⟨g1, g2, g3⟩ := h.items x hx
    exact ⟨g1, g2, g3.imp (fun q' hq' => hother _ _ g2 (hl x hx) q' hq') fun b' hb _ => hblk b' fun e => by have := hb.1; omega⟩

end

/-- the places of a row of terms -/
def kids (g : Nat) : Nat → List Tm → List Plc
  | _, [] => []
  | j, t :: l => (g, j * 4, t) :: kids g (j + 1) l
theorem kids_len (g : Nat) : ∀ (j : Nat) (l : List Tm), (kids g j l).length = l.length
  | _, [] => rfl
  | j, t :: l => by simp [kids, kids_len g (j + 1) l]
theorem kids_get (g : Nat) : ∀ (j : Nat) (l : List Tm) (i : Nat) (h : i < l.length), (kids g j l)[i]'(by rw [kids_len]; exact h) = (g, (j + i) * 4, l[i])
  | j, t :: l, 0, _ => by simp [kids]
  | j, t :: l, i + 1, h => by
    have := kids_get g (j + 1) l i (by simpa using h)
    simp only [kids, List.getElem_cons_succ]
    rw [this]
    congr 2
    omega
theorem kids_mem {g : Nat} : ∀ {j : Nat} {l : List Tm} {x : Plc}, x ∈ kids g j l → x.1 = g ∧ ∃ i, ∃ h : i < l.length, x = (g, (j + i) * 4, l[i])
  | j, t :: l, x, h => by
    rcases List.mem_cons.1 h with rfl | h
    · exact ⟨rfl, 0, by simp, by simp⟩
    · obtain ⟨e, i, hi, e2⟩ := kids_mem h
      exact ⟨e, i + 1, by simpa using hi, by rw [e2]; simp; omega⟩
theorem kids_keys (g : Nat) : ∀ (j : Nat) (l : List Tm), ((kids g j l).map key).Nodup
  | _, [] => List.nodup_nil
  | j, t :: l => by
    simp only [kids, List.map_cons, List.nodup_cons]
    refine ⟨fun h => ?_, kids_keys g (j + 1) l⟩
    obtain ⟨x, hx, e⟩ := List.mem_map.1 h
    obtain ⟨-, i, hi, rfl⟩ := kids_mem hx
    simp only [Prod.mk.injEq, true_and] at e
    omega

/-- the last place is made: its cells lead to a new row, whose places are still to be made -/
theorem RnI.close {V : Vis} {φ : Int → Int} {t : Tm} {S : Nat → Prop} {w : World} {D : List (Tm × Int)} {l : List Plc} {wr : World} {b o g c : Nat} {u : Tm} (h : RnI V φ t S w D (l ++ [(b, o, u)]) l wr) {a : Option Addr}
    (x0 : wr.cell? ⟨b, o, none⟩ = some (.int .i64 u.k)) (x1 : wr.cell? ⟨b, o + 1, none⟩ = some (.int .i64 (if u.k = 1 then φ u.n else u.n))) (x2 : wr.cell? ⟨b, o + 2, none⟩ = some (.string u.s)) (x3 : wr.cell? ⟨b, o + 3, none⟩ = some (.slice a u.args.length c))
    (ha : u.args ≠ [] → a = some ⟨g, 0, none⟩ ∧ w.heap.size + 2 ≤ g ∧ ¬ V.Mine D wr g ∧ ∃ cur, wr.heap[g]? = some (.cells cur 30 (0, 0))) (hgS : ¬ S g) (hi : ∀ i (hi : i < u.args.length), ItemAt wr (Old V w) (g, i * 4, u.args[i])) :
    RnI V φ t (fun b => S b ∨ (u.args ≠ [] ∧ b = g)) w D (l ++ kids g 0 u.args) (l ++ kids g 0 u.args) wr := by
  obtain ⟨hS, ho⟩ := h.plcs (b, o, u) (by simp)
  simp only at hS ho
  have hk := h.keys
  rw [List.map_append, List.map_singleton, List.nodup_append] at hk
  have hnot : ∀ x ∈ l, key x ≠ (b, o) := fun x hx e => hk.2.2 _ (List.mem_map.2 ⟨x, hx, rfl⟩) _ (List.mem_singleton.2 rfl) e
  have hb : b ≠ g := fun e => hgS (by rw [← e]; exact hS)
  have hg : ∀ x ∈ l, x.1 ≠ g := fun x hx e => hgS (by rw [← e]; exact (h.plcs x (List.mem_append_left _ hx)).1)
  have hkS : ∀ x ∈ kids g 0 u.args, (S x.1 ∨ (u.args ≠ [] ∧ x.1 = g)) ∧ x.2.1 % 4 = 0 := fun x hx => by
    obtain ⟨e, i, hi, rfl⟩ := kids_mem hx
    exact ⟨.inr ⟨fun e => (by rw [e] at hi; simp at hi), rfl⟩, by simp⟩
  have hout : ∀ t', (b, o, t') ∉ holes φ (l ++ kids g 0 u.args) := fun t' ht => by
    obtain ⟨x, hx, e⟩ := List.mem_map.1 ht
    rcases List.mem_append.1 hx with hx | hx
    · exact hnot x hx (by simp only [Prod.mk.injEq] at e; exact Prod.ext e.1 e.2.1)
    · obtain ⟨e', -⟩ := kids_mem hx
      simp only [Prod.mk.injEq] at e
      exact hb (e.1.symm.trans e')
  refine { h with rows := fun b' hb' => ?_, root := ?_, plcs := fun x hx => ?_, keys := ?_, items := fun x hx => ?_ }
  · rcases hb' with hb' | ⟨hn, rfl⟩
    · exact h.rows b' hb'
    · obtain ⟨-, g1, g2, g3⟩ := ha hn
      exact ⟨by omega, by omega, g2, g3⟩
  · refine Rd.step (fun _ _ _ _ _ _ _ => rfl) (fun _ h => .inl h) (fun b' o' t' hs ho' hin => ?_) (fun b' o' hs hn t' ht => ?_) _ _ _ _ (Nat.le_refl _) h.root
    · obtain ⟨x, hx, e⟩ := List.mem_map.1 hin
      rcases List.mem_append.1 hx with hx | hx
      · exact rd_hole (.inl hs) ho' (List.mem_map.2 ⟨x, List.mem_append_left _ hx, e⟩)
      · simp only [List.mem_singleton] at hx
        subst hx
        simp only [Prod.mk.injEq] at e
        obtain ⟨rfl, rfl, rfl⟩ := e
        obtain ⟨k, n, s, us⟩ := u
        simp only [Tm.k, Tm.n, Tm.s, Tm.args] at *
        rw [renT]
        unfold Rd
        refine ⟨.inl hS, ho, .inr ⟨hout, a, c, x0, x1, x2, by rw [x3, renL_map]; simp, rdL_iff.2 fun i hil => ?_⟩⟩
        rw [renL_map] at hil
        have hil' : i < us.length := by simpa using hil
        have hnn : us ≠ [] := fun e => by rw [e] at hil'; simp at hil'
        refine ⟨g, 0, (ha hnn).1, rd_hole (.inr ⟨hnn, rfl⟩) (by omega) (List.mem_map.2 ⟨(g, (0 + i) * 4, us[i]), List.mem_append_right _ ?_, by simp [renL_map]⟩)⟩
        rw [← kids_get g 0 us i hil']
        exact List.getElem_mem _
    · obtain ⟨x, hx, e⟩ := List.mem_map.1 ht
      rcases List.mem_append.1 hx with hx | hx
      · exact hn t' (List.mem_map.2 ⟨x, List.mem_append_left _ hx, e⟩)
      · obtain ⟨e', -⟩ := kids_mem hx
        simp only [Prod.mk.injEq] at e
        exact hgS (by rw [← e', e.1]; exact hs)
  · rcases List.mem_append.1 hx with hx | hx
    · exact ⟨.inl (h.plcs x (List.mem_append_left _ hx)).1, (h.plcs x (List.mem_append_left _ hx)).2⟩
    · exact hkS x hx
  · rw [List.map_append, List.nodup_append]
    refine ⟨hk.1, kids_keys g 0 u.args, fun x hx y hy e => ?_⟩
    obtain ⟨x', hx', rfl⟩ := List.mem_map.1 hx
    obtain ⟨y', hy', rfl⟩ := List.mem_map.1 hy
    exact hg x' hx' ((congrArg Prod.fst e).trans (kids_mem hy').1)
  · rcases List.mem_append.1 hx with hx | hx
    · exact ⟨.inl (h.items x hx).1, (h.items x hx).2⟩
    · have h2 := hkS x hx
      obtain ⟨e, i, hil, rfl⟩ := kids_mem hx
      refine ⟨h2.1, h2.2, ?_⟩
      rw [Nat.zero_add]
      exact hi i hil
end Go.Proofs.Ytibjcfbilkkmkaa.Tms
namespace Go.Proofs.Ytibjcfbilkkmkaa.Tms
open Go Go.RowKit Go.Proofs.Ytibjcfbilkkmkaa.Reg Go.Proofs.Ytibjcfbilkkmkaa.Rws
set_option linter.unusedVariables false

mutual
/-- a term's parts, from the left, each ahead of its Args -/
def flatT : Tm → List (Tm × Int)
  | .mk k n s a => (.mk k n s a, 0) :: flatL a
def flatL : List Tm → List (Tm × Int)
  | [] => []
  | t :: l => flatT t ++ flatL l
end
theorem flatT_eq (t : Tm) : flatT t = (t, 0) :: flatL t.args := by
  obtain ⟨k, n, s, a⟩ := t
  rw [flatT]
  rfl
theorem flatL_app : ∀ l m, flatL (l ++ m) = flatL l ++ flatL m
  | [], m => by simp [flatL]
  | t :: l, m => by simp [flatL, flatL_app l m]
mutual
theorem flatT_parts : ∀ (d : Int) (t : Tm), (flatT t).map Prod.fst = (parts d t).map Prod.fst
  | d, .mk k n s a => by simp [flatT, parts, flatL_parts (d + 1) a]
theorem flatL_parts : ∀ (d : Int) (l : List Tm), (flatL l).map Prod.fst = (partsL d l).map Prod.fst
  | d, [] => by simp [flatL, partsL]
  | d, t :: l => by simp [flatL, partsL, flatT_parts d t, flatL_parts d l]
end
theorem varsD_fst : ∀ {D E : List (Tm × Int)}, D.map Prod.fst = E.map Prod.fst → varsD D = varsD E := by
  have key : ∀ (D E : List (Tm × Int)) (L : List Int), D.map Prod.fst = E.map Prod.fst → D.foldl takeL L = E.foldl takeL L := by
    intro D
    induction D with
    | nil => intro E L h; cases E with
      | nil => rfl
      | cons _ _ => simp at h
    | cons p D ih =>
      intro E L h
      cases E with
      | nil => simp at h
      | cons q E =>
        simp only [List.map_cons, List.cons.injEq] at h
        have e : takeL L p = takeL L q := by unfold takeL; rw [h.1]
        rw [List.foldl_cons, List.foldl_cons, e]
        exact ih E _ h.2
  exact fun {D E} h => key D E [] h
theorem varsT_flat (t : Tm) : varsD (flatT t) = varsT t := varsD_fst (flatT_parts 1 t)
def flatS (l : List Plc) : List (Tm × Int) := flatL (l.map fun x => x.2.2)
theorem flatS_app (l m : List Plc) : flatS (l ++ m) = flatS l ++ flatS m := by simp [flatS, flatL_app]
theorem flatS_kids (g : Nat) : ∀ (j : Nat) (l : List Tm), flatS (kids g j l) = flatL l
  | _, [] => rfl
  | j, t :: l => by
    have := flatS_kids g (j + 1) l
    simp only [flatS, kids, List.map_cons, flatL] at this ⊢
    rw [this]
theorem sumSz_kids (g : Nat) : ∀ (j : Nat) (l : List Tm), sumSz (kids g j l) = sizeL l
  | _, [] => rfl
  | j, t :: l => by simp only [kids, sumSz, sizeL, sumSz_kids g (j + 1) l]
theorem sumSz_rev : ∀ l : List Plc, sumSz l.reverse = sumSz l
  | [] => rfl
  | x :: l => by simp [sumSz, sumSz_app, sumSz_rev l]; omega

/-- a row of the program's own, that may be written -/
def Plain (w : World) (b : Nat) : Prop := ∃ cur, w.heap[b]? = some (.cells cur 30 (0, 0))
/-- what the call leaves -/
def RenPost (V : Vis) (φ : Int → Int) (t : Tm) (w : World) (e : Ending) (w' : World) : Prop :=
  ∃ v, e = .returned v ∧ IsTm w' (fun b => w.heap.size ≤ b ∧ ¬ V.Mine (flatT t) w' b ∧ Plain w' b) v (renT φ t) ∧ V.Sig (flatT t) w' ∧ Keeps w w' (V.Mine [] w) ∧ ∀ b, V.Mine (flatT t) w' b → V.Mine [] w b ∨ w.heap.size ≤ b
theorem ren_end {V : Vis} {φ : Int → Int} {t : Tm} {S : Nat → Prop} {w wr : World} {D : List (Tm × Int)} {v : Value} {cs : Array Value} (h : RnI V φ t S w D [] [] wr) (hD : flatT t = D) (it : IsTm wr S v (renT φ t)) :
    RenPost V φ t w (.returned v) (wr.setRow (w.heap.size + 1) cs) := by
  have hr1 : w.heap.size + 1 < wr.heap.size := (Array.getElem?_eq_some_iff.1 h.res).1
  have hz : (wr.setRow (w.heap.size + 1) cs).heap.size = wr.heap.size := by simp
  have hv := V.keep h.sig (Nat.le_of_eq hz.symm) fun b hb hm => setRow_other _ _ _ _ fun e => h.nores (by rw [← e]; exact hm)
  refine ⟨v, rfl, ?_, by rw [hD]; exact hv.1, h.keeps.trans (M' := fun b => b = w.heap.size + 1) ⟨rfl, rfl, rfl, Nat.le_of_eq hz.symm, fun b _ hne => setRow_other _ _ _ _ hne⟩ fun b e => .inr (by rw [e]; omega), fun b hb => by rw [hD] at hb; exact h.mine b (hv.2 b hb)⟩
  refine it.imp (fun b hb => ⟨(h.rows b hb).1, fun hm => ?_, by obtain ⟨-, h2, -, cur, hc⟩ := h.rows b hb; exact ⟨cur, (setRow_other _ _ _ _ h2).trans hc⟩⟩) fun b hb _ => setRow_other _ _ _ _ (h.rows b hb).2.1
  rw [hD] at hm
  exact (h.rows b hb).2.2.1 (hv.2 b hm)

end Go.Proofs.Ytibjcfbilkkmkaa.Tms
namespace Go.Proofs.Ytibjcfbilkkmkaa.Tms
open Go Go.RowKit Go.Proofs.Ytibjcfbilkkmkaa.Reg Go.Proofs.Ytibjcfbilkkmkaa.Rws
set_option linter.unusedVariables false

theorem wpList_move {P : Program} {w : World} {ops : Array Oper} {rest : List Oper} {o : Oper} {a : Act} {Q : Exit → Act → World → Prop} (hgd : o.guard = none) (x : Operand) (ho : o.op = .move x) (h : wpList P ops Q rest (a.put o.dst (a.eval x)) w) : wpList P ops Q (o :: rest) a w := by
  refine wpList_plain hgd fun K hK => ?_
  unfold Oper.wp
  simp [execOp, ho]
  exact hK _ _ h
end Go.Proofs.Ytibjcfbilkkmkaa.Tms
namespace Go.Proofs.Ytibjcfbilkkmkaa.Tms
open Go Go.RowKit Go.Proofs.Ytibjcfbilkkmkaa.Reg Go.Proofs.Ytibjcfbilkkmkaa.Rws
set_option linter.unusedVariables false

end Go.Proofs.Ytibjcfbilkkmkaa.Tms
namespace Go.Proofs.Ytibjcfbilkkmkaa.Tms
open Go Go.RowKit Go.Proofs.Ytibjcfbilkkmkaa.Reg Go.Proofs.Ytibjcfbilkkmkaa.Rws
set_option linter.unusedVariables false

end Go.Proofs.Ytibjcfbilkkmkaa.Tms
namespace Go.Proofs.Ytibjcfbilkkmkaa.Tms
open Go Go.RowKit Go.Proofs.Ytibjcfbilkkmkaa.Reg Go.Proofs.Ytibjcfbilkkmkaa.Rws
set_option linter.unusedVariables false

/-- nothing is kept -/
def noVis : Vis where
  Sig := fun _ _ => True
  Mine := fun _ _ _ => False
  keep := fun _ _ _ => ⟨trivial, fun _ h => h⟩
  low := fun _ h => h.elim
mutual
theorem renT_id : ∀ t : Tm, renT (fun n => n) t = t
  | .mk k n s a => by rw [renT, renL_id a]; simp
theorem renL_id : ∀ l : List Tm, renL (fun n => n) l = l
  | [] => by simp [renL]
  | t :: l => by rw [renL, renT_id t, renL_id l]
end
theorem place_app : ∀ {L : List Int} {n : Int} {q : Nat} (M : List Int), place L n = some q → place (L ++ M) n = some q
  | x :: L, n, q, M, h => by
    simp only [List.cons_append]
    unfold place at h ⊢
    split
    · rename_i e; rw [if_pos e] at h; exact h
    · rename_i e
      rw [if_neg e] at h
      cases hp : place L n with
      | none => rw [hp] at h; cases h
      | some p => rw [hp] at h; rw [place_app M hp]; exact h
theorem place_new : ∀ {L : List Int} {n : Int}, place L n = none → place (L ++ [n]) n = some L.length
  | [], n, _ => by simp [place]
  | x :: L, n, h => by
    simp only [List.cons_append]
    unfold place at h ⊢
    split
    · rename_i e; rw [if_pos e] at h; cases h
    · rename_i e
      rw [if_neg e] at h
      cases hp : place L n with
      | none => rw [place_new hp]; rfl
      | some p => rw [hp] at h; cases h
theorem place_num (L : List Int) (n : Int) : place (numL L n) n = some (numP L n) := by
  unfold numL numP
  cases hp : place L n with
  | none => simp [place_new hp]
  | some p => simp [hp]
theorem fold_app : ∀ (D : List (Tm × Int)) (L : List Int), ∃ M, D.foldl takeL L = L ++ M
  | [], L => ⟨[], by simp⟩
  | p :: D, L => by
    obtain ⟨M, h⟩ := fold_app D (takeL L p)
    rw [List.foldl_cons, h]
    unfold takeL numL
    split
    · split
      · exact ⟨M, rfl⟩
      · exact ⟨p.1.n :: M, by simp⟩
    · exact ⟨M, rfl⟩
theorem place_final {D rest : List (Tm × Int)} {p : Tm × Int} (hk : p.1.k = 1) : place (varsD (D ++ p :: rest)) p.1.n = some (numP (varsD D) p.1.n) := by
  have h1 : varsD (D ++ p :: rest) = rest.foldl takeL (takeL (varsD D) p) := by simp [varsD]
  obtain ⟨M, h2⟩ := fold_app rest (takeL (varsD D) p)
  rw [h1, h2]
  refine place_app M ?_
  unfold takeL
  rw [if_pos hk]
  exact place_num _ _
/-- numbered from 0 on, in the order in which they come -/
def numT (t : Tm) : Tm := renT (fun n => (numP (varsT t) n : Int)) t

/-- a term in memory of its own, that may be written -/
def MakesP (t : Tm) (w : World) (e : Ending) (w' : World) : Prop := ∃ v, e = .returned v ∧ IsTm w' (fun b => w.heap.size ≤ b ∧ Plain w' b) v t ∧ Below w.heap.size w w'
end Go.Proofs.Ytibjcfbilkkmkaa.Tms
