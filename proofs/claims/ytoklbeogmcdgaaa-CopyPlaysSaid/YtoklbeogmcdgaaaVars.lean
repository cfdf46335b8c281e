
/-
  What term.seen keeps (the numbers that came, and where each stands), and its methods number and take, walked.
  term.seen's number and take of the program walked.
  term.walk of the program with (*prolix/term.seen).take as its visitor, walked (printed by gen_walk.py).
  term.seen's take, and term.Vars, of the program walked.
-/
import Derived.Test.YtoklbeogmcdgaaaMsd
import Derived.Test.YtoklbeogmcdgaaaBas
import Derived.Test.YtoklbeogmcdgaaaVisit
namespace Go.Proofs.Ytoklbeogmcdgaaa.Tms
open Go Go.RowKit Go.Proofs.Ytoklbeogmcdgaaa.Reg Go.Proofs.Ytoklbeogmcdgaaa.Rws
set_option linter.unusedVariables false

/-- a number in one cell -/
def intKind : Rws.Kind Int where
  T := 2
  sz := 1
  R := fun w P cs a => cs = [.int .i64 a]
  pos := by decide
  len := by rintro w P cs a rfl; rfl
  one := by
    rintro w P cs a rfl v hv
    simp only [List.mem_cons, List.not_mem_nil, or_false] at hv
    subst hv; rfl
  mono := by rintro w w' P P' cs a hP hw rfl; rfl
  lt := by rintro w P cs a rfl; rfl
theorem info_int64 : (Try.prog.info? 2).map (fun i => (i.zero, i.size, i.bytes)) = some (some (.int .i64 0), 1, 8) := by kernel_rfl

/-- the numbers' entries -/
def seenEs (i : Nat) : List Int → List MapEntry
  | [] => []
  | n :: l => ⟨.int .i64 n, .int .i64 i, i⟩ :: seenEs (i + 1) l
theorem seenEs_app : ∀ (i : Nat) (l m : List Int), seenEs i (l ++ m) = seenEs i l ++ seenEs (i + l.length) m
  | i, [], m => by simp [seenEs]
  | i, n :: l, m => by simp [seenEs, seenEs_app (i + 1) l m, Nat.add_comm, Nat.add_left_comm]
/-- where a number stands among those that came -/
def place : List Int → Int → Option Nat
  | [], _ => none
  | x :: l, n => if n = x then some 0 else (place l n).map (· + 1)
theorem findNow_seen (k : IntKind) (n : Int) : ∀ (l : List Int) (i j : Nat), Instr.findNow (.int k) (.int .i64 n) (seenEs i l) j = some ((place l n).map fun p => (j + p, .int .i64 ((i + p : Nat) : Int)))
  | [], i, j => by simp [seenEs, Instr.findNow, place]
  | x :: l, i, j => by
    have ih := findNow_seen k n l (i + 1) (j + 1)
    by_cases h : n = x
    · simp [seenEs, Instr.findNow, Instr.sameNow, place, h]
    · simp only [seenEs, Instr.findNow, Instr.sameNow, if_true, place, if_neg h]
      have hb : (n == x) = false := by simpa using h
      rw [hb]
      simp only []
      rw [ih]
      cases place l n <;> simp
      omega
def numL (l : List Int) (n : Int) : List Int := if (place l n).isSome then l else l ++ [n]
def numP (l : List Int) (n : Int) : Nat := (place l n).getD l.length
/-- what lies in memory -/
structure SeenRow (W : World) (base mb mm : Nat) (lv : Value) (L : List Int) : Prop where
  row : W.heap[mb]? = some (.cells #[lv, .map (some mm)] 138 (0, 0))
  map : ∃ es : Array MapEntry, W.heap[mm]? = some (.map es L.length) ∧ es.toList = seenEs 0 L
  own : Own intKind W base (fun _ => False) lv L
  ne : mb ≠ mm
  nb : lv.ownBlock ≠ some mb
  nm : lv.ownBlock ≠ some mm
  base : base ≤ W.heap.size
def SeenAt (base mb mm : Nat) (L : List Int) (W : World) : Prop := ∃ lv, SeenRow W base mb mm lv L
/-- its blocks -/
def SeenMine (mb mm : Nat) (W : World) (b : Nat) : Prop := b = mb ∨ b = mm ∨ ∃ lv, W.cell? ⟨mb, 0, none⟩ = some lv ∧ lv.ownBlock = some b
theorem SeenAt.keep {base mb mm : Nat} {L : List Int} {W W' : World} (h : SeenAt base mb mm L W) (hs : W.heap.size ≤ W'.heap.size) (hk : ∀ b, b < W.heap.size → SeenMine mb mm W b → W'.heap[b]? = W.heap[b]?) : SeenAt base mb mm L W' ∧ ∀ b, SeenMine mb mm W' b → SeenMine mb mm W b := by
  obtain ⟨lv, h⟩ := h
  obtain ⟨es, h1, h2⟩ := h.map
  have hmb := hk mb (Array.getElem?_eq_some_iff.1 h.row).1 (.inl rfl)
  have hmm := hk mm (Array.getElem?_eq_some_iff.1 h1).1 (.inr (.inl rfl))
  have c0 : W.cell? ⟨mb, 0, none⟩ = some lv := cell_of_row W mb 0 _ _ _ h.row
  have c0' : W'.cell? ⟨mb, 0, none⟩ = some lv := cell_of_row W' mb 0 _ _ _ (hmb.trans h.row)
  refine ⟨⟨lv, hmb.trans h.row, ⟨es, hmm.trans h1, h2⟩, h.own.keep hs fun b hb hp => ?_, h.ne, h.nb, h.nm, Nat.le_trans h.base hs⟩, fun b hb => ?_⟩
  · rcases hp with hp | hp
    · exact hp.elim
    · exact hk b hb (.inr (.inr ⟨lv, c0, hp⟩))
  · rcases hb with hb | hb | ⟨lv', hc, hb⟩
    · exact .inl hb
    · exact .inr (.inl hb)
    · rw [c0'] at hc
      obtain rfl := Option.some.inj hc
      exact .inr (.inr ⟨lv, c0, hb⟩)
theorem SeenAt.low {base mb mm : Nat} {L : List Int} {W : World} (h : SeenAt base mb mm L W) {b : Nat} (hb : SeenMine mb mm W b) : b < W.heap.size := by
  obtain ⟨lv, h⟩ := h
  obtain ⟨es, h1, h2⟩ := h.map
  have c0 : W.cell? ⟨mb, 0, none⟩ = some lv := cell_of_row W mb 0 _ _ _ h.row
  rcases hb with rfl | rfl | ⟨lv', hc, hb⟩
  · exact (Array.getElem?_eq_some_iff.1 h.row).1
  · exact (Array.getElem?_eq_some_iff.1 h1).1
  · rw [c0] at hc
    obtain rfl := Option.some.inj hc
    exact (h.own.low b hb).2

theorem wpList_makeMap {P : Program} {w : World} {ops : Array Oper} {rest : List Oper} {o : Oper} {a : Act} {Q : Exit → Act → World → Prop} (hgd : o.guard = none) (t : TypeId) (ho : o.op = .makeMap t none)
    (hK : wpList P ops Q rest (a.put o.dst (.map (some w.heap.size))) (w.alloc (.map #[] 0))) : wpList P ops Q (o :: rest) a w := by
  refine wpList_plain hgd fun K hK' => ?_
  have hrun := run_makeMap (P := P) t w
  unfold Oper.wp
  simp [execOp, ho, hrun, Result.andThen]
  exact hK' _ _ hK
theorem wpList_update_new {P : Program} {w : World} {ops : Array Oper} {rest : List Oper} {o : Oper} {a : Act} {Q : Exit → Act → World → Prop} (hgd : o.guard = none) (t : TypeId) (m k x : Operand) (ho : o.op = .mapUpdate t m k x) (kt et : TypeId) (d : TypeDesc)
    (h : P.underlying t = some (.map kt et)) (hk : P.underlying kt = some d) (hp : Maps.plainKey d = true) (b : Nat) (es : Array MapEntry) (c : Nat) (hm : a.eval m = .map (some b)) (hb : w.heap[b]? = some (.map es c)) (hf : Instr.findNow d (a.eval k) es.toList 0 = some none)
    (hK : ∀ w', w'.heap[b]? = some (.map (es.push ⟨a.eval k, a.eval x, c⟩) (c + 1)) → w.grownBy w' (some b) → wpList P ops Q rest (a.put o.dst undef) w') : wpList P ops Q (o :: rest) a w := by
  refine wpList_plain hgd fun K hK' => ?_
  have hrun := Maps.run_insert_new (P := P) w t kt et d h hk hp b (a.eval k) (a.eval x) es c hb hf
  unfold Oper.wp
  simp [execOp, ho, hm, hrun, Result.andThen]
  exact hK' _ _ (hK _ (Maps.setObj'_at _ _ _ (Array.getElem?_eq_some_iff.1 hb).1) (Maps.setObj'_grown _ _ _))
end Go.Proofs.Ytoklbeogmcdgaaa.Tms
namespace Go.Proofs.Ytoklbeogmcdgaaa.Tms
open Go Go.RowKit Go.Proofs.Ytoklbeogmcdgaaa.Reg Go.Proofs.Ytoklbeogmcdgaaa.Rws
set_option linter.unusedVariables false

/-- what a call leaves that may have told a new number -/
def Told (base mb mm : Nat) (L : List Int) (w w' : World) : Prop :=
  SeenAt base mb mm L w' ∧ Keeps w w' (SeenMine mb mm w) ∧ ∀ b, SeenMine mb mm w' b → SeenMine mb mm w b ∨ w.heap.size ≤ b

theorem told_new {base mb mm : Nat} {L : List Int} {n : Int} {q : Option Addr} {c g9 c9 : Nat} {es : Array MapEntry} {w w2 w3 : World} (hs : SeenRow w base mb mm (.slice q L.length c) L) (hes : es.toList = seenEs 0 L)
    (hg2 : w.grownBy w2 (some mm)) (hm2 : w2.heap[mm]? = some (.map (es.push ⟨.int .i64 n, .int .i64 L.length, L.length⟩) (L.length + 1))) (hg3 : (w2.alloc (.cells #[.int .i64 n] 2 (0, 0))).grownBy w3 (Value.slice q L.length c).ownBlock)
    (hown3 : Own intKind w3 base (fun _ => False) (.slice (some ⟨g9, 0, none⟩) (L.length + 1) c9) (L ++ [n])) (hv3 : ∀ k, (Value.slice (some ⟨g9, 0, none⟩) (L.length + 1) c9).ownBlock = some k → (Value.slice q L.length c).ownBlock = some k ∨ (w2.alloc (.cells #[.int .i64 n] 2 (0, 0))).heap.size ≤ k) :
    (w3.cell? ⟨mb, 0, none⟩ = some (.slice q L.length c) ∧ w3.frozen? ⟨mb, 0, none⟩ = false) ∧ Told base mb mm (L ++ [n]) w (w3.setCell ⟨mb, 0, none⟩ (.slice (some ⟨g9, 0, none⟩) (L.length + 1) c9)) := by
  have hb2 : w.heap.size ≤ w2.heap.size := hg2.size
  have hsz : (w2.alloc (.cells #[.int .i64 n] 2 (0, 0))).heap.size = w2.heap.size + 1 := by simp
  have hba : Below w2.heap.size w2 (w2.alloc (.cells #[.int .i64 n] 2 (0, 0))) := (Below.refl _ _).alloc (Nat.le_refl _) _
  generalize w2.alloc (.cells #[.int .i64 n] 2 (0, 0)) = u at *
  have hne : mb ≠ mm := hs.ne
  have hmbw : mb < w.heap.size := (Array.getElem?_eq_some_iff.1 hs.row).1
  have hr2 := (hg2.block mb hmbw (fun e => hne (Option.some.inj e))).trans hs.row
  have hlt : mb < w2.heap.size := by omega
  have hltm : mm < w2.heap.size := (Array.getElem?_eq_some_iff.1 hm2).1
  have hr3 := (hg3.block mb (by omega) (fun e => hs.nb e.symm)).trans ((hba.block mb hlt).trans hr2)
  have hm3 := (hg3.block mm (by omega) (fun e => hs.nm e.symm)).trans ((hba.block mm hltm).trans hm2)
  have hne3 : (Value.slice (some ⟨g9, 0, none⟩) (L.length + 1) c9).ownBlock ≠ some mb := fun e => by
    rcases hv3 mb e with h | h
    · exact hs.nb h
    · omega
  have hnm3 : (Value.slice (some ⟨g9, 0, none⟩) (L.length + 1) c9).ownBlock ≠ some mm := fun e => by
    rcases hv3 mm e with h | h
    · exact hs.nm h
    · omega
  have hrow4 := heap_setCell_same w3 mb 0 _ _ (.slice (some ⟨g9, 0, none⟩) (L.length + 1) c9) hr3
  have hm4 := (Below.heap_setCell w3 ⟨mb, 0, none⟩ (.slice (some ⟨g9, 0, none⟩) (L.length + 1) c9) mm (fun e => hne e.symm)).trans hm3
  have hsz4 : (w3.setCell ⟨mb, 0, none⟩ (.slice (some ⟨g9, 0, none⟩) (L.length + 1) c9)).heap.size = w3.heap.size := by simp [World.setCell]
  have hrr : (w3.setCell ⟨mb, 0, none⟩ (.slice (some ⟨g9, 0, none⟩) (L.length + 1) c9)).heap[mb]? = some (.cells #[.slice (some ⟨g9, 0, none⟩) (L.length + 1) c9, .map (some mm)] 138 (0, 0)) := by simpa using hrow4
  have hc4 : (w3.setCell ⟨mb, 0, none⟩ (.slice (some ⟨g9, 0, none⟩) (L.length + 1) c9)).cell? ⟨mb, 0, none⟩ = some (.slice (some ⟨g9, 0, none⟩) (L.length + 1) c9) := cell_of_row _ mb 0 _ _ _ hrr
  have hs3 : w.heap.size ≤ w3.heap.size := by have := hg3.size; omega
  have hcw : w.cell? ⟨mb, 0, none⟩ = some (.slice q L.length c) := cell_of_row w mb 0 _ _ _ hs.row
  refine ⟨⟨cell_of_row w3 mb 0 _ _ _ hr3, frozen_of_row w3 mb 0 _ _ hr3⟩, ⟨_, hrr, ⟨es.push ⟨.int .i64 n, .int .i64 L.length, L.length⟩, by rw [hm4]; simp, ?_⟩, hown3.keep (by omega) fun b hb hp => ?_, hne, hne3, hnm3, Nat.le_trans hs.base (by omega)⟩, ⟨?_, ?_, ?_, by omega, fun b hb hn => ?_⟩, fun b hb => ?_⟩
  · rw [Array.toList_push, hes, seenEs_app]
    simp [seenEs]
  · refine Below.heap_setCell _ _ _ _ fun e => ?_
    rcases hp with hp | hp
    · exact hp
    · exact hne3 (by rw [hp, e])
  · exact hg3.os.trans (hba.os.trans hg2.os)
  · exact hg3.tape.trans (hba.tape.trans hg2.tape)
  · exact hg3.output.trans (hba.output.trans hg2.output)
  · have h1 : b ≠ mb := fun e => hn (.inl e)
    have h2 : b ≠ mm := fun e => hn (.inr (.inl e))
    exact (Below.heap_setCell _ _ _ _ h1).trans ((hg3.block b (by omega) fun e => hn (.inr (.inr ⟨_, hcw, e.symm⟩))).trans ((hba.block b (by omega)).trans (hg2.block b hb fun e => h2 (Option.some.inj e))))
  · rcases hb with hb | hb | ⟨lv', hc, hb⟩
    · exact .inl (.inl hb)
    · exact .inl (.inr (.inl hb))
    · rw [hc4] at hc
      obtain rfl := Option.some.inj hc
      rcases hv3 b hb with h | h
      · exact .inl (.inr (.inr ⟨_, hcw, h⟩))
      · exact .inr (by omega)

set_option maxHeartbeats 1600000 in
theorem seen_number (base mb mm : Nat) (L : List Int) (n : Int) (w : World) (hL : L.length ≤ 1000000000) (h : SeenAt base mb mm L w) :
    Calls Try.prog 86 #[.pointer (some ⟨mb, 0, none⟩), .int .i64 n] w fun e w' => e = .returned (.int .i64 (numP L n)) ∧ Told base mb mm (numL L n) w w' := by
  obtain ⟨lv, h⟩ := h
  obtain ⟨es, hm, hes⟩ := h.map
  have c0 : w.cell? ⟨mb, 0, none⟩ = some lv := cell_of_row w mb 0 _ _ _ h.row
  have c1 : w.cell? ⟨mb, 1, none⟩ = some (.map (some mm)) := cell_of_row w mb 1 _ _ _ h.row
  have hf := findNow_seen .i64 n L 0 0
  rw [← hes] at hf
  cases hp : place L n with
  | some p =>
    rw [hp] at hf
    simp only [Option.map_some, Nat.zero_add] at hf
    have hn : numP L n = p := by simp [numP, hp]
    have hl : numL L n = L := by simp [numL, hp]
    have HF := Lib.hid hf
    have HM := Lib.hid hm
    have HS : Hid (SeenAt base mb mm L w) := Lib.hid ⟨lv, h⟩
    rw [hn, hl]
    clear hf hm h hp hn hl hes
    go_enter Try.func86, Try.ntmps86
    go_wp2_with (refine Maps.wpList_lookup_now rfl 136 (.tmp 11) (.tmp 12) rfl _ _ _ Try.underlying136 Try.underlying2 rfl mm _ _ rfl HM.out _ HF.out (.int .i64 0) (fun _ => by kernel_rfl) ?_)
    go_ret
    exact ⟨rfl, HS.out, Keeps.refl _ _, fun b h => .inl h⟩
  | none =>
    rw [hp] at hf
    simp only [Option.map_none] at hf
    have hn : numP L n = L.length := by simp [numP, hp]
    have hl : numL L n = L ++ [n] := by simp [numL, hp]
    have HF := Lib.hid hf
    have HM := Lib.hid hm
    have HS := Lib.hid h
    have HES := Lib.hid hes
    have C0 := Lib.hid c0
    have z1 : w.frozen? ⟨mb, 0, none⟩ = false := frozen_of_row w mb 0 _ _ h.row
    rw [hn, hl]
    clear hf hm hp hn hl hes
    have hform : ∃ q c, lv = .slice q L.length c := by
      rcases h.own.form with ⟨rfl, e⟩ | ⟨g, c, rfl⟩
      · exact ⟨none, 0, by rw [e]; rfl⟩
      · exact ⟨_, c, rfl⟩
    obtain ⟨q, c, rfl⟩ := hform
    clear h
    go_enter Try.func86, Try.ntmps86
    go_wp2_with (first
      | (refine Maps.wpList_lookup_now rfl 136 (.tmp 11) (.tmp 12) rfl _ _ _ Try.underlying136 Try.underlying2 rfl mm _ _ rfl HM.out _ HF.out (.int .i64 0) (fun _ => by kernel_rfl) ?_)
      | (refine wpList_update_new rfl 136 (.tmp 26) (.tmp 27) (.tmp 28) rfl _ _ _ Try.underlying136 Try.underlying2 rfl mm _ _ rfl HM.out HF.out ?_
         intro w2 hm2 hg2
         have hs := HS.out
         have hne : mb ≠ mm := hs.ne
         have hr2 := (hg2.block mb (Array.getElem?_eq_some_iff.1 hs.row).1 (fun e => hne (Option.some.inj e))).trans hs.row
         have hown2 := hs.own.keep hg2.size fun b hb hp => hg2.block b hb fun e => by
           rcases hp with hp | hp
           · exact hp
           · exact hs.nm (by rw [hp]; exact e)
         have hb2 : w.heap.size ≤ w2.heap.size := hg2.size
         have c0 : w2.cell? ⟨mb, 0, none⟩ = some (.slice q L.length c) := cell_of_row w2 mb 0 _ _ _ hr2
         have HM2 := Lib.hid hm2
         have HG2 := Lib.hid hg2
         have HR2 := Lib.hid hr2
         have HOWN2 := Lib.hid hown2
         clear hm2 hg2 hr2 hown2 hs c1 z1)
      | (with_reducible show wpList _ _ _ (⟨some 36, _, _, _, _, _⟩ :: _) _ _
         have hba : Below w2.heap.size w2 (w2.alloc (.cells #[.int .i64 n] 2 (0, 0))) := (Below.refl _ _).alloc (Nat.le_refl _) _
         have hrow := heap_alloc_new w2 (.cells #[.int .i64 n] 2 (0, 0))
         have hsz : (w2.alloc (.cells #[.int .i64 n] 2 (0, 0))).heap.size = w2.heap.size + 1 := by simp
         have HBA := Lib.hid hba
         have HSZ := Lib.hid hsz
         refine wpList_put (K := intKind) rfl (.tmp 33) (.tmp 35) _ rfl Try.underlying98 info_int64 rfl base (fun _ => False) _ L [.int .i64 n] n w2.heap.size _ _ _ rfl (HOWN2.out.below hba) rfl hrow rfl (by unfold maxLen; omega) (by omega) (by have := HS.out.base; omega) ?_
         intro v3 w3 hown3 hb3 hg3 hv3
         obtain ⟨g9, c9, rfl⟩ : ∃ g9 c9, v3 = .slice (some ⟨g9, 0, none⟩) (L.length + 1) c9 := by
           rcases hown3.form with h | ⟨g9, c9, e9⟩
           · exfalso; have := congrArg List.length h.2; simp at this
           · exact ⟨g9, c9, by rw [e9]; simp⟩
         obtain ⟨⟨c0, z1⟩, hfin⟩ := told_new HS.out HES.out HG2.out HM2.out hg3 hown3 hv3
         have HFIN := Lib.hid hfin
         clear hfin hown3 hb3 hg3 hv3 hba hrow hsz HBA HSZ))
    go_ret
    exact ⟨rfl, HFIN.out⟩
end Go.Proofs.Ytoklbeogmcdgaaa.Tms
namespace Go.Proofs.Ytoklbeogmcdgaaa.Tms
open Go Go.RowKit Go.Proofs.Ytoklbeogmcdgaaa.Reg Go.Proofs.Ytoklbeogmcdgaaa.Rws
set_option linter.unusedVariables false

set_option maxHeartbeats 1600000 in
theorem walk_seen (V : Vis) (x0 : Value) (t : Tm) (v : Value) (P : Nat → Prop) (w : World) (hM : t.size ≤ 1000000000) (h : IsTm w P v t) (hP : ∀ b, P b → ¬ V.Mine [] w b) (hs : V.Sig [] w)
    (hcall : ∀ (D : List (Tm × Int)) (p : Tm × Int) (rest : List (Tm × Int)) (va : Value) (P' : Nat → Prop) (W : World), parts 1 t = D ++ p :: rest → V.Sig D W → IsTm W P' va p.1 → (∀ b, P' b → ¬ V.Mine D W b) → 1 ≤ p.2 → p.2 ≤ (t.size : Int) → Calls Try.prog 98 #[x0, va, .int .i64 p.2] W (Seen V D p W)) :
    Calls Try.prog 97 #[v, .func (.func 98) #[x0] #[]] w fun e w' => e = .returned (.tuple #[]) ∧ V.Sig (parts 1 t) w' ∧ Keeps w w' (V.Mine [] w) ∧ ∀ b, V.Mine (parts 1 t) w' b → V.Mine [] w b ∨ w.heap.size ≤ b := by
  have hl : IsTm w (fun b => b < w.heap.size ∧ ¬ V.Mine [] w b) v t := h.lt.imp (fun b h => ⟨h.2, hP b h.1⟩) fun _ _ _ => rfl
  clear h hP
  have HC := Lib.hid hcall
  clear hcall
  obtain ⟨a, c, rfl⟩ := hl.form
  have HST := Lib.hid (wk_start V t w (fun b => b < w.heap.size ∧ ¬ V.Mine [] w b) a c (fun b h => h.1) hl hs)
  clear hl hs
  go_enter Try.func97, Try.ntmps97
  go_wp2
  go_loopg [4] t.size (fun k v4 wr => WkRel V t w (fun b => b < w.heap.size ∧ ¬ V.Mine [] w b) k v4 wr)
  case atStart => exact HST.out
  case round =>
    obtain ⟨D, l, g, cap, n, rfl, inv, hp, hk, hkt, hd⟩ := hrel
    clear HST
    rcases nil_or_snoc l with rfl | ⟨l', p, rfl⟩
    · obtain rfl : n = 0 := inv.len.symm
      have hD : parts 1 t = D := by simpa [partsS] using hp
      have INV := Lib.hid inv
      have HD := Lib.hid hD
      clear inv hp hD
      go_wp2
      refine ⟨rfl, .tuple #[], by simp [results, Try.results97, go_sem], rfl, ?_⟩
      rw [HD.out]
      exact ⟨INV.out.sig, INV.out.keeps, INV.out.mine⟩
    · obtain ⟨m, rfl⟩ : ∃ m, n = m + 1 := ⟨l'.length, by rw [← inv.len]; simp⟩
      have hm : l'.length = m := by have := inv.len; simpa using this
      obtain ⟨own', hcap, hcm, cs, hR, hcell⟩ := inv.own.pop hm
      obtain ⟨x, d⟩ := p
      obtain ⟨xa, xc, rfl, hargs⟩ := hR
      have x0c := hcell 0 (by decide)
      have x1c := hcell 1 (by decide)
      have x2c := hcell 2 (by decide)
      have x3c := hcell 3 (by decide)
      have x4c := hcell 4 (by decide)
      simp only [abKind, Nat.add_zero, List.getElem?_cons_zero, List.getElem?_cons_succ] at x0c x1c x2c x3c x4c
      have xi : IsTm wr (fun b => b < w.heap.size ∧ ¬ V.Mine [] w b) (.agg #[.int .i64 x.k, .int .i64 x.n, .string x.s, .slice xa x.args.length xc]) x := ⟨xa, xc, rfl, ArgsFrom.imp (fun _ h => h.1) (fun _ _ _ => rfl) _ _ _ hargs⟩
      have hpx : parts 1 t = D ++ (x, d) :: (partsS (x.args.map fun y => (y, d + 1)) ++ partsS l'.reverse) := by
        rw [hp, List.reverse_append, List.reverse_singleton, List.singleton_append]
        show D ++ (parts d x ++ _) = _
        rw [parts_eq]
        simp
      have hdx := hd (x, d) (by simp)
      have hd' : ∀ p ∈ l', 1 ≤ p.2 ∧ p.2 + p.1.size ≤ (t.size : Int) + 1 := fun p hp => hd p (by simp [hp])
      have hsum : sumA l' + x.size ≤ gk := by have := sumA_app l' [(x, d)]; simp only [sumA] at this; omega
      have hxp := size_pos x
      have hd1 : 1 ≤ d := hdx.1
      have hd2 : d + x.size ≤ (t.size : Int) + 1 := hdx.2
      have hbig := inv.big
      have INV := Lib.hid inv
      have OWN := Lib.hid own'
      have XI := Lib.hid xi
      have HM := Lib.hid hm
      have HPX := Lib.hid hpx
      have HD' := Lib.hid hd'
      have hmb : m + 1 ≤ 1000000000 := by have := len_sumA l'; omega
      clear inv own' xi hm hk hp hpx hd hd' hdx hcell hargs
      have hmm : ((m : Int) + 1 - 1) = m := by omega
      have hglt : g < wr.heap.size := (OWN.out.low g rfl).2
      have hb5 := heap_alloc_new wr (.cells #[.int .i64 x.k, .int .i64 x.n, .string x.s, .slice xa x.args.length xc, .int .i64 d] 171 (0, 0))
      have hba : Below wr.heap.size wr (wr.alloc (.cells #[.int .i64 x.k, .int .i64 x.n, .string x.s, .slice xa x.args.length xc, .int .i64 d] 171 (0, 0))) := (Below.refl _ _).alloc (Nat.le_refl _) _
      have hbs : (wr.alloc (.cells #[.int .i64 x.k, .int .i64 x.n, .string x.s, .slice xa x.args.length xc, .int .i64 d] 171 (0, 0))).heap.size = wr.heap.size + 1 := by simp
      have H5 := Lib.hid hb5
      have HBA := Lib.hid hba
      have HBS := Lib.hid hbs
      clear hb5 hba hbs
      have hQm : ∀ (D : List (Tm × Int)) (W : World), (∀ b, V.Mine D W b → V.Mine [] w b ∨ w.heap.size ≤ b) → ∀ b, (b < w.heap.size ∧ ¬ V.Mine [] w b) → ¬ V.Mine D W b := fun D W h b hb hm => (h b hm).elim hb.2 fun hge => by omega
      have HQM := Lib.hid hQm
      clear hQm
      go_wp2_with fail
      have hk1 := V.below INV.out.sig HBA.out
      refine (HC.out D (x, d) _ _ _ _ HPX.out hk1.1 (XI.out.below HBA.out) (HQM.out _ _ fun b hb => INV.out.mine b (hk1.2 b hb)) hd1 (by show d ≤ (t.size : Int); omega)).mono ?_
      rintro e4 w4 ⟨rfl, hs4, hk4, hm4⟩
      have hns : ¬ V.Mine D (wr.alloc (.cells #[.int .i64 x.k, .int .i64 x.n, .string x.s, .slice xa x.args.length xc, .int .i64 d] 171 (0, 0))) wr.heap.size := fun h => by have := V.low INV.out.sig (hk1.2 _ h); omega
      have hng : ¬ V.Mine D (wr.alloc (.cells #[.int .i64 x.k, .int .i64 x.n, .string x.s, .slice xa x.args.length xc, .int .i64 d] 171 (0, 0))) g := fun h => INV.out.notg (hk1.2 _ h)
      have hz1 := HBS.out
      have hb54 := (hk4.block wr.heap.size (by omega) hns).trans H5.out
      have hs4' : wr.heap.size + 1 ≤ w4.heap.size := by have := hk4.size; omega
      have hmine4 : ∀ b, V.Mine (D ++ [(x, d)]) w4 b → V.Mine [] w b ∨ w.heap.size ≤ b := fun b hb => by
        rcases hm4 b hb with h | h
        · exact INV.out.mine b (hk1.2 b h)
        · exact .inr (by omega)
      have hkp : Keeps w w4 (V.Mine [] w) := INV.out.keeps.trans ((Keeps.of HBA.out (M := V.Mine D wr)).trans hk4 fun b hb => .inl (hk1.2 b hb)) INV.out.mine
      have hng4 : ¬ V.Mine (D ++ [(x, d)]) w4 g := fun h => by
        rcases hm4 g h with h | h
        · exact hng h
        · omega
      have hblk : ∀ b, b < wr.heap.size → ¬ V.Mine D wr b → w4.heap[b]? = wr.heap[b]? := fun b hb hn => (hk4.block b (by omega) fun h => hn (hk1.2 b h)).trans (HBA.out.block b hb)
      have hown4 := OWN.out.keep (w' := w4) (by omega) fun b hb h => hblk b hb (by
        rcases h with h | h
        · exact HQM.out D wr INV.out.mine b h
        · have : g = b := Option.some.inj (show some g = some b from h)
          rw [← this]
          exact INV.out.notg)
      have hxi4 := XI.out.lt.imp (w' := w4) (P' := fun b => b < w.heap.size ∧ ¬ V.Mine [] w b) (fun b h => h.1) fun b h hb => hblk b hb (HQM.out D wr INV.out.mine b h.1)
      have hsx : sizeL x.args + 1 = x.size := by obtain ⟨k1, n1, s1, a1⟩ := x; simp [Tm.size, Tm.args]
      have hxs : x.args.length ≤ 1000000000 := by have := len_le x.args; omega
      have hgne : g ≠ wr.heap.size := by omega
      have f3 : w4.cell? ⟨wr.heap.size, 3, none⟩ = some (.slice xa x.args.length xc) := cell_of_row w4 _ 3 _ _ _ hb54
      have hin : WkInRel V w (fun b => b < w.heap.size ∧ ¬ V.Mine [] w b) (D ++ [(x, d)]) wr.heap.size x d xa xc l' (.slice (some ⟨g, 0, none⟩) m cap) (.int .i64 ((x.args.length : Int) - 1)) w4 :=
        ⟨x.args.length, g, cap, m, Nat.le_refl _, rfl, rfl, by rw [HM.out]; omega, by rw [List.drop_of_length_le (by omega)]; simpa using hown4, hkp, hs4, hmine4, hng4, hb54, hgne, ⟨hbig, by omega⟩, hxi4⟩
      have HIN := Lib.hid hin
      have HSX := Lib.hid hsx
      clear hin hsx hxi4 hown4 hblk hng4 hkp hmine4 hb54 hng hns hs4 hk4 hm4 hk1 x0c x1c x2c x3c x4c H5 HBA HBS OWN XI INV hz1
      go_wp2
      clear f3
      generalize wr.heap.size = s5 at *
      go_loopw [4, 6] (fun v4 v6 w5 => WkInRel V w (fun b => b < w.heap.size ∧ ¬ V.Mine [] w b) (D ++ [(x, d)]) s5 x d xa xc l' v4 v6 w5) (fun _ v6 _ => (intOf v6 + 1).toNat)
      case atStart => exact HIN.out
      case round =>
        obtain ⟨q, g5, cap5, n5, hq, rfl, rfl, ci⟩ := hrel
        clear HIN
        rcases q with _ | r
        · have CI := Lib.hid ci
          clear ci
          go_wp2
          go_roundg (gk - 1)
          case measure => omega
          case rel =>
            have c := CI.out
            have ho := c.own
            rw [List.drop_zero] at ho
            refine ⟨D ++ [(x, d)], l' ++ (x.args.map fun y => (y, d + 1)).reverse, g5, cap5, n5, rfl, ⟨?_, ho, c.keeps, by have := c.low; omega, c.sig, c.mine, c.notg⟩, ?_, ?_, by omega, ?_⟩
            · have := c.len; simp; omega
            · rw [HPX.out, List.reverse_append, List.reverse_reverse, partsS_app]
              simp
            · rw [sumA_app, sumA_rev, sumA_map]
              have := HSX.out
              omega
            · intro p hp
              rcases List.mem_append.1 hp with hp | hp
              · exact HD'.out p hp
              · rw [List.mem_reverse] at hp
                obtain ⟨y, hy, rfl⟩ := List.mem_map.1 hp
                have h1 := mem_sizeL hy
                have h2 := HSX.out
                exact ⟨by show 1 ≤ d + 1; omega, by show d + 1 + (y.size : Int) ≤ _; omega⟩
        · have e8 : (((r + 1 : Nat) : Int) - 1) = r := by omega
          rw [e8]
          clear e8
          obtain ⟨xb, xo, rfl, -, xt⟩ := ci.xi.args.at r hq
          obtain ⟨pa, pc, y0, y1, y2, y3, yri, -⟩ := xt.read
          have f3 : wr.cell? ⟨s5, 3, none⟩ = some (.slice (some ⟨xb, xo, none⟩) x.args.length xc) := cell_of_row wr _ 3 _ _ _ ci.box
          have f4 : wr.cell? ⟨s5, 4, none⟩ = some (.int .i64 d) := cell_of_row wr _ 4 _ _ _ ci.box
          have hdr : x.args.drop r = x.args[r] :: x.args.drop (r + 1) := List.drop_eq_getElem_cons hq
          have HDR := Lib.hid hdr
          have CI := Lib.hid ci
          have YRI := Lib.hid yri
          have hri : (r : Int) < (x.args.length : Int) := by omega
          have hd3 : d ≤ 1000000000 := by have h4 : t.size ≤ 1000000000 := hM; omega
          clear hdr ci yri xt
          generalize x.args[r] = xr at *
          go_wp2
          refine wp_region_rest (by kernel_rfl) ?_
          have hdw : Below wr.heap.size wr wr.drew := (Below.refl _ _).drew
          replace f3 := (hdw.cell (p := ⟨s5, 3, none⟩) CI.out.low.2).trans f3
          replace f4 := (hdw.cell (p := ⟨s5, 4, none⟩) CI.out.low.2).trans f4
          replace y0 := (hdw.cell (p := ⟨xb, xo + r * 4, none⟩) (World.block_lt_of_cell? _ _ y0)).trans y0
          replace y1 := (hdw.cell (p := ⟨xb, xo + r * 4 + 1, none⟩) (World.block_lt_of_cell? _ _ y1)).trans y1
          replace y2 := (hdw.cell (p := ⟨xb, xo + r * 4 + 2, none⟩) (World.block_lt_of_cell? _ _ y2)).trans y2
          replace y3 := (hdw.cell (p := ⟨xb, xo + r * 4 + 3, none⟩) (World.block_lt_of_cell? _ _ y3)).trans y3
          have hd0 : wr.drew.heap.size = wr.heap.size := rfl
          generalize wr.drew = W0 at *
          have HD0 := Lib.hid hd0
          clear hd0
          refine rest_chain 0 12 [(false, [0, 1, 2, 3, 4, 5, 6, 7, 8, 9, 10]), (true, [11])] [(false, [_, _, _, _, _, _, _, _, _, _, _]), (true, [_])] rfl (by kernel_rfl) (by kernel_rfl) rfl (by kernel_rfl) (by kernel_rfl) (.inr (by kernel_rfl)) ?_
          refine chain_soft ?_
          intro E hE
          go_wp2
          clear f3 f4 y0 y1 y2 y3
          refine chain_one ?_
          intro E hE
          go_wp2
          refine ⟨(Below.refl _ _).alloc (Nat.le_refl _) _, ?_⟩
          refine chain_nil ?_
          have hci := CI.out
          have hbw : Below wr.heap.size wr (W0.alloc (.cells #[.int .i64 xr.k, .int .i64 xr.n, .string xr.s, .slice pa xr.args.length pc, .int .i64 (d + 1)] 171 (0, 0))) := hdw.alloc (by have := HD0.out; omega) _
          have hrow := heap_alloc_new W0 (.cells #[.int .i64 xr.k, .int .i64 xr.n, .string xr.s, .slice pa xr.args.length pc, .int .i64 (d + 1)] 171 (0, 0))
          have hu1 : (W0.alloc (.cells #[.int .i64 xr.k, .int .i64 xr.n, .string xr.s, .slice pa xr.args.length pc, .int .i64 (d + 1)] 171 (0, 0))).heap.size = W0.heap.size + 1 := by simp
          generalize W0.alloc (.cells #[.int .i64 xr.k, .int .i64 xr.n, .string xr.s, .slice pa xr.args.length pc, .int .i64 (d + 1)] 171 (0, 0)) = u at *
          have hk1 := V.below hci.sig hbw
          have hu2 : wr.heap.size + 1 ≤ u.heap.size := by have := HD0.out; omega
          clear hu1
          have HOWN := Lib.hid (hci.own.below hbw)
          have HKP := Lib.hid (hci.keeps.trans (Keeps.of hbw (M := V.Mine (D ++ [(x, d)]) wr)) hci.mine)
          have HSIG := Lib.hid hk1.1
          have HMINE : Hid (∀ b, V.Mine (D ++ [(x, d)]) u b → V.Mine [] w b ∨ w.heap.size ≤ b) := Lib.hid fun b hb => hci.mine b (hk1.2 b hb)
          have HNOTG : Hid (¬ V.Mine (D ++ [(x, d)]) u g5) := Lib.hid fun h => hci.notg (hk1.2 _ h)
          have HBX := Lib.hid ((hbw.block _ hci.low.2).trans hci.box)
          have HXI := Lib.hid (hci.xi.below hbw)
          have hlow := hci.low
          have HNE := Lib.hid hci.ne
          have HLEN := Lib.hid hci.len
          have hg5 := (hci.own.low g5 rfl)
          have YR : Hid (abKind.R u (fun b => (b < w.heap.size ∧ ¬ V.Mine [] w b) ∧ Value.ownBlock (.slice (some ⟨g5, 0, none⟩) n5 cap5) ≠ some b) [.int .i64 xr.k, .int .i64 xr.n, .string xr.s, .slice pa xr.args.length pc, .int .i64 (d + 1)] (xr, d + 1)) := by
            obtain ⟨a', c', e, h'⟩ := YRI.out.below hbw
            simp at e
            obtain ⟨rfl, rfl⟩ := e
            exact Lib.hid ⟨pa, pc, rfl, ArgsFrom.imp (fun b h => ⟨h, fun e => by have h2 : g5 = b := Option.some.inj (show some g5 = some b from e); have h1 := h.1; have := hg5.1; omega⟩) (fun _ _ _ => rfl) _ _ _ h'⟩
          have HROW := Lib.hid hrow
          have hlL : (l' ++ ((x.args.drop (r + 1)).map fun t => (t, d + 1)).reverse).length ≤ 1000000000 := by
            have h0 := HM.out
            have h1 := len_sumA l'
            have h2 := len_le x.args
            have h3 := HSX.out
            have h4 : t.size ≤ 1000000000 := hM
            simp
            omega
          have hbase : w.heap.size + 1 ≤ u.heap.size := by omega
          clear hci hbw hrow hk1 CI YRI
          refine rest_lineL 12 14 [_, _] rfl (by kernel_rfl) (by decide) (by decide) (by kernel_rfl) ?_
          go_wp2_with (
            (with_reducible show wpList _ _ _ (⟨some 51, _, _, _, _, _⟩ :: _) _ _
             refine wpList_put (K := abKind) rfl (.tmp 39) (.tmp 50) _ rfl Try.underlying172 info_above rfl (w.heap.size + 1) _ _ _ _ (xr, d + 1) W0.heap.size _ _ _ rfl HOWN.out rfl HROW.out YR.out (by unfold maxLen; omega) (by omega) hbase ?_
             intro v3 w3 hown hb3 hgr hv3
             have el : (l' ++ ((x.args.drop (r + 1)).map fun t => (t, d + 1)).reverse ++ [(xr, d + 1)]) = l' ++ ((x.args.drop r).map fun t => (t, d + 1)).reverse := by rw [HDR.out, List.map_cons, List.reverse_cons, List.append_assoc]
             have en : (l' ++ ((x.args.drop r).map fun t => (t, d + 1)).reverse).length = n5 + 1 := by have h1 := HLEN.out; have h2 := HM.out; simp; omega
             rw [el] at hown
             obtain ⟨g9, c9, e9⟩ : ∃ g9 c9, v3 = .slice (some ⟨g9, 0, none⟩) (n5 + 1) c9 := by
               rcases hown.form with h | ⟨g9, c9, e9⟩
               · exfalso; have := congrArg List.length h.2; rw [en] at this; simp at this
               · exact ⟨g9, c9, by rw [e9, en]⟩
             subst e9
             have hnew : WkIn V w (fun b => b < w.heap.size ∧ ¬ V.Mine [] w b) (D ++ [(x, d)]) s5 x d (some ⟨xb, xo, none⟩) xc l' r g9 c9 (n5 + 1) w3 := by
               have hv9 : g9 = g5 ∨ u.heap.size ≤ g9 := by
                 rcases hv3 g9 rfl with h | h
                 · exact .inl (Option.some.inj (show some g5 = some g9 from h)).symm
                 · exact .inr h
               have hne9 : g9 ≠ s5 := fun e => by
                 rcases hv9 with h | h
                 · exact HNE.out (h.symm.trans e)
                 · omega
               have hg := hgr
               have hk3 := V.keep HSIG.out hg.size fun b hb hm => hg.block b hb fun e => HNOTG.out (by have : b = g5 := Option.some.inj (show some b = some g5 from e); rw [← this]; exact hm)
               refine ⟨by have h1 := HLEN.out; omega, hown, ?_, hk3.1, fun b hb => HMINE.out b (hk3.2 b hb), fun hm => ?_, (hgr.block _ (by omega) (fun e => HNE.out (Option.some.inj (show some g5 = some s5 from e.symm)))).trans HBX.out, hne9, ⟨hlow.1, by have := hgr.size; omega⟩, ?_⟩
               · exact HKP.out.trans (Keeps.grown (M := fun b => b = g5) hg fun b e => .inl (Option.some.inj (show some g5 = some b from e)).symm) fun b e => .inr (by rw [e]; omega)
               · have hm' := hk3.2 _ hm
                 rcases hv9 with h | h
                 · rw [h] at hm'; exact HNOTG.out hm'
                 · have := V.low HSIG.out hm'; omega
               · exact HXI.out.imp (fun _ h => h) fun b h _ => hb3.block b (by have := h.1; omega)
             have HNEW := Lib.hid hnew
             clear hnew hown hb3 hgr hv3 el en))
          refine then_rest (rest_end (by decide) ?_)
          go_wp2
          go_roundw
          case rel => exact ⟨r, g9, c9, n5 + 1, by omega, rfl, rfl, HNEW.out⟩
          case measure => simp [intOf]
end Go.Proofs.Ytoklbeogmcdgaaa.Tms
namespace Go.Proofs.Ytoklbeogmcdgaaa.Tms
open Go Go.RowKit Go.Proofs.Ytoklbeogmcdgaaa.Reg Go.Proofs.Ytoklbeogmcdgaaa.Rws
set_option linter.unusedVariables false

def takeL (L : List Int) (p : Tm × Int) : List Int := if p.1.k = 1 then numL L p.1.n else L
theorem seen_take (base mb mm : Nat) (L : List Int) (t : Tm) (d : Int) (v : Value) (P : Nat → Prop) (w : World) (hL : L.length ≤ 1000000000) (h : SeenAt base mb mm L w) (ht : IsTm w P v t) :
    Calls Try.prog 98 #[.pointer (some ⟨mb, 0, none⟩), v, .int .i64 d] w fun e w' => e = .returned (.tuple #[]) ∧ Told base mb mm (takeL L (t, d)) w w' := by
  obtain ⟨a, c, rfl⟩ := ht.form
  have hba : Below w.heap.size w (w.alloc (.cells #[.int .i64 t.k, .int .i64 t.n, .string t.s, .slice a t.args.length c] 33 (0, 0))) := (Below.refl _ _).alloc (Nat.le_refl _) _
  have hk := h.keep hba.size fun b hb _ => hba.block b hb
  have HK := Lib.hid hk
  have HBA := Lib.hid hba
  clear hba hk ht h
  by_cases h1 : t.k = 1
  · have hq : (t.k == 1) = true := by simpa using h1
    have ht : takeL L (t, d) = numL L t.n := by simp [takeL, h1]
    rw [ht]
    clear h1 ht
    go_enter Try.func98, Try.ntmps98
    go_wp2_with (refine (seen_number base mb mm L t.n _ hL HK.out.1).mono ?_; rintro e2 w2 ⟨rfl, h2⟩; have H2 := Lib.hid h2; clear h2)
    refine ⟨rfl, .tuple #[], by simp [results, Try.results98, go_sem], rfl, H2.out.1, (Keeps.of HBA.out (M := SeenMine mb mm w)).trans H2.out.2.1 fun b hb => .inl (HK.out.2 b hb), fun b hb => ?_⟩
    rcases H2.out.2.2 b hb with h | h
    · exact .inl (HK.out.2 b h)
    · exact .inr (by have := HBA.out.size; omega)
  · have hq : (t.k == 1) = false := by simpa using h1
    have ht : takeL L (t, d) = L := by simp [takeL, h1]
    rw [ht]
    clear h1 ht
    go_enter Try.func98, Try.ntmps98
    go_wp2
    exact ⟨rfl, .tuple #[], by simp [results, Try.results98, go_sem], rfl, HK.out.1, Keeps.of HBA.out, fun b hb => .inl (HK.out.2 b hb)⟩

/-- the variables' numbers, as they come -/
def varsD (D : List (Tm × Int)) : List Int := D.foldl takeL []
def varsT (t : Tm) : List Int := varsD (parts 1 t)
theorem numL_len (L : List Int) (n : Int) : (numL L n).length ≤ L.length + 1 := by unfold numL; split <;> simp
theorem varsD_len (D : List (Tm × Int)) : (varsD D).length ≤ D.length := by
  have key : ∀ (D : List (Tm × Int)) (L : List Int), (D.foldl takeL L).length ≤ L.length + D.length := by
    intro D
    induction D with
    | nil => intro L; simp
    | cons p D ih =>
      intro L
      rw [List.foldl_cons]
      have h1 := ih (takeL L p)
      have h2 : (takeL L p).length ≤ L.length + 1 := by unfold takeL; split; exact numL_len _ _; omega
      simp only [List.length_cons]
      omega
  have := key D []
  simpa [varsD] using this
theorem varsD_snoc (D : List (Tm × Int)) (p : Tm × Int) : varsD (D ++ [p]) = takeL (varsD D) p := by simp [varsD]
def seenVis (base mb mm : Nat) : Vis where
  Sig := fun D W => SeenAt base mb mm (varsD D) W
  Mine := fun _ W b => SeenMine mb mm W b
  keep := fun h hs hk => h.keep hs hk
  low := fun h hb => h.low hb

/-- a slice of numbers -/
def IntSl (w : World) (P : Nat → Prop) (v : Value) (L : List Int) : Prop := ∃ a cap, v = .slice a L.length cap ∧ L.length ≤ cap ∧ cap ≤ maxLen ∧ ∀ i (h : i < L.length), ∃ b off, a = some ⟨b, off, none⟩ ∧ P b ∧ b < w.heap.size ∧ w.cell? ⟨b, off + i, none⟩ = some (.int .i64 L[i])
theorem IntSl.below {w w' : World} {P : Nat → Prop} {v : Value} {L : List Int} (h : IntSl w P v L) (hb : Below w.heap.size w w') : IntSl w' P v L := by
  obtain ⟨a, cap, e, h1, h2, h3⟩ := h
  refine ⟨a, cap, e, h1, h2, fun i hi => ?_⟩
  obtain ⟨b, off, e, hp, hl, hc⟩ := h3 i hi
  exact ⟨b, off, e, hp, by have := hb.size; omega, (hb.cell (p := ⟨b, off + i, none⟩) hl).trans hc⟩

theorem each_ints {w : World} {P : Nat → Prop} : ∀ {xss : List (List Value)} {L : List Int}, Each intKind w P xss L → xss.flatten = L.map fun n => Value.int .i64 n
  | [], [], _ => rfl
  | x :: xss, n :: L, h => by
    have h1 : x = [.int .i64 n] := h.1
    rw [List.flatten_cons, each_ints h.2, h1]
    rfl
  | [], _ :: _, h => h.elim
  | _ :: _, [], h => h.elim
theorem SeenRow.ints {w : World} {base mb mm : Nat} {lv : Value} {L : List Int} (h : SeenRow w base mb mm lv L) : IntSl w (fun b => base ≤ b) lv L := by
  rcases h.own.form with ⟨rfl, e⟩ | ⟨g, c, rfl⟩
  · subst e
    exact ⟨none, 0, rfl, by simp, by decide, fun i hi => by simp at hi⟩
  · obtain ⟨xss, h1, h2⟩ := h.own
    have hfl := each_ints h2
    have hlow := h.own.low g rfl
    obtain ⟨-, h0 | ⟨g', cap', cur, e, hb, hg, hc, hm, hsz, ht⟩⟩ := id h1
    · cases h0.1
    · simp only [Value.slice.injEq, Option.some.injEq, Addr.mk.injEq, and_true, true_and] at e
      obtain ⟨rfl, rfl⟩ := e
      refine ⟨_, _, rfl, hc, hm, fun i hi => ⟨g, 0, rfl, hlow.1, hlow.2, ?_⟩⟩
      have h5 := h1.cellAt i (by simpa [intKind] using hi)
      rw [Nat.zero_add, h5, hfl]
      simp [hi]
def varsPost (t : Tm) (w : World) (e : Ending) (w' : World) : Prop := ∃ v, e = .returned v ∧ IntSl w' (fun b => w.heap.size ≤ b) v (varsT t) ∧ Below w.heap.size w w'

theorem vars_start (w : World) (o : Obj) : SeenAt w.heap.size (w.heap.size + 1 + 1) (w.heap.size + 1) [] (((w.alloc o).alloc (.map #[] 0)).alloc (.cells #[.slice none 0 0, .map (some (w.heap.size + 1))] 138 (0, 0))) := by
  refine ⟨.slice none 0 0, by have := heap_alloc2_new (w.alloc o) (.map #[] 0) (.cells #[.slice none 0 0, .map (some (w.heap.size + 1))] 138 (0, 0)); simpa using this, ⟨#[], by have := heap_alloc2_old (w.alloc o) (.map #[] 0) (.cells #[.slice none 0 0, .map (some (w.heap.size + 1))] 138 (0, 0)); simpa using this, rfl⟩, Own.nil _ _ _, by omega, by simp [Value.ownBlock], by simp [Value.ownBlock], by simp; omega⟩
theorem vars_new (w : World) (o : Obj) (b : Nat) (h : SeenMine (w.heap.size + 1 + 1) (w.heap.size + 1) (((w.alloc o).alloc (.map #[] 0)).alloc (.cells #[.slice none 0 0, .map (some (w.heap.size + 1))] 138 (0, 0))) b) : w.heap.size ≤ b := by
  have hr : (((w.alloc o).alloc (.map #[] 0)).alloc (.cells #[.slice none 0 0, .map (some (w.heap.size + 1))] 138 (0, 0))).heap[w.heap.size + 1 + 1]? = some (.cells #[.slice none 0 0, .map (some (w.heap.size + 1))] 138 (0, 0)) := by
    have := heap_alloc2_new (w.alloc o) (.map #[] 0) (.cells #[.slice none 0 0, .map (some (w.heap.size + 1))] 138 (0, 0)); simpa using this
  rcases h with h | h | ⟨lv, hc, h⟩
  · omega
  · omega
  · rw [cell_of_row _ _ 0 _ _ _ hr] at hc
    obtain rfl := Option.some.inj hc
    cases h

theorem tm_Vars (t : Tm) (v : Value) (P : Nat → Prop) (w : World) (hM : t.size ≤ 1000000000) (h : IsTm w P v t) :
    Calls Try.prog 57 #[v] w (varsPost t w) := by
  have hl := h.lt
  clear h
  obtain ⟨a, c, rfl⟩ := hl.form
  have hst := vars_start w (.cells #[.int .i64 t.k, .int .i64 t.n, .string t.s, .slice a t.args.length c] 33 (0, 0))
  have hnew := vars_new w (.cells #[.int .i64 t.k, .int .i64 t.n, .string t.s, .slice a t.args.length c] 33 (0, 0))
  have hb : Below w.heap.size w (((w.alloc (.cells #[.int .i64 t.k, .int .i64 t.n, .string t.s, .slice a t.args.length c] 33 (0, 0))).alloc (.map #[] 0)).alloc (.cells #[.slice none 0 0, .map (some (w.heap.size + 1))] 138 (0, 0))) := (((Below.refl _ _).alloc (Nat.le_refl _) _).alloc (by simp) _).alloc (by simp; omega) _
  have HST := Lib.hid hst
  have HNEW := Lib.hid hnew
  have HB := Lib.hid hb
  have HL := Lib.hid hl
  clear hl hst hnew hb
  go_enter Try.func57, Try.ntmps57
  go_wp2_with (first
    | (refine wpList_makeMap rfl 136 rfl ?_)
    | fail)
  refine (walk_seen (seenVis w.heap.size (w.heap.size + 1 + 1) (w.heap.size + 1)) (.pointer (some ⟨w.heap.size + 1 + 1, 0, none⟩)) t _ _ _ hM (HL.out.below HB.out) (fun b h e => by have h1 := h.2; have h2 := HNEW.out b e; omega) HST.out ?_).mono ?_
  · intro D p rest va P' W hp hs hi hq h1 h2
    have hlen := varsD_len D
    have hpl := parts_len 1 t
    rw [hp] at hpl
    simp only [List.length_append, List.length_cons] at hpl
    refine (seen_take _ _ _ _ p.1 p.2 va P' W (by omega) hs hi).mono ?_
    rintro e w' ⟨rfl, h3, h4, h5⟩
    exact ⟨rfl, by show SeenAt _ _ _ (varsD (D ++ [p])) w'; rw [varsD_snoc]; exact h3, h4, h5⟩
  rintro e4 w4 ⟨rfl, hs4, hk4, hm4⟩
  obtain ⟨lv, hs4⟩ : SeenAt w.heap.size (w.heap.size + 1 + 1) (w.heap.size + 1) (varsT t) w4 := hs4
  have hb4 : Below w.heap.size w w4 := HB.out.trans ⟨hk4.os, hk4.tape, hk4.output, hk4.size, fun b hb => hk4.block b (by have := HB.out.size; omega) fun e => by have := HNEW.out b e; omega⟩
  have y0 : w4.cell? ⟨w.heap.size + 1 + 1, 0, none⟩ = some lv := cell_of_row w4 _ 0 _ _ _ hs4.row
  have HI := Lib.hid hs4.ints
  have HB4 := Lib.hid hb4
  obtain ⟨q, cq, hlv, -⟩ := HI.out
  subst hlv
  clear hs4 hk4 hm4 hb4 HST HNEW HB HL
  go_wp2
  go_ret
  exact ⟨_, rfl, HI.out, HB4.out⟩
end Go.Proofs.Ytoklbeogmcdgaaa.Tms
