
/-
  What term.seen keeps (the numbers that came, and where each stands), and its methods number and take, walked.
  term.seen's number and take of the program walked.
  term.walk of the program with (*prolix/term.seen).take as its visitor, walked (printed by gen_walk.py).
  term.seen's take, and term.Vars, of the program walked.
-/
import Derived.Test.YtkhchmgdaolojaaMsd
import Derived.Test.YtkhchmgdaolojaaJnt
import Derived.Test.YtkhchmgdaolojaaBas
import Derived.Test.YtkhchmgdaolojaaVisit
namespace Go.Proofs.Ytkhchmgdaolojaa.Tms
open Go Go.RowKit Go.Proofs.Ytkhchmgdaolojaa.Reg Go.Proofs.Ytkhchmgdaolojaa.Rws
set_option linter.unusedVariables false

/-- a number in one cell -/
def intKind : Rws.Kind Int where
  T := 2
  sz := 1
  R := fun w P cs a => cs = [.int .i64 a]
  pos := by decide
  len := by rintro w P cs a rfl; rfl
  one := by
    rintro w P cs a rfl v hv
    simp only [List.mem_cons, List.not_mem_nil, or_false] at hv
    subst hv; rfl
  mono := by rintro w w' P P' cs a hP hw rfl; rfl
  lt := by rintro w P cs a rfl; rfl
theorem info_int64 : (Try.prog.info? 2).map (fun i => (i.zero, i.size, i.bytes)) = some (some (.int .i64 0), 1, 8) := by kernel_rfl

/-- the numbers' entries -/
def seenEs (i : Nat) : List Int → List MapEntry
  | [] => []
  | n :: l => ⟨.int .i64 n, .int .i64 i, i⟩ :: seenEs (i + 1) l
theorem seenEs_app : ∀ (i : Nat) (l m : List Int), seenEs i (l ++ m) = seenEs i l ++ seenEs (i + l.length) m
  | i, [], m => by simp [seenEs]
  | i, n :: l, m => by simp [seenEs, seenEs_app (i + 1) l m, Nat.add_comm, Nat.add_left_comm]
/-- where a number stands among those that came -/
def place : List Int → Int → Option Nat
  | [], _ => none
  | x :: l, n => if n = x then some 0 else (place l n).map (· + 1)
theorem findNow_seen (k : IntKind) (n : Int) : ∀ (l : List Int) (i j : Nat), Instr.findNow (.int k) (.int .i64 n) (seenEs i l) j = some ((place l n).map fun p => (j + p, .int .i64 ((i + p : Nat) : Int)))
  | [], i, j => by simp [seenEs, Instr.findNow, place]
  | x :: l, i, j => by
    have ih := findNow_seen k n l (i + 1) (j + 1)
    by_cases h : n = x
    · simp [seenEs, Instr.findNow, Instr.sameNow, place, h]
    · simp only [seenEs, Instr.findNow, Instr.sameNow, if_true, place, if_neg h]
      have hb : (n == x) = false := by simpa using h
      rw [hb]
      simp only []
      rw [ih]
      cases place l n <;> simp
      omega
def numL (l : List Int) (n : Int) : List Int := if (place l n).isSome then l else l ++ [n]
def numP (l : List Int) (n : Int) : Nat := (place l n).getD l.length
theorem place_lt : ∀ {l : List Int} {n : Int} {p : Nat}, place l n = some p → p < l.length
  | x :: l, n, p, h => by
    unfold place at h
    split at h
    · simp only [Option.some.injEq] at h; subst h; simp
    · cases hp : place l n with
      | none => rw [hp] at h; cases h
      | some q => rw [hp] at h; simp only [Option.map_some, Option.some.injEq] at h; subst h; have := place_lt hp; simp; omega

/-- what lies in memory -/
structure SeenRow (W : World) (base mb mm : Nat) (lv : Value) (L : List Int) : Prop where
  row : W.heap[mb]? = some (.cells #[lv, .map (some mm)] 127 (0, 0))
  map : ∃ es : Array MapEntry, W.heap[mm]? = some (.map es L.length) ∧ es.toList = seenEs 0 L
  own : Own intKind W base (fun _ => False) lv L
  ne : mb ≠ mm
  nb : lv.ownBlock ≠ some mb
  nm : lv.ownBlock ≠ some mm
  base : base ≤ W.heap.size
def SeenAt (base mb mm : Nat) (L : List Int) (W : World) : Prop := ∃ lv, SeenRow W base mb mm lv L
/-- its blocks -/
def SeenMine (mb mm : Nat) (W : World) (b : Nat) : Prop := b = mb ∨ b = mm ∨ ∃ lv, W.cell? ⟨mb, 0, none⟩ = some lv ∧ lv.ownBlock = some b
theorem SeenAt.keep {base mb mm : Nat} {L : List Int} {W W' : World} (h : SeenAt base mb mm L W) (hs : W.heap.size ≤ W'.heap.size) (hk : ∀ b, b < W.heap.size → SeenMine mb mm W b → W'.heap[b]? = W.heap[b]?) : SeenAt base mb mm L W' ∧ ∀ b, SeenMine mb mm W' b → SeenMine mb mm W b := by
  obtain ⟨lv, h⟩ := h
  obtain ⟨es, h1, h2⟩ := h.map
  have hmb := hk mb (Array.getElem?_eq_some_iff.1 h.row).1 (.inl rfl)
  have hmm := hk mm (Array.getElem?_eq_some_iff.1 h1).1 (.inr (.inl rfl))
  have c0 : W.cell? ⟨mb, 0, none⟩ = some lv := cell_of_row W mb 0 _ _ _ h.row
  have c0' : W'.cell? ⟨mb, 0, none⟩ = some lv := cell_of_row W' mb 0 _ _ _ (hmb.trans h.row)
  refine ⟨⟨lv, hmb.trans h.row, ⟨es, hmm.trans h1, h2⟩, h.own.keep hs fun b hb hp => ?_, h.ne, h.nb, h.nm, Nat.le_trans h.base hs⟩, fun b hb => ?_⟩
  · rcases hp with hp | hp
    · exact hp.elim
    · exact hk b hb (.inr (.inr ⟨lv, c0, hp⟩))
  · rcases hb with hb | hb | ⟨lv', hc, hb⟩
    · exact .inl hb
    · exact .inr (.inl hb)
    · rw [c0'] at hc
      obtain rfl := Option.some.inj hc
      exact .inr (.inr ⟨lv, c0, hb⟩)
theorem SeenAt.low {base mb mm : Nat} {L : List Int} {W : World} (h : SeenAt base mb mm L W) {b : Nat} (hb : SeenMine mb mm W b) : b < W.heap.size := by
  obtain ⟨lv, h⟩ := h
  obtain ⟨es, h1, h2⟩ := h.map
  have c0 : W.cell? ⟨mb, 0, none⟩ = some lv := cell_of_row W mb 0 _ _ _ h.row
  rcases hb with rfl | rfl | ⟨lv', hc, hb⟩
  · exact (Array.getElem?_eq_some_iff.1 h.row).1
  · exact (Array.getElem?_eq_some_iff.1 h1).1
  · rw [c0] at hc
    obtain rfl := Option.some.inj hc
    exact (h.own.low b hb).2

theorem wpList_makeMap {P : Program} {w : World} {ops : Array Oper} {rest : List Oper} {o : Oper} {a : Act} {Q : Exit → Act → World → Prop} (hgd : o.guard = none) (t : TypeId) (ho : o.op = .makeMap t none)
    (hK : wpList P ops Q rest (a.put o.dst (.map (some w.heap.size))) (w.alloc (.map #[] 0))) : wpList P ops Q (o :: rest) a w := by
  refine wpList_plain hgd fun K hK' => ?_
  have hrun := run_makeMap (P := P) t w
  unfold Oper.wp
  simp [execOp, ho, hrun, Result.andThen]
  exact hK' _ _ hK
theorem wpList_update_new {P : Program} {w : World} {ops : Array Oper} {rest : List Oper} {o : Oper} {a : Act} {Q : Exit → Act → World → Prop} (hgd : o.guard = none) (t : TypeId) (m k x : Operand) (ho : o.op = .mapUpdate t m k x) (kt et : TypeId) (d : TypeDesc)
    (h : P.underlying t = some (.map kt et)) (hk : P.underlying kt = some d) (hp : Maps.plainKey d = true) (b : Nat) (es : Array MapEntry) (c : Nat) (hm : a.eval m = .map (some b)) (hb : w.heap[b]? = some (.map es c)) (hf : Instr.findNow d (a.eval k) es.toList 0 = some none)
    (hK : ∀ w', w'.heap[b]? = some (.map (es.push ⟨a.eval k, a.eval x, c⟩) (c + 1)) → w.grownBy w' (some b) → wpList P ops Q rest (a.put o.dst undef) w') : wpList P ops Q (o :: rest) a w := by
  refine wpList_plain hgd fun K hK' => ?_
  have hrun := Maps.run_insert_new (P := P) w t kt et d h hk hp b (a.eval k) (a.eval x) es c hb hf
  unfold Oper.wp
  simp [execOp, ho, hm, hrun, Result.andThen]
  exact hK' _ _ (hK _ (Maps.setObj'_at _ _ _ (Array.getElem?_eq_some_iff.1 hb).1) (Maps.setObj'_grown _ _ _))
end Go.Proofs.Ytkhchmgdaolojaa.Tms
namespace Go.Proofs.Ytkhchmgdaolojaa.Tms
open Go Go.RowKit Go.Proofs.Ytkhchmgdaolojaa.Reg Go.Proofs.Ytkhchmgdaolojaa.Rws
set_option linter.unusedVariables false

/-- what a call leaves that may have told a new number -/
def Told (base mb mm : Nat) (L : List Int) (w w' : World) : Prop :=
  SeenAt base mb mm L w' ∧ Keeps w w' (SeenMine mb mm w) ∧ ∀ b, SeenMine mb mm w' b → SeenMine mb mm w b ∨ w.heap.size ≤ b

theorem told_new {base mb mm : Nat} {L : List Int} {n : Int} {q : Option Addr} {c g9 c9 : Nat} {es : Array MapEntry} {w w2 w3 : World} (hs : SeenRow w base mb mm (.slice q L.length c) L) (hes : es.toList = seenEs 0 L)
    (hg2 : w.grownBy w2 (some mm)) (hm2 : w2.heap[mm]? = some (.map (es.push ⟨.int .i64 n, .int .i64 L.length, L.length⟩) (L.length + 1))) (hg3 : (w2.alloc (.cells #[.int .i64 n] 2 (0, 0))).grownBy w3 (Value.slice q L.length c).ownBlock)
    (hown3 : Own intKind w3 base (fun _ => False) (.slice (some ⟨g9, 0, none⟩) (L.length + 1) c9) (L ++ [n])) (hv3 : ∀ k, (Value.slice (some ⟨g9, 0, none⟩) (L.length + 1) c9).ownBlock = some k → (Value.slice q L.length c).ownBlock = some k ∨ (w2.alloc (.cells #[.int .i64 n] 2 (0, 0))).heap.size ≤ k) :
    (w3.cell? ⟨mb, 0, none⟩ = some (.slice q L.length c) ∧ w3.frozen? ⟨mb, 0, none⟩ = false) ∧ Told base mb mm (L ++ [n]) w (w3.setCell ⟨mb, 0, none⟩ (.slice (some ⟨g9, 0, none⟩) (L.length + 1) c9)) := by
  have hb2 : w.heap.size ≤ w2.heap.size := hg2.size
  have hsz : (w2.alloc (.cells #[.int .i64 n] 2 (0, 0))).heap.size = w2.heap.size + 1 := by simp
  have hba : Below w2.heap.size w2 (w2.alloc (.cells #[.int .i64 n] 2 (0, 0))) := (Below.refl _ _).alloc (Nat.le_refl _) _
  generalize w2.alloc (.cells #[.int .i64 n] 2 (0, 0)) = u at *
  have hne : mb ≠ mm := hs.ne
  have hmbw : mb < w.heap.size := (Array.getElem?_eq_some_iff.1 hs.row).1
  have hr2 := (hg2.block mb hmbw (fun e => hne (Option.some.inj e))).trans hs.row
  have hlt : mb < w2.heap.size := by omega
  have hltm : mm < w2.heap.size := (Array.getElem?_eq_some_iff.1 hm2).1
  have hr3 := (hg3.block mb (by omega) (fun e => hs.nb e.symm)).trans ((hba.block mb hlt).trans hr2)
  have hm3 := (hg3.block mm (by omega) (fun e => hs.nm e.symm)).trans ((hba.block mm hltm).trans hm2)
  have hne3 : (Value.slice (some ⟨g9, 0, none⟩) (L.length + 1) c9).ownBlock ≠ some mb := fun e => by
    rcases hv3 mb e with h | h
    · exact hs.nb h
    · omega
  have hnm3 : (Value.slice (some ⟨g9, 0, none⟩) (L.length + 1) c9).ownBlock ≠ some mm := fun e => by
    rcases hv3 mm e with h | h
    · exact hs.nm h
    · omega
  have hrow4 := heap_setCell_same w3 mb 0 _ _ (.slice (some ⟨g9, 0, none⟩) (L.length + 1) c9) hr3
  have hm4 := (Below.heap_setCell w3 ⟨mb, 0, none⟩ (.slice (some ⟨g9, 0, none⟩) (L.length + 1) c9) mm (fun e => hne e.symm)).trans hm3
  have hsz4 : (w3.setCell ⟨mb, 0, none⟩ (.slice (some ⟨g9, 0, none⟩) (L.length + 1) c9)).heap.size = w3.heap.size := by simp [World.setCell]
  have hrr : (w3.setCell ⟨mb, 0, none⟩ (.slice (some ⟨g9, 0, none⟩) (L.length + 1) c9)).heap[mb]? = some (.cells #[.slice (some ⟨g9, 0, none⟩) (L.length + 1) c9, .map (some mm)] 127 (0, 0)) := by simpa using hrow4
  have hc4 : (w3.setCell ⟨mb, 0, none⟩ (.slice (some ⟨g9, 0, none⟩) (L.length + 1) c9)).cell? ⟨mb, 0, none⟩ = some (.slice (some ⟨g9, 0, none⟩) (L.length + 1) c9) := cell_of_row _ mb 0 _ _ _ hrr
  have hs3 : w.heap.size ≤ w3.heap.size := by have := hg3.size; omega
  have hcw : w.cell? ⟨mb, 0, none⟩ = some (.slice q L.length c) := cell_of_row w mb 0 _ _ _ hs.row
  refine ⟨⟨cell_of_row w3 mb 0 _ _ _ hr3, frozen_of_row w3 mb 0 _ _ hr3⟩, ⟨_, hrr, ⟨es.push ⟨.int .i64 n, .int .i64 L.length, L.length⟩, by rw [hm4]; simp, ?_⟩, hown3.keep (by omega) fun b hb hp => ?_, hne, hne3, hnm3, Nat.le_trans hs.base (by omega)⟩, ⟨?_, ?_, ?_, by omega, fun b hb hn => ?_⟩, fun b hb => ?_⟩
  · rw [Array.toList_push, hes, seenEs_app]
    simp [seenEs]
  · refine Below.heap_setCell _ _ _ _ fun e => ?_
    rcases hp with hp | hp
    · exact hp
    · exact hne3 (by rw [hp, e])
  · exact hg3.os.trans (hba.os.trans hg2.os)
  · exact hg3.tape.trans (hba.tape.trans hg2.tape)
  · exact hg3.output.trans (hba.output.trans hg2.output)
  · have h1 : b ≠ mb := fun e => hn (.inl e)
    have h2 : b ≠ mm := fun e => hn (.inr (.inl e))
    exact (Below.heap_setCell _ _ _ _ h1).trans ((hg3.block b (by omega) fun e => hn (.inr (.inr ⟨_, hcw, e.symm⟩))).trans ((hba.block b (by omega)).trans (hg2.block b hb fun e => h2 (Option.some.inj e))))
  · rcases hb with hb | hb | ⟨lv', hc, hb⟩
    · exact .inl (.inl hb)
    · exact .inl (.inr (.inl hb))
    · rw [hc4] at hc
      obtain rfl := Option.some.inj hc
      rcases hv3 b hb with h | h
      · exact .inl (.inr (.inr ⟨_, hcw, h⟩))
      · exact .inr (by omega)

set_option maxHeartbeats 1600000 in
theorem seen_number (base mb mm : Nat) (L : List Int) (n : Int) (w : World) (hL : L.length ≤ 1000000000) (h : SeenAt base mb mm L w) :
    Calls Try.prog 58 #[.pointer (some ⟨mb, 0, none⟩), .int .i64 n] w fun e w' => e = .returned (.int .i64 (numP L n)) ∧ Told base mb mm (numL L n) w w' := by
  obtain ⟨lv, h⟩ := h
  obtain ⟨es, hm, hes⟩ := h.map
  have c0 : w.cell? ⟨mb, 0, none⟩ = some lv := cell_of_row w mb 0 _ _ _ h.row
  have c1 : w.cell? ⟨mb, 1, none⟩ = some (.map (some mm)) := cell_of_row w mb 1 _ _ _ h.row
  have hf := findNow_seen .i64 n L 0 0
  rw [← hes] at hf
  cases hp : place L n with
  | some p =>
    rw [hp] at hf
    simp only [Option.map_some, Nat.zero_add] at hf
    have hn : numP L n = p := by simp [numP, hp]
    have hl : numL L n = L := by simp [numL, hp]
    have HF := Lib.hid hf
    have HM := Lib.hid hm
    have HS : Hid (SeenAt base mb mm L w) := Lib.hid ⟨lv, h⟩
    rw [hn, hl]
    clear hf hm h hp hn hl hes
    go_enter Try.func58, Try.ntmps58
    go_wp2_with (refine Maps.wpList_lookup_now rfl 124 (.tmp 11) (.tmp 12) rfl _ _ _ Try.underlying124 Try.underlying2 rfl mm _ _ rfl HM.out _ HF.out (.int .i64 0) (fun _ => by kernel_rfl) ?_)
    go_ret
    exact ⟨rfl, HS.out, Keeps.refl _ _, fun b h => .inl h⟩
  | none =>
    rw [hp] at hf
    simp only [Option.map_none] at hf
    have hn : numP L n = L.length := by simp [numP, hp]
    have hl : numL L n = L ++ [n] := by simp [numL, hp]
    have HF := Lib.hid hf
    have HM := Lib.hid hm
    have HS := Lib.hid h
    have HES := Lib.hid hes
    have C0 := Lib.hid c0
    have z1 : w.frozen? ⟨mb, 0, none⟩ = false := frozen_of_row w mb 0 _ _ h.row
    rw [hn, hl]
    clear hf hm hp hn hl hes
    have hform : ∃ q c, lv = .slice q L.length c := by
      rcases h.own.form with ⟨rfl, e⟩ | ⟨g, c, rfl⟩
      · exact ⟨none, 0, by rw [e]; rfl⟩
      · exact ⟨_, c, rfl⟩
    obtain ⟨q, c, rfl⟩ := hform
    clear h
    go_enter Try.func58, Try.ntmps58
    go_wp2_with (first
      | (refine Maps.wpList_lookup_now rfl 124 (.tmp 11) (.tmp 12) rfl _ _ _ Try.underlying124 Try.underlying2 rfl mm _ _ rfl HM.out _ HF.out (.int .i64 0) (fun _ => by kernel_rfl) ?_)
      | (refine wpList_update_new rfl 124 (.tmp 26) (.tmp 27) (.tmp 28) rfl _ _ _ Try.underlying124 Try.underlying2 rfl mm _ _ rfl HM.out HF.out ?_
         intro w2 hm2 hg2
         have hs := HS.out
         have hne : mb ≠ mm := hs.ne
         have hr2 := (hg2.block mb (Array.getElem?_eq_some_iff.1 hs.row).1 (fun e => hne (Option.some.inj e))).trans hs.row
         have hown2 := hs.own.keep hg2.size fun b hb hp => hg2.block b hb fun e => by
           rcases hp with hp | hp
           · exact hp
           · exact hs.nm (by rw [hp]; exact e)
         have hb2 : w.heap.size ≤ w2.heap.size := hg2.size
         have c0 : w2.cell? ⟨mb, 0, none⟩ = some (.slice q L.length c) := cell_of_row w2 mb 0 _ _ _ hr2
         have HM2 := Lib.hid hm2
         have HG2 := Lib.hid hg2
         have HR2 := Lib.hid hr2
         have HOWN2 := Lib.hid hown2
         clear hm2 hg2 hr2 hown2 hs c1 z1)
      | (with_reducible show wpList _ _ _ (⟨some 36, _, _, _, _, _⟩ :: _) _ _
         have hba : Below w2.heap.size w2 (w2.alloc (.cells #[.int .i64 n] 2 (0, 0))) := (Below.refl _ _).alloc (Nat.le_refl _) _
         have hrow := heap_alloc_new w2 (.cells #[.int .i64 n] 2 (0, 0))
         have hsz : (w2.alloc (.cells #[.int .i64 n] 2 (0, 0))).heap.size = w2.heap.size + 1 := by simp
         have HBA := Lib.hid hba
         have HSZ := Lib.hid hsz
         refine wpList_put (K := intKind) rfl (.tmp 33) (.tmp 35) _ rfl Try.underlying125 info_int64 rfl base (fun _ => False) _ L [.int .i64 n] n w2.heap.size _ _ _ rfl (HOWN2.out.below hba) rfl hrow rfl (by unfold maxLen; omega) (by omega) (by have := HS.out.base; omega) ?_
         intro v3 w3 hown3 hb3 hg3 hv3
         obtain ⟨g9, c9, rfl⟩ : ∃ g9 c9, v3 = .slice (some ⟨g9, 0, none⟩) (L.length + 1) c9 := by
           rcases hown3.form with h | ⟨g9, c9, e9⟩
           · exfalso; have := congrArg List.length h.2; simp at this
           · exact ⟨g9, c9, by rw [e9]; simp⟩
         obtain ⟨⟨c0, z1⟩, hfin⟩ := told_new HS.out HES.out HG2.out HM2.out hg3 hown3 hv3
         have HFIN := Lib.hid hfin
         clear hfin hown3 hb3 hg3 hv3 hba hrow hsz HBA HSZ))
    go_ret
    exact ⟨rfl, HFIN.out⟩
end Go.Proofs.Ytkhchmgdaolojaa.Tms
namespace Go.Proofs.Ytkhchmgdaolojaa.Tms
open Go Go.RowKit Go.Proofs.Ytkhchmgdaolojaa.Reg Go.Proofs.Ytkhchmgdaolojaa.Rws
set_option linter.unusedVariables false

end Go.Proofs.Ytkhchmgdaolojaa.Tms
namespace Go.Proofs.Ytkhchmgdaolojaa.Tms
open Go Go.RowKit Go.Proofs.Ytkhchmgdaolojaa.Reg Go.Proofs.Ytkhchmgdaolojaa.Rws
set_option linter.unusedVariables false

def takeL (L : List Int) (p : Tm × Int) : List Int := if p.1.k = 1 then numL L p.1.n else L
/-- the variables' numbers, as they come -/
def varsD (D : List (Tm × Int)) : List Int := D.foldl takeL []
def varsT (t : Tm) : List Int := varsD (parts 1 t)
theorem numL_len (L : List Int) (n : Int) : (numL L n).length ≤ L.length + 1 := by unfold numL; split <;> simp
theorem varsD_len (D : List (Tm × Int)) : (varsD D).length ≤ D.length := by
  have key : ∀ (D : List (Tm × Int)) (L : List Int), (D.foldl takeL L).length ≤ L.length + D.length := by
    intro D
    induction D with
    | nil => intro L; simp
    | cons p D ih =>
      intro L
      rw [List.foldl_cons]
      have h1 := ih (takeL L p)
      have h2 : (takeL L p).length ≤ L.length + 1 := by unfold takeL; split; exact numL_len _ _; omega
      simp only [List.length_cons]
      omega
  have := key D []
  simpa [varsD] using this
theorem varsD_snoc (D : List (Tm × Int)) (p : Tm × Int) : varsD (D ++ [p]) = takeL (varsD D) p := by simp [varsD]
def seenVis (base mb mm : Nat) : Vis where
  Sig := fun D W => SeenAt base mb mm (varsD D) W
  Mine := fun _ W b => SeenMine mb mm W b
  keep := fun h hs hk => h.keep hs hk
  low := fun h hb => h.low hb


theorem each_ints {w : World} {P : Nat → Prop} : ∀ {xss : List (List Value)} {L : List Int}, Each intKind w P xss L → xss.flatten = L.map fun n => Value.int .i64 n
  | [], [], _ => rfl
  | x :: xss, n :: L, h => by
    have h1 : x = [.int .i64 n] := h.1
    rw [List.flatten_cons, each_ints h.2, h1]
    rfl
  | [], _ :: _, h => h.elim
  | _ :: _, [], h => h.elim
theorem SeenRow.ints {w : World} {base mb mm : Nat} {lv : Value} {L : List Int} (h : SeenRow w base mb mm lv L) : IntSl w (fun b => base ≤ b) lv L := by
  rcases h.own.form with ⟨rfl, e⟩ | ⟨g, c, rfl⟩
  · subst e
    exact ⟨none, 0, rfl, by simp, by decide, fun i hi => by simp at hi⟩
  · obtain ⟨xss, h1, h2⟩ := h.own
    have hfl := each_ints h2
    have hlow := h.own.low g rfl
    obtain ⟨-, h0 | ⟨g', cap', cur, e, hb, hg, hc, hm, hsz, ht⟩⟩ := id h1
    · cases h0.1
    · simp only [Value.slice.injEq, Option.some.injEq, Addr.mk.injEq, and_true, true_and] at e
      obtain ⟨rfl, rfl⟩ := e
      refine ⟨_, _, rfl, hc, hm, fun i hi => ⟨g, 0, rfl, hlow.1, hlow.2, ?_⟩⟩
      have h5 := h1.cellAt i (by simpa [intKind] using hi)
      rw [Nat.zero_add, h5, hfl]
      simp [hi]
def varsPost (t : Tm) (w : World) (e : Ending) (w' : World) : Prop := ∃ v, e = .returned v ∧ IntSl w' (fun b => w.heap.size ≤ b) v (varsT t) ∧ Below w.heap.size w w'

theorem vars_start (w : World) (o : Obj) : SeenAt w.heap.size (w.heap.size + 1 + 1) (w.heap.size + 1) [] (((w.alloc o).alloc (.map #[] 0)).alloc (.cells #[.slice none 0 0, .map (some (w.heap.size + 1))] 127 (0, 0))) := by
  refine ⟨.slice none 0 0, by have := heap_alloc2_new (w.alloc o) (.map #[] 0) (.cells #[.slice none 0 0, .map (some (w.heap.size + 1))] 127 (0, 0)); simpa using this, ⟨#[], by have := heap_alloc2_old (w.alloc o) (.map #[] 0) (.cells #[.slice none 0 0, .map (some (w.heap.size + 1))] 127 (0, 0)); simpa using this, rfl⟩, Own.nil _ _ _, by omega, by simp [Value.ownBlock], by simp [Value.ownBlock], by simp; omega⟩
theorem vars_new (w : World) (o : Obj) (b : Nat) (h : SeenMine (w.heap.size + 1 + 1) (w.heap.size + 1) (((w.alloc o).alloc (.map #[] 0)).alloc (.cells #[.slice none 0 0, .map (some (w.heap.size + 1))] 127 (0, 0))) b) : w.heap.size ≤ b := by
  have hr : (((w.alloc o).alloc (.map #[] 0)).alloc (.cells #[.slice none 0 0, .map (some (w.heap.size + 1))] 127 (0, 0))).heap[w.heap.size + 1 + 1]? = some (.cells #[.slice none 0 0, .map (some (w.heap.size + 1))] 127 (0, 0)) := by
    have := heap_alloc2_new (w.alloc o) (.map #[] 0) (.cells #[.slice none 0 0, .map (some (w.heap.size + 1))] 127 (0, 0)); simpa using this
  rcases h with h | h | ⟨lv, hc, h⟩
  · omega
  · omega
  · rw [cell_of_row _ _ 0 _ _ _ hr] at hc
    obtain rfl := Option.some.inj hc
    cases h

end Go.Proofs.Ytkhchmgdaolojaa.Tms
