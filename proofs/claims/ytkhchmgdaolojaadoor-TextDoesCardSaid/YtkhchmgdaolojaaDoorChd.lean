
/-
  A region that draws its order, walked in one order, where later operations may write into what earlier ones made (a row that grows in place): what is only looked at is looked at ahead of all of them, in blocks below B.
  A region that draws its order, walked in one order, where some operations write into memory that was there: what is only looked at is looked at in every world that meets S, and every operation that writes keeps S.
  A region that draws its order, walked in one order but for two operations that may come in either order (two new variables, for instance): both ways are walked.
  A region that draws its order, walked by a plan: where two operations may come next, both ways are walked, each to its own end.
-/
import Derived.Test.YtkhchmgdaolojaaDoorChn
namespace Go.Proofs.YtkhchmgdaolojaaDoor.Reg
open Go Go.RowKit Go.Instr
section
variable {P : Program} {ops : Array Oper} {Q : Exit → Act → World → Prop}

theorem YieldsIf.of {S S' : World → Prop} {o : Oper} {v : Value} {a : Act} (h : YieldsIf P ops S o v a) (hS : ∀ w, S' w → S w) : YieldsIf P ops S' o v a := h.imp (fun h => ⟨h.1, fun w hw => h.2 w (hS w hw)⟩) fun h => h
end
end Go.Proofs.YtkhchmgdaolojaaDoor.Reg
namespace Go.Proofs.YtkhchmgdaolojaaDoor.Reg
open Go Go.RowKit Go.Instr
set_option linter.unusedVariables false
section
variable {P : Program} {ops : Array Oper} {Q : Exit → Act → World → Prop}

def putOk (o : Oper) (a : Act) : Bool := match o.dst with
  | some d => decide (d < a.tmps.size)
  | none => false
/-- a soft operation, walked in every world that meets S to the same frame, yields the same value there -/
theorem yields_all {S : World → Prop} {o : Oper} {a a1 : Act} {w : World} (hs : softB P o = true) (hp : putOk o a = true) (hw : S w)
    (h : ∀ u, S u → ∀ E : Exit → Act → World → Prop, (∀ a', a' = a1 → E .normal a' u) → wpList P ops E [o] a u) : ∃ v, YieldsIf P ops S o v a ∧ a1 = a.put o.dst v := by
  unfold putOk at hp
  split at hp
  case h_2 => cases hp
  rename_i d hd
  have hlt : d < a.tmps.size := by simpa using hp
  have each : ∀ u, S u → ∃ v, YieldsIf P ops (fun w' => Below u.heap.size u w') o v a ∧ a1 = a.put o.dst v := fun u hu => by
    have h1 := h u hu (only fun a' w' => w' = u ∧ a' = a1) fun a' e => ⟨rfl, e⟩
    obtain ⟨v, hy, h2⟩ := soft_step (by simpa using hs) (fun _ _ h => h.1) h1
    exact ⟨v, hy, h2.2.symm⟩
  have same : ∀ v, a1 = a.put o.dst v → v = a1.tmps.getD d undef := fun v e => by
    rw [e, hd]
    simp [Act.put, hlt]
  obtain ⟨v, hy, e⟩ := each w hw
  refine ⟨v, ?_, e⟩
  rcases hy with ⟨hwa, -⟩ | hno
  · refine .inl ⟨hwa, fun u hu => ?_⟩
    obtain ⟨v', hy', e'⟩ := each u hu
    have ev : v' = v := (same v' e').trans (same v e).symm
    subst ev
    rcases hy' with ⟨-, h3⟩ | ⟨h3, -⟩
    · exact h3 u (Below.refl _ _)
    · rw [hwa] at h3; cases h3
  · exact .inr hno

end
end Go.Proofs.YtkhchmgdaolojaaDoor.Reg
namespace Go.Proofs.YtkhchmgdaolojaaDoor.Reg
open Go Go.RowKit Go.Instr
set_option linter.unusedVariables false
section
variable {P : Program} {ops : Array Oper} {Q : Exit → Act → World → Prop}

inductive SN where
  | soft (i : Nat) | one (i : Nat) | two (i j : Nat)
inductive St where
  | soft (o : Oper) | one (o : Oper) | two (o o' : Oper)
def waitB (ops : Array Oper) (i : Nat) (todo : List (Bool × Nat)) : Bool := todo.all fun x => (preds ops x.2).any fun j => j == i || todo.any fun y => y.2 == j
def One (P : Program) (ops : Array Oper) (S : World → Prop) (o : Oper) (C : Act → World → Prop) (a : Act) (w : World) : Prop := ∀ E : Exit → Act → World → Prop, (∀ a' w', S w' ∧ C a' w' → E .normal a' w') → wpList P ops E [o] a w
end
end Go.Proofs.YtkhchmgdaolojaaDoor.Reg
namespace Go.Proofs.YtkhchmgdaolojaaDoor.Reg
open Go Go.RowKit Go.Instr
set_option linter.unusedVariables false
section
variable {P : Program} {ops : Array Oper} {Q : Exit → Act → World → Prop}

inductive Pn where
  | nil | soft (i : Nat) (r : Pn) | one (i : Nat) (r : Pn) | two (i j : Nat) (r s : Pn) | three (i j m : Nat) (r s q : Pn)
inductive Po where
  | nil | soft (o : Oper) (r : Po) | one (o : Oper) (r : Po) | two (o o' : Oper) (r s : Po) | three (o o' o'' : Oper) (r s q : Po)
def flatP : Pn → List (Bool × Nat)
  | .nil => []
  | .soft i r => (false, i) :: flatP r
  | .one i r => (true, i) :: flatP r
  | .two i j r s => (true, i) :: flatP r
  | .three i j m r s q => (true, i) :: flatP r
def fitsP (l : List Oper) : Pn → Po → Prop
  | .nil, .nil => True
  | .soft i r, .soft o s => l[i]? = some o ∧ fitsP l r s
  | .one i r, .one o s => l[i]? = some o ∧ fitsP l r s
  | .two i j r s, .two o o' x y => l[i]? = some o ∧ l[j]? = some o' ∧ fitsP l r x ∧ fitsP l s y
  | .three i j m r s q, .three o o' o'' x y z => l[i]? = some o ∧ l[j]? = some o' ∧ l[m]? = some o'' ∧ fitsP l r x ∧ fitsP l s y ∧ fitsP l q z
  | _, _ => False
def wait2 (ops : Array Oper) (i j : Nat) (todo : List (Bool × Nat)) : Bool := todo.all fun x => x.2 == i || x.2 == j || (preds ops x.2).any fun q => todo.any fun y => y.2 == q
def wait3 (ops : Array Oper) (i j m : Nat) (todo : List (Bool × Nat)) : Bool := todo.all fun x => x.2 == i || x.2 == j || x.2 == m || (preds ops x.2).any fun q => todo.any fun y => y.2 == q
def permB (l m : List (Bool × Nat)) : Bool := l.length == m.length && (l.all fun x => m.any fun y => x.1 == y.1 && x.2 == y.2) && (m.all fun x => l.any fun y => x.1 == y.1 && x.2 == y.2)
def stP (P : Program) (ops : Array Oper) (k : Nat) : List Nat → Pn → Bool
  | _, .nil => true
  | done, .soft i r =>
    (match ops[i]? with
    | some o => (flatP r).all fun x => (preds ops x.2).contains i || (match ops[x.2]? with
      | some ox => o.apart ops ox
      | none => false)
    | none => false) && readyIn ops k done i && stP P ops k (i :: done) r
  | done, .one i r => readyIn ops k done i && waitB ops i (flatP r) && stP P ops k (i :: done) r
  | done, .two i j r s => readyIn ops k done i && readyIn ops k done j && wait2 ops i j ((true, i) :: flatP r) && permB ((true, i) :: flatP r) ((true, j) :: flatP s) && nodupB (((true, j) :: flatP s).map (·.2)) && stP P ops k (i :: done) r && stP P ops k (j :: done) s
  | done, .three i j m r s q => readyIn ops k done i && readyIn ops k done j && readyIn ops k done m && wait3 ops i j m ((true, i) :: flatP r) && permB ((true, i) :: flatP r) ((true, j) :: flatP s) && nodupB (((true, j) :: flatP s).map (·.2)) && permB ((true, i) :: flatP r) ((true, m) :: flatP q) && nodupB (((true, m) :: flatP q).map (·.2)) && stP P ops k (i :: done) r && stP P ops k (j :: done) s && stP P ops k (m :: done) q
def ChainP (P : Program) (ops : Array Oper) (K : Act → World → Prop) (S : World → Prop) : Po → Act → World → Prop
  | .nil, a, w => K a w
  | .soft o r, a, w => S w → ∃ v, YieldsIf P ops S o v a ∧ ChainP P ops K S r (a.put o.dst v) w
  | .one o r, a, w => One P ops S o (ChainP P ops K S r) a w
  | .two o o' r s, a, w => One P ops S o (ChainP P ops K S r) a w ∧ One P ops S o' (ChainP P ops K S s) a w
  | .three o o' o'' r s q, a, w => One P ops S o (ChainP P ops K S r) a w ∧ One P ops S o' (ChainP P ops K S s) a w ∧ One P ops S o'' (ChainP P ops K S q) a w
theorem chainP_nil {K : Act → World → Prop} {S : World → Prop} {a : Act} {w : World} (h : K a w) : ChainP P ops K S .nil a w := h
theorem chainP_soft {K : Act → World → Prop} {S : World → Prop} {a a1 : Act} {w : World} {o : Oper} {r : Po} (hso : softB P o = true) (hp : putOk o a = true)
    (h : ∀ u, S u → ∀ E : Exit → Act → World → Prop, (∀ a', a' = a1 → E .normal a' u) → wpList P ops E [o] a u) (hr : ChainP P ops K S r a1 w) : ChainP P ops K S (.soft o r) a w := fun hS => by
  obtain ⟨v, hy, rfl⟩ := yields_all hso hp hS h
  exact ⟨v, hy, hr⟩
/-- the same with its value said: no hole in the walk -/
theorem chainP_softv {K : Act → World → Prop} {S : World → Prop} {a : Act} {w : World} {o : Oper} {r : Po} (v : Value) (hso : softB P o = true) (hp : putOk o a = true)
    (h : ∀ u, S u → ∀ E : Exit → Act → World → Prop, E .normal (a.put o.dst v) u → wpList P ops E [o] a u) (hr : ChainP P ops K S r (a.put o.dst v) w) : ChainP P ops K S (.soft o r) a w :=
  chainP_soft (a1 := a.put o.dst v) hso hp (fun u hu E hE => h u hu E (hE _ rfl)) hr
theorem chainP_one {K : Act → World → Prop} {S : World → Prop} {a : Act} {w : World} {o : Oper} {r : Po} (h : ∀ E : Exit → Act → World → Prop, (∀ a' w', S w' ∧ ChainP P ops K S r a' w' → E .normal a' w') → wpList P ops E [o] a w) : ChainP P ops K S (.one o r) a w := h
theorem chainP_two {K : Act → World → Prop} {S : World → Prop} {a : Act} {w : World} {o o' : Oper} {r s : Po} (h1 : ∀ E : Exit → Act → World → Prop, (∀ a' w', S w' ∧ ChainP P ops K S r a' w' → E .normal a' w') → wpList P ops E [o] a w)
    (h2 : ∀ E : Exit → Act → World → Prop, (∀ a' w', S w' ∧ ChainP P ops K S s a' w' → E .normal a' w') → wpList P ops E [o'] a w) : ChainP P ops K S (.two o o' r s) a w := ⟨h1, h2⟩
theorem chainP_three {K : Act → World → Prop} {S : World → Prop} {a : Act} {w : World} {o o' o'' : Oper} {r s q : Po} (h1 : ∀ E : Exit → Act → World → Prop, (∀ a' w', S w' ∧ ChainP P ops K S r a' w' → E .normal a' w') → wpList P ops E [o] a w)
    (h2 : ∀ E : Exit → Act → World → Prop, (∀ a' w', S w' ∧ ChainP P ops K S s a' w' → E .normal a' w') → wpList P ops E [o'] a w) (h3 : ∀ E : Exit → Act → World → Prop, (∀ a' w', S w' ∧ ChainP P ops K S q a' w' → E .normal a' w') → wpList P ops E [o''] a w) : ChainP P ops K S (.three o o' o'' r s q) a w := ⟨h1, h2, h3⟩
theorem permB_mem {l m : List (Bool × Nat)} (h : permB l m = true) : ∀ x, x ∈ l ↔ x ∈ m := by
  simp only [permB, Bool.and_eq_true, List.all_eq_true, List.any_eq_true, beq_iff_eq] at h
  intro x
  constructor
  · intro hx
    obtain ⟨y, hy, e1, e2⟩ := h.1.2 x hx
    rw [show x = y from Prod.ext e1 e2]; exact hy
  · intro hx
    obtain ⟨y, hy, e1, e2⟩ := h.2 x hx
    rw [show x = y from Prod.ext e1 e2]; exact hy
theorem At.perm {k n : Nat} {done : List Nat} {l m : List (Bool × Nat)} {L : Array Bool} (h : At ops k n done l L) (hp : permB l m = true) (hn : nodupB (m.map (·.2)) = true) : At ops k n done m L where
  size := h.size
  low := h.low
  high := h.high
  did := h.did
  yet := fun x hx => h.yet x ((permB_mem hp x).2 hx)
  all := fun q hq hn => (h.all q hq hn).imp_right fun ⟨x, hx, e⟩ => ⟨x, (permB_mem hp x).1 hx, e⟩
  nodup := nodupB_spec _ hn
  le := h.le
theorem At.only3 {k n : Nat} {done : List Nat} {i i' : Nat} {todo : List (Bool × Nat)} {L : Array Bool} (h : At ops k n done todo L) (hc : wait2 ops i i' todo = true)
    {j : Nat} (hj : j < n) (hr : j ∈ Region.ready .any ops L) : j = i ∨ j = i' := by
  obtain ⟨hu, o, ho, hall⟩ := mem_ready.1 hr
  rcases Nat.lt_or_ge j k with hk | hk
  · rw [h.low j hk] at hu; cases hu
  rcases h.all j hk hj with hd | ⟨x, hx, e⟩
  · rw [h.did j hd] at hu; cases hu
  subst e
  have := List.all_eq_true.1 hc x hx
  simp only [Bool.or_eq_true, beq_iff_eq] at this
  rcases this with (h1 | h1) | h1
  · exact .inl h1
  · exact .inr h1
  exfalso
  obtain ⟨q, hq, hq2⟩ := List.any_eq_true.1 h1
  have hl := preds_listed ho hall q hq
  obtain ⟨y, hy, e⟩ := List.any_eq_true.1 hq2
  have e : y.2 = q := by simpa using e
  have hqf : L.getD q true = false := by rw [← e]; exact (h.yet y hy).1
  rw [getD_both_true hl] at hqf
  cases hqf

theorem At.only4 {k n : Nat} {done : List Nat} {i i' i'' : Nat} {todo : List (Bool × Nat)} {L : Array Bool} (h : At ops k n done todo L) (hc : wait3 ops i i' i'' todo = true)
    {j : Nat} (hj : j < n) (hr : j ∈ Region.ready .any ops L) : j = i ∨ j = i' ∨ j = i'' := by
  obtain ⟨hu, o, ho, hall⟩ := mem_ready.1 hr
  rcases Nat.lt_or_ge j k with hk | hk
  · rw [h.low j hk] at hu; cases hu
  rcases h.all j hk hj with hd | ⟨x, hx, e⟩
  · rw [h.did j hd] at hu; cases hu
  subst e
  have := List.all_eq_true.1 hc x hx
  simp only [Bool.or_eq_true, beq_iff_eq] at this
  rcases this with ((h1 | h1) | h1) | h1
  · exact .inl h1
  · exact .inr (.inl h1)
  · exact .inr (.inr h1)
  exfalso
  obtain ⟨q, hq, hq2⟩ := List.any_eq_true.1 h1
  have hl := preds_listed ho hall q hq
  obtain ⟨y, hy, e⟩ := List.any_eq_true.1 hq2
  have e : y.2 = q := by simpa using e
  have hqf : L.getD q true = false := by rw [← e]; exact (h.yet y hy).1
  rw [getD_both_true hl] at hqf
  cases hqf

theorem chain_anyP {S : World → Prop} {k n : Nat} {K : Act → World → Prop} (hB : backB ops = true) (hsel : Region.noSelect ops = true) : ∀ (gs : Pn) (os : Po) (done : List Nat) (L : Array Bool) (a : Act) (w : World),
    fitsP ops.toList gs os → stP P ops k done gs = true → At ops k n done (flatP gs) L → S w → ChainP P ops K S os a w →
    AnyS P ops n (fun _ => K) S (flatP gs).length L a w := by
  intro gs
  induction gs with
  | nil =>
    intro os done L a w hp _ _ _ h
    cases os with
    | nil => exact h
    | _ => exact hp.elim
  | one i gs ih =>
    intro os done L a w hp hc hat hS h
    cases os with
    | one o os =>
      obtain ⟨ho, hp⟩ := hp
      have ho : ops[i]? = some o := by simpa using ho
      simp only [stP, Bool.and_eq_true] at hc
      obtain ⟨⟨hr, ha⟩, hc⟩ := hc
      have hx := h (only fun a' w' => S w' ∧ ChainP P ops K S os a' w') fun a' w' hch => hch
      intro j hj hjr
      obtain rfl := hat.only ha hj hjr
      exact wpOp_mono (fun a' w' h' => ⟨h'.1, ih os _ _ a' w' hp hc hat.next h'.1 h'.2⟩) (wpList_one ho hx)
    | _ => exact hp.elim
  | two i i' gs gs' ih ih' =>
    intro os done L a w hp hc hat hS h
    cases os with
    | two o o' os os' =>
      obtain ⟨ho, ho', hp, hp'⟩ := hp
      have ho : ops[i]? = some o := by simpa using ho
      have ho' : ops[i']? = some o' := by simpa using ho'
      simp only [stP, Bool.and_eq_true] at hc
      obtain ⟨⟨⟨⟨⟨⟨hr, hr'⟩, ha⟩, hpe⟩, hnd⟩, hc⟩, hc'⟩ := hc
      obtain ⟨h1, h2⟩ := h
      have hx1 := h1 (only fun a' w' => S w' ∧ ChainP P ops K S os a' w') fun a' w' hch => hch
      have hx2 := h2 (only fun a' w' => S w' ∧ ChainP P ops K S os' a' w') fun a' w' hch => hch
      have hat' : At ops k n done ((true, i') :: flatP gs') L := hat.perm hpe hnd
      have hlen : (flatP gs).length = (flatP gs').length := by
        simp only [permB, Bool.and_eq_true, beq_iff_eq, List.length_cons] at hpe
        omega
      intro j hj hjr
      rcases hat.only3 ha hj hjr with rfl | rfl
      · exact wpOp_mono (fun a' w' h' => ⟨h'.1, ih os _ _ a' w' hp hc hat.next h'.1 h'.2⟩) (wpList_one ho hx1)
      · refine wpOp_mono (fun a' w' h' => ⟨h'.1, ?_⟩) (wpList_one ho' hx2)
        have := ih' os' _ _ a' w' hp' hc' hat'.next h'.1 h'.2
        rw [← hlen] at this
        exact this
    | _ => exact hp.elim
  | three i i' i'' gs gs' gs'' ih ih' ih'' =>
    intro os done L a w hp hc hat hS h
    cases os with
    | three o o' o'' os os' os'' =>
      obtain ⟨ho, ho', ho'', hp, hp', hp''⟩ := hp
      have ho : ops[i]? = some o := by simpa using ho
      have ho' : ops[i']? = some o' := by simpa using ho'
      have ho'' : ops[i'']? = some o'' := by simpa using ho''
      simp only [stP, Bool.and_eq_true] at hc
      obtain ⟨⟨⟨⟨⟨⟨⟨⟨⟨⟨hr, hr'⟩, hr''⟩, ha⟩, hpe⟩, hnd⟩, hpe'⟩, hnd'⟩, hc⟩, hc'⟩, hc''⟩ := hc
      obtain ⟨h1, h2, h3⟩ := h
      have hx1 := h1 (only fun a' w' => S w' ∧ ChainP P ops K S os a' w') fun a' w' hch => hch
      have hx2 := h2 (only fun a' w' => S w' ∧ ChainP P ops K S os' a' w') fun a' w' hch => hch
      have hx3 := h3 (only fun a' w' => S w' ∧ ChainP P ops K S os'' a' w') fun a' w' hch => hch
      have hat' : At ops k n done ((true, i') :: flatP gs') L := hat.perm hpe hnd
      have hat'' : At ops k n done ((true, i'') :: flatP gs'') L := hat.perm hpe' hnd'
      have hlen : (flatP gs).length = (flatP gs').length := by
        simp only [permB, Bool.and_eq_true, beq_iff_eq, List.length_cons] at hpe
        omega
      have hlen' : (flatP gs).length = (flatP gs'').length := by
        simp only [permB, Bool.and_eq_true, beq_iff_eq, List.length_cons] at hpe'
        omega
      intro j hj hjr
      rcases hat.only4 ha hj hjr with rfl | rfl | rfl
      · exact wpOp_mono (fun a' w' h' => ⟨h'.1, ih os _ _ a' w' hp hc hat.next h'.1 h'.2⟩) (wpList_one ho hx1)
      · refine wpOp_mono (fun a' w' h' => ⟨h'.1, ?_⟩) (wpList_one ho' hx2)
        have := ih' os' _ _ a' w' hp' hc' hat'.next h'.1 h'.2
        rw [← hlen] at this
        exact this
      · refine wpOp_mono (fun a' w' h' => ⟨h'.1, ?_⟩) (wpList_one ho'' hx3)
        have := ih'' os'' _ _ a' w' hp'' hc'' hat''.next h'.1 h'.2
        rw [← hlen'] at this
        exact this
    | _ => exact hp.elim
  | soft i gs ih =>
    intro os done L a w hp hc hat hS h
    cases os with
    | soft o os =>
      obtain ⟨ho, hp⟩ := hp
      have ho : ops[i]? = some o := by simpa using ho
      obtain ⟨v, hy, hrest⟩ := h hS
      have hcnt := hat.count
      simp only [flatP, List.length_cons] at hcnt ⊢
      simp only [stP, ho, Bool.and_eq_true] at hc
      obtain ⟨⟨hfree, hr⟩, hc⟩ := hc
      refine AnyS.first (hat.yet _ (List.mem_cons_self ..)).2.1 ho (Region.noSelect_spec hsel) _ L a w hcnt ?_ (hat.ready hB ho hr) hy hS (ih os _ _ _ w hp hc hat.next hS hrest)
      intro j oj hjn hoj hji hun hno
      have hjk : k ≤ j := by
        rcases Nat.lt_or_ge j k with h | h
        · rw [hat.low j h] at hun; cases hun
        · exact h
      rcases hat.all j hjk hjn with hd | ⟨x, hx, rfl⟩
      · rw [hat.did j hd] at hun; cases hun
      rcases List.mem_cons.1 hx with rfl | hx
      · exact absurd rfl hji
      have := List.all_eq_true.1 hfree x hx
      simp only [Bool.or_eq_true, hoj] at this
      rcases this with hp | hp
      · exfalso
        simp only [preds, hoj, List.contains_iff_mem, List.mem_map, List.mem_filter] at hp
        obtain ⟨e, ⟨he, hb⟩, hon⟩ := hp
        exact hno e (by simpa using he) hb hon
      · exact hp
    | _ => exact hp.elim
/-- A REGION THAT DRAWS ITS ORDER, FROM k UP TO n, WALKED BY A PLAN, S HOLDING THROUGHOUT -/
theorem rest_chainP (S : World → Prop) (k n : Nat) (gs : Pn) (os : Po) {l : List Oper} (hp : fitsP l gs os)
    (hB : backB l.toArray = true) (hsel : Region.noSelect l.toArray = true) (hc : stP P l.toArray k [] gs = true)
    (hs : (decide (k ≤ n) && decide (n ≤ l.length) && ((flatP gs).all fun x => decide (k ≤ x.2) && decide (x.2 < n)) && ((List.range n).all fun i => decide (i < k) || (flatP gs).any fun x => x.2 == i) && decide ((flatP gs).length = n - k) && nodupB ((flatP gs).map (·.2))) = true)
    (hcut : n = l.toArray.size ∨ cutB l.toArray k n = true) {a : Act} {w : World} (hS : S w)
    (h : ChainP P l.toArray (Rest P l.toArray Q n) S os a w) : Rest P l.toArray Q k a w := by
  simp only [Bool.and_eq_true, decide_eq_true_eq, List.all_eq_true, List.mem_range, Bool.or_eq_true, List.any_eq_true, beq_iff_eq] at hs
  obtain ⟨⟨⟨⟨⟨hkn, hnl⟩, hin⟩, hall⟩, hlen⟩, hnd⟩ := hs
  replace hnd := nodupB_spec _ hnd
  refine rest_anyS (S := S) hB (by simpa using hnl) hkn hcut fun L g hl ht => ?_
  have := chain_anyP (n := n) hB hsel gs os [] L a w (by simpa using hp) hc ⟨g.size, hl, fun i hi hs => ?_, fun i hi => by simp at hi, fun x hx => ?_, fun i hki hi => ?_, hnd, by simpa using hnl⟩ hS h
  · rw [hlen] at this
    exact this
  · have := ht i (by omega)
    have hlt : i < L.size := by rw [g.size]; exact hs
    simp [hlt] at this ⊢
    exact this
  · have hx' := hin x hx
    have := ht x.2 hx'.1
    have hlt : x.2 < L.size := by rw [g.size]; simp; omega
    refine ⟨?_, hx'.2, hx'.1⟩
    simp [hlt] at this ⊢
    exact this
  · rcases hall i hi with h | ⟨x, hx, e⟩
    · omega
    · exact .inr ⟨x, hx, e⟩
end
end Go.Proofs.YtkhchmgdaolojaaDoor.Reg
namespace Go.Proofs.YtkhchmgdaolojaaDoor.Tms
open Go Go.RowKit Go.Proofs.YtkhchmgdaolojaaDoor.Reg
end Go.Proofs.YtkhchmgdaolojaaDoor.Tms
