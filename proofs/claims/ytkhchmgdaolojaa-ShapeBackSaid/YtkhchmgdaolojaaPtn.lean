
/-
  Slices that the call keeps: append of many; of terms; the zero term.
-/
import Derived.Test.YtkhchmgdaolojaaTs
import Derived.Test.YtkhchmgdaolojaaGnb
import Derived.Test.YtkhchmgdaolojaaChn
namespace Go.Proofs.Ytkhchmgdaolojaa.Rws
open Go Go.RowKit

theorem append_blockN {P : Program} {w : World} (base : Nat) (t ty e : TypeId) (i : TypeInfo) (z : Value) (size bytes : Nat) (ht : P.underlying t = some (.slice e)) (hi : P.info? e = some i) (hz : i.zero = some z) (hsize : i.size = size) (hby : i.bytes = bytes)
    (v : Value) (n : Nat) (xs : List Value) (hown : w.ownsRow base e size v n xs) (a : Addr) (m c : Nat) (news : List Value) (hm : 0 < m) (hl : news.length = m * size) (hnews : ∀ j u, news[j]? = some u → w.cell? (a.add j) = some u) (h1 : ∀ u ∈ news, u.oneCell' = true)
    (h63 : n + m ≤ maxLen) (hbytes : (n + m) * bytes ≤ 140737488355328) {v' : Value} {w' : World} (hr : (Builtin.append_ #[t, t] ty #[v, .slice (some a) m c]).run P w = .ok v' w') :
    ∀ k, v'.ownBlock = some k → v.ownBlock = some k ∨ w.heap.size ≤ k := by
  subst hsize
  subst hby
  have hsmall : n + m ≤ 9223372036854775807 := by simp only [maxLen] at h63; omega
  rcases hown.2 with ⟨rfl, rfl⟩ | ⟨g, cap, cur, rfl, hbg, hg, hnc, hcm, hcs, htake⟩
  · rw [run_append_nil (P := P) w t ty e i z ht hi hz a m c news hl hnews hm (by omega) (by have hb := hbytes; simp only [Nat.zero_add] at hb; omega)] at hr
    simp only [Result.ok.injEq] at hr
    obtain ⟨rfl, -⟩ := hr
    intro k hk
    simp [Value.ownBlock] at hk
    omega
  · by_cases hroom : n + m ≤ cap
    · have hfit : n * i.size + news.length ≤ cur.size := by
        have h2 : (n + m) * i.size ≤ cap * i.size := Nat.mul_le_mul_right _ hroom
        rw [Nat.add_mul] at h2
        omega
      rw [run_append_room (P := P) w t ty e i ht hi g n cap cur hg a m c news hl hnews h1 hroom hfit] at hr
      simp only [Result.ok.injEq] at hr
      obtain ⟨rfl, -⟩ := hr
      intro k hk
      exact .inl hk
    · rw [run_append_grow (P := P) w t ty e i z ht hi hz ⟨g, 0, none⟩ n cap xs hown.1 (hown.cells (g := g) rfl) a m c news hl hnews (by omega) (by omega) (growslice_fits (by omega) hbytes)] at hr
      simp only [Result.ok.injEq] at hr
      obtain ⟨rfl, -⟩ := hr
      intro k hk
      simp [Value.ownBlock] at hk
      omega

section
variable {α : Type} {K : Kind α}
theorem Each.app {w : World} {P : Nat → Prop} : ∀ {xss yss : List (List Value)} {l m : List α}, Each K w P xss l → Each K w P yss m → Each K w P (xss ++ yss) (l ++ m)
  | [], _, [], _, _, h => h
  | _ :: _, _, _ :: _, _, h, h' => ⟨h.1, Each.app h.2 h'⟩
  | [], _, _ :: _, _, h, _ => h.elim
  | _ :: _, _, [], _, h, _ => h.elim
theorem Each.ones {w : World} {P : Nat → Prop} : ∀ {xss : List (List Value)} {l : List α}, Each K w P xss l → ∀ v ∈ xss.flatten, v.oneCell' = true
  | [], [], _ => by simp
  | cs :: xss, a :: l, h => by
    intro v hv
    simp only [List.flatten_cons, List.mem_append] at hv
    rcases hv with hv | hv
    · exact K.one h.1 v hv
    · exact Each.ones h.2 v hv
  | [], _ :: _, h => h.elim
  | _ :: _, [], h => h.elim
theorem Each.low {w : World} {P : Nat → Prop} : ∀ {xss : List (List Value)} {l : List α}, Each K w P xss l → Each K w (fun b => P b ∧ b < w.heap.size) xss l
  | [], [], _ => trivial
  | _ :: _, _ :: _, h => ⟨K.lt h.1, Each.low h.2⟩
  | [], _ :: _, h => h.elim
  | _ :: _, [], h => h.elim
/-- append of some elements (not none) whose cells lie one behind the other -/
theorem wpList_putN {Q : Program} {w : World} {ops : Array Oper} {rest : List Oper} {o : Oper} {a : Act} {E : Exit → Act → World → Prop} (hgd : o.guard = none) (s x : Operand) (t : TypeId)
    (ho : o.op = .call { callee := .builtin .append, args := #[s, x], argTypes := #[t, t] }) (ht : Q.underlying t = some (.slice K.T)) {z : Value} {bytes : Nat} (hi : (Q.info? K.T).map (fun i => (i.zero, i.size, i.bytes)) = some (some z, K.sz, bytes)) (hz : z.cells.size = K.sz)
    (base : Nat) (P : Nat → Prop) (v : Value) (l : List α) (yss : List (List Value)) (m : List α) (ad : Addr) (c : Nat) (hs : a.eval s = v) (hown : Own K w base P v l) (hx : a.eval x = .slice (some ad) m.length c)
    (hnews : ∀ j u, yss.flatten[j]? = some u → w.cell? (ad.add j) = some u) (hm : 0 < m.length)
    (hy : Each K w (fun b => P b ∧ v.ownBlock ≠ some b) yss m) (h63 : l.length + m.length ≤ maxLen) (hlen : (l.length + m.length) * bytes ≤ 140737488355328) (hbase : base ≤ w.heap.size)
    (h : ∀ v' w', Own K w' base P v' (l ++ m) → Below base w w' → w.grownBy w' v.ownBlock → (∀ k, v'.ownBlock = some k → v.ownBlock = some k ∨ w.heap.size ≤ k) → wpList Q ops E rest (a.put o.dst v') w') : wpList Q ops E (o :: rest) a w := by
  obtain ⟨i0, hi, hz0, hz1, hz2⟩ := info_parts hi
  obtain ⟨xss, h1, h2⟩ := id hown
  refine wpList_plain hgd fun K' hK => ?_
  obtain ⟨v', w', hr, hown', hgr, -⟩ := run_append_own (P := Q) w base t o.type K.T i0 z K.sz bytes ht hi hz0 hz1 hz2 hz K.pos v l.length xss.flatten h1 ad m.length c yss.flatten hy.flat hnews hy.ones h63 hlen hbase
  have hv := append_blockN (P := Q) base t o.type K.T i0 z K.sz bytes ht hi hz0 hz1 hz2 v l.length xss.flatten h1 ad m.length c yss.flatten hm hy.flat hnews hy.ones h63 hlen hr
  unfold Oper.wp execOp
  simp only [ho, resolve, invoke, builtin, Sem.run_bind, Sem.run_pure, Result.andThen_ok, List.map_toArray, List.map_cons, List.map_nil, hs, hx, hr]
  refine hK _ _ (h v' w' ?_ ?_ hgr hv)
  · have hsz : w.heap.size ≤ w'.heap.size := hgr.size
    have hblk : ∀ b, b < w.heap.size → v.ownBlock ≠ some b → w'.heap[b]? = w.heap[b]? := fun b hb hne => hgr.block b hb fun e => hne e.symm
    have hne : ∀ b, b < w.heap.size → v.ownBlock ≠ some b → v'.ownBlock ≠ some b := fun b hb h e => by
      rcases hv b e with h' | h'
      · exact h h'
      · omega
    have hy' : Each K w (fun b => P b ∧ v.ownBlock ≠ some b ∧ b < w.heap.size) yss m := (Each.low hy).mono (fun b h => ⟨h.1.1, h.1.2, h.2⟩) fun _ _ _ => rfl
    exact ⟨xss ++ yss, by simpa using hown', ((h2.app hy')).mono (fun b h => ⟨h.1, hne b h.2.2 h.2.1, by omega⟩) fun b h _ => hblk b h.2.2 h.2.1⟩
  · exact (Below.refl base w).grown hgr hbase fun k e => (h1.lt k e).1
end
end Go.Proofs.Ytkhchmgdaolojaa.Rws
namespace Go.Proofs.Ytkhchmgdaolojaa.Tms
open Go Go.RowKit Go.Proofs.Ytkhchmgdaolojaa.Rws
set_option linter.unusedVariables false

/-- a term in four cells -/
def tmKind : Rws.Kind Tm where
  T := 49
  sz := 4
  R := fun w P cs a => ∃ q c, cs = [.int .i64 a.k, .int .i64 a.n, .string a.s, .slice q a.args.length c] ∧ ArgsFrom w P q 0 a.args
  pos := by decide
  len := by rintro w P cs a ⟨q, c, rfl, -⟩; rfl
  one := by
    rintro w P cs a ⟨q, c, rfl, -⟩ v hv
    simp only [List.mem_cons, List.not_mem_nil, or_false] at hv
    rcases hv with rfl | rfl | rfl | rfl <;> rfl
  mono := by rintro w w' P P' cs a hP hw ⟨q, c, rfl, h⟩; exact ⟨q, c, rfl, ArgsFrom.imp hP hw _ _ _ h⟩
  lt := by rintro w P cs a ⟨q, c, rfl, h⟩; exact ⟨q, c, rfl, ArgsFrom.lt _ _ _ h⟩
theorem info_tm : (Try.prog.info? 49).map (fun i => (i.zero, i.size, i.bytes)) = some (some (.agg #[.int .i64 0, .int .i64 0, .string ⟨#[]⟩, .slice none 0 0]), 4, 56) := by kernel_rfl
/-- a term's value, as cells -/
theorem IsTm.cells {w : World} {P : Nat → Prop} {k n : Int} {s : ByteArray} {a : Option Addr} {len cap : Nat} {t : Tm} (h : IsTm w P (.agg #[.int .i64 k, .int .i64 n, .string s, .slice a len cap]) t) : tmKind.R w P [.int .i64 k, .int .i64 n, .string s, .slice a len cap] t := by
  obtain ⟨a', cap', e, h⟩ := h
  simp at e
  obtain ⟨rfl, rfl, rfl, rfl, rfl, rfl⟩ := e
  exact ⟨a, cap, rfl, h⟩
theorem each_at {w : World} {P : Nat → Prop} {g : Nat} : ∀ {xss : List (List Value)} {ts : List Tm} (o : Nat), Each tmKind w P xss ts → (∀ j v, xss.flatten[j]? = some v → w.cell? ⟨g, o + j, none⟩ = some v) → ∀ i (hi : i < ts.length), TmAt w P g (o + i * 4) ts[i]
  | [], [], o, _, _, i, hi => absurd hi (by simp)
  | cs :: xss, t :: ts, o, h, hc, i, hi => by
    obtain ⟨q, c, rfl, ha⟩ := h.1
    match i with
    | 0 =>
      have e := fun j v hv => hc j v hv
      refine TmAt.mk' (a := q) (cap := c) ?_ ?_ ?_ ?_ ⟨q, c, rfl, ha⟩
      · exact hc 0 _ rfl
      · exact hc 1 _ rfl
      · exact hc 2 _ rfl
      · exact hc 3 _ rfl
    | i + 1 =>
      have := each_at (g := g) (o + 4) h.2 (fun j v hv => by have := hc (4 + j) v (by simpa [List.getElem?_append_right, Nat.add_comm 4 j] using hv); rwa [← Nat.add_assoc] at this) i (by simpa using hi)
      have e : o + 4 + i * 4 = o + (i + 1) * 4 := by omega
      rw [e] at this
      exact this
  | [], _ :: _, o, h, _, _, _ => h.elim
  | _ :: _, [], o, h, _, _, _ => h.elim
/-- a slice that the call keeps is a slice of terms -/
theorem own_reads {w : World} {base : Nat} {P : Nat → Prop} {v : Value} {ts : List Tm} (h : Own tmKind w base P v ts) : IsSl w (fun b => P b ∨ base ≤ b) v ts := by
  obtain ⟨xss, h1, h2⟩ := h
  rcases h1.2 with ⟨rfl, hn⟩ | ⟨g, cap, cur, rfl, hb, hg, hnc, hcm, hcs, ht⟩
  · obtain rfl := List.eq_nil_of_length_eq_zero hn
    exact IsSl.nil _ _ _ _
  · refine IsSl.mk' fun i hi => ⟨g, 0, rfl, .inr hb, ?_⟩
    have hcell := h1.cells (g := g) rfl
    exact each_at (g := g) 0 (h2.mono (P' := fun b => P b ∨ base ≤ b) (fun b h => .inl h.1) fun _ _ _ => rfl) (fun j u hu => by have := hcell j u hu; rwa [Addr.add_lit] at this) i hi
theorem Own.mono {α : Type} {K : Rws.Kind α} {w : World} {base : Nat} {P P' : Nat → Prop} {v : Value} {l : List α} (h : Own K w base P v l) (hP : ∀ b, P b → b < w.heap.size → P' b) : Own K w base P' v l := by
  obtain ⟨xss, h1, h2⟩ := h
  exact ⟨xss, h1, h2.mono (fun b h => ⟨hP b h.1 h.2.2, h.2⟩) fun _ _ _ => rfl⟩
def zeroTm : Tm := .mk 0 0 ⟨#[]⟩ []
end Go.Proofs.Ytkhchmgdaolojaa.Tms
