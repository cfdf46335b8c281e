
/-
  Layer 20: a heap of at most two rows of numbers (container/heap over index.rows), walked.
-/
import Derived.Test.YtcmgfelbbmeanaaIxp
import Derived.Test.YtcmgfelbbmeanaaEle
import Derived.Test.YtcmgfelbbmeanaaChd
import Derived.Test.YtcmgfelbbmeanaaPrm
import Derived.Test.YtcmgfelbbmeanaaGna
namespace Go.Proofs.Ytcmgfelbbmeanaa.Tms
open Go Go.RowKit Go.Proofs.Ytcmgfelbbmeanaa.Reg Go.Proofs.Ytcmgfelbbmeanaa.Rws Go.Proofs.Ytcmgfelbbmeanaa.Maps
set_option linter.unusedVariables false
set_option linter.unusedSimpArgs false

/-- a row of numbers, told in one cell -/
def slKind : Rws.Kind (List Int) where
  T := 37
  sz := 1
  R := fun w P cs L => ∃ a m c, cs = [.slice a m c] ∧ IntSl w P (.slice a m c) L
  pos := by decide
  len := by rintro w P cs L ⟨a, m, c, rfl, h⟩; rfl
  one := by
    rintro w P cs L ⟨a, m, c, rfl, h⟩ v hv
    simp only [List.mem_cons, List.not_mem_nil, or_false] at hv
    subst hv; rfl
  mono := by
    rintro w w' P P' cs L hP hw ⟨a, m, c, rfl, x, cap, e, h1, h2, h3⟩
    refine ⟨a, m, c, rfl, x, cap, e, h1, h2, fun i hi => ?_⟩
    obtain ⟨b, off, e1, hp, hl, hc⟩ := h3 i hi
    have hk := hw b hp hl
    exact ⟨b, off, e1, hP b hp, (Array.getElem?_eq_some_iff.1 (hk.trans (Array.getElem?_eq_getElem hl))).1, (World.cell?_of_block (w := w) (w' := w') (a := ⟨b, off + i, none⟩) hk).trans hc⟩
  lt := by
    rintro w P cs L ⟨a, m, c, rfl, x, cap, e, h1, h2, h3⟩
    refine ⟨a, m, c, rfl, x, cap, e, h1, h2, fun i hi => ?_⟩
    obtain ⟨b, off, e1, hp, hl, hc⟩ := h3 i hi
    exact ⟨b, off, e1, ⟨hp, hl⟩, hl, hc⟩
/-- the heap at rb: its rows of numbers lie below base, all that is written from base on -/
structure HpAt (w : World) (base rb : Nat) (v : Value) (Q : List (List Int)) : Prop where
  row : w.heap[rb]? = some (.cells #[v] 103 (0, 0))
  own : Own slKind w base (fun b => b < base) v Q
  lo : base ≤ rb
  ne : v.ownBlock ≠ some rb
abbrev hpV (rb : Nat) : Value := .iface 101 (.pointer (some ⟨rb, 0, none⟩))
theorem IntSl.head {w : World} {P : Nat → Prop} {a : Option Addr} {m c : Nat} {L : List Int} (h : IntSl w P (.slice a m c) L) (i : Nat) (hi : i < L.length) : ∃ b off, a = some ⟨b, off, none⟩ ∧ w.cell? ⟨b, off + i, none⟩ = some (.int .i64 L[i]) ∧ P b ∧ b < w.heap.size := by
  obtain ⟨a', cap, e, h1, h2, h3⟩ := h
  obtain ⟨b, off, e1, hp, hl, hc⟩ := h3 i hi
  simp only [Value.slice.injEq] at e
  exact ⟨b, off, e.1.trans e1, hc, hp, hl⟩
theorem IntSl.mlen {w : World} {P : Nat → Prop} {a : Option Addr} {m c : Nat} {L : List Int} (h : IntSl w P (.slice a m c) L) : m = L.length ∧ m ≤ c ∧ c ≤ maxLen := by
  obtain ⟨a', cap, e, h1, h2, h3⟩ := h
  simp only [Value.slice.injEq] at e
  obtain ⟨-, rfl, rfl⟩ := e
  exact ⟨rfl, h1, h2⟩
/-- an element of a row of rows -/
theorem own_sl {w : World} {base g n cap : Nat} {P : Nat → Prop} {Q : List (List Int)} (h : Own slKind w base P (.slice (some ⟨g, 0, none⟩) n cap) Q) (i : Nat) (hi : i < Q.length) : ∃ a m c, w.cell? ⟨g, i, none⟩ = some (.slice a m c) ∧ IntSl w P (.slice a m c) Q[i] := by
  have hn : Q.length = n := by
    rcases h.form with ⟨e, -⟩ | ⟨g', c', e⟩
    · cases e
    · simp only [Value.slice.injEq] at e; exact e.2.1.symm
  obtain ⟨cs, ⟨a, m, c, rfl, hr⟩, hc⟩ := h.elem hn i hi
  have h0 := hc 0 (by decide)
  rw [show i * slKind.sz + 0 = i by simp [slKind]] at h0
  obtain ⟨a', cap', e, h1, h2, h3⟩ := hr
  refine ⟨a, m, c, by simpa using h0, a', cap', e, h1, h2, fun j hj => ?_⟩
  obtain ⟨b, off, e1, hp, hl, hcc⟩ := h3 j hj
  exact ⟨b, off, e1, hp.1, hl, hcc⟩
theorem rows_Len (a : Option Addr) (n c : Nat) (w : World) : Calls Try.prog 44 #[.slice a n c] w fun e w' => e = .returned (.int .i64 n) ∧ w = w' := by
  go_enter Try.func44, Try.ntmps44
  go_wp2
  go_ret
  exact ⟨rfl, rfl⟩
theorem m_Pop (k rb : Nat) (w : World) : (method (k + 1) 101 (.pointer (some ⟨rb, 0, none⟩)) "Pop").run Try.prog w = .ok (196, .pointer (some ⟨rb, 0, none⟩)) w := by
  kernel_rfl
theorem m_Push (k rb : Nat) (w : World) : (method (k + 1) 101 (.pointer (some ⟨rb, 0, none⟩)) "Push").run Try.prog w = .ok (197, .pointer (some ⟨rb, 0, none⟩)) w := by
  kernel_rfl
theorem run_wrapNil {P : Program} (ts : Array TypeId) (t : TypeId) (a : Addr) (x y : String) (w : World) : (Builtin.ssaWrapNilChk_ ts t #[.pointer (some a), strVal x, strVal y]).run P w = .ok (.pointer (some a)) w := rfl
/-- a method of the value type, asked of a pointer to it -/
theorem run_method_ptr {P : Program} {T E : TypeId} {name : String} {f : FuncId} {v : Value} (k : Nat) (a : Addr) (w : World) (hT : P.underlying T = some (.pointer E))
    (hm : (P.info? T).bind (fun i => (i.methods.find? (·.name == name)).map fun m => (m.path, m.func)) = some (#[], some (f, false))) (hl : (loadVar E a).run P w = .ok v w) : (method (k + 1) T (.pointer (some a)) name).run P w = .ok (f, v) w := by
  cases hq : P.info? T with
  | none => simp [hq] at hm
  | some i =>
    rw [hq] at hm
    simp only [Option.bind_some] at hm
    cases hf : i.methods.find? (·.name == name) with
    | none => simp [hf] at hm
    | some m =>
      rw [hf] at hm
      simp only [Option.map_some, Option.some.injEq, Prod.mk.injEq] at hm
      obtain ⟨hp, hfn⟩ := hm
      unfold method
      simp [Sem.run_bind, typeInfo, hq, hf, hp, hfn, follow, receiverAt, run_underlying hT, Place.get, run_wrapNil, asAddr, hl]
theorem load_rows {w : World} {rb : Nat} {q : Option Addr} {n c : Nat} (h : w.heap[rb]? = some (.cells #[.slice q n c] 103 (0, 0))) : (loadVar 103 ⟨rb, 0, none⟩).run Try.prog w = .ok (.slice q n c) w := by
  have hc := cell_of_row w rb 0 _ _ _ h
  simp only [List.getElem?_toArray, List.getElem?_cons_zero] at hc
  unfold loadVar
  simp [Sem.run_bind, run_underlying Try.underlying103]
  rw [hc]
theorem m_Len {w : World} {rb : Nat} {q : Option Addr} {n c : Nat} (k : Nat) (h : w.heap[rb]? = some (.cells #[.slice q n c] 103 (0, 0))) : (method (k + 1) 101 (.pointer (some ⟨rb, 0, none⟩)) "Len").run Try.prog w = .ok (44, .slice q n c) w :=
  run_method_ptr k _ w Try.underlying101 (by kernel_rfl) (load_rows h)
theorem m_Less {w : World} {rb : Nat} {q : Option Addr} {n c : Nat} (k : Nat) (h : w.heap[rb]? = some (.cells #[.slice q n c] 103 (0, 0))) : (method (k + 1) 101 (.pointer (some ⟨rb, 0, none⟩)) "Less").run Try.prog w = .ok (195, .slice q n c) w :=
  run_method_ptr k _ w Try.underlying101 (by kernel_rfl) (load_rows h)
theorem m_Swap {w : World} {rb : Nat} {q : Option Addr} {n c : Nat} (k : Nat) (h : w.heap[rb]? = some (.cells #[.slice q n c] 103 (0, 0))) : (method (k + 1) 101 (.pointer (some ⟨rb, 0, none⟩)) "Swap").run Try.prog w = .ok (198, .slice q n c) w :=
  run_method_ptr k _ w Try.underlying101 (by kernel_rfl) (load_rows h)
theorem HpAt.below {w w' : World} {base rb : Nat} {v : Value} {Q : List (List Int)} (h : HpAt w base rb v Q) (hb : Below w.heap.size w w') : HpAt w' base rb v Q :=
  ⟨(hb.block rb (Array.getElem?_eq_some_iff.1 h.row).1).trans h.row, h.own.below hb, h.lo, h.ne⟩
/-- the first number of a row -/
def hd (L : List Int) : Int := L.headD 0
theorem hd_get {L : List Int} (h : L ≠ []) : ∃ h0 : 0 < L.length, L[0] = hd L := by
  cases L with
  | nil => exact absurd rfl h
  | cons x l => exact ⟨by simp, rfl⟩
set_option maxRecDepth 100000 in
set_option maxHeartbeats 1000000 in
theorem rows_Less {w : World} {base g n c : Nat} {P : Nat → Prop} {Q : List (List Int)} (h : Own slKind w base P (.slice (some ⟨g, 0, none⟩) n c) Q) (i j : Nat) (hi : i < Q.length) (hj : j < Q.length) (ni : Q[i] ≠ []) (nj : Q[j] ≠ []) :
    Calls Try.prog 195 #[.slice (some ⟨g, 0, none⟩) n c, .int .i64 i, .int .i64 j] w fun e w' => e = .returned (.bool (decide (hd Q[i] < hd Q[j]))) ∧ Below w.heap.size w w' := by
  have hn : n = Q.length := by
    obtain ⟨xss, h1, -⟩ := h
    rcases h1.2 with ⟨e, -⟩ | ⟨g', c', cur, e, -⟩
    · cases e
    · simp only [Value.slice.injEq] at e; exact e.2.1
  have hc := h.caps
  unfold maxLen at hc
  obtain ⟨z1, hz1⟩ : ∃ z, hd Q[i] = z := ⟨_, rfl⟩
  obtain ⟨z2, hz2⟩ : ∃ z, hd Q[j] = z := ⟨_, rfl⟩
  rw [hz1, hz2]
  have HZ1 := Lib.hid hz1
  have HZ2 := Lib.hid hz2
  clear hz1 hz2
  go_enter Try.func195, Try.ntmps195
  go_wp2
  refine wp_region_rest (by kernel_rfl) ?_
  have hbd := (Below.refl w.heap.size w).drew
  have h' := h.below hbd
  have HB := Lib.hid hbd
  clear h hbd
  generalize w.drew = W0 at *
  obtain ⟨a1, m1, c1, x1, s1⟩ := own_sl h' i hi
  obtain ⟨a2, m2, c2, x2, s2⟩ := own_sl h' j hj
  obtain ⟨l1, e1⟩ := hd_get ni
  obtain ⟨l2, e2⟩ := hd_get nj
  obtain ⟨b1, o1, rfl, y1, -, -⟩ := s1.head 0 l1
  obtain ⟨b2, o2, rfl, y2, -, -⟩ := s2.head 0 l2
  rw [e1] at y1
  rw [e2] at y2
  have k1 := s1.mlen
  have k2 := s2.mlen
  have q1 : 0 < m1 := by omega
  have q2 : 0 < m2 := by omega
  have q3 : m1 ≤ c1 := k1.2.1
  have q4 : m2 ≤ c2 := k2.2.1
  rw [HZ1.out] at y1
  rw [HZ2.out] at y2
  rw [Nat.add_zero] at y1 y2
  have i1 : i < n := by omega
  have j1 : j < n := by omega
  clear s1 s2 k1 k2 e1 e2 HZ1 HZ2 h' ni nj hn hi hj l1 l2
  refine rest_chainP (fun u => u = W0) 0 12 (.soft 0 (.soft 1 (.soft 2 (.soft 3 (.soft 4 (.soft 5 (.soft 6 (.soft 7 (.soft 8 (.soft 9 (.soft 10 (.soft 11 .nil)))))))))))) (.soft _ (.soft _ (.soft _ (.soft _ (.soft _ (.soft _ (.soft _ (.soft _ (.soft _ (.soft _ (.soft _ (.soft _ .nil)))))))))))) ⟨rfl, ⟨rfl, ⟨rfl, ⟨rfl, ⟨rfl, ⟨rfl, ⟨rfl, ⟨rfl, ⟨rfl, ⟨rfl, ⟨rfl, ⟨rfl, trivial⟩⟩⟩⟩⟩⟩⟩⟩⟩⟩⟩⟩ (by kernel_rfl) (by kernel_rfl) (by kernel_rfl) (by kernel_rfl) (.inr (by kernel_rfl)) rfl ?_
  refine chainP_soft (a1 := ?ma1) (by kernel_rfl) (by kernel_rfl) ?mh1 ?mr1
  case mh1 =>
    intro u hu E hE
    subst hu
    go_wp2
    rfl
  refine chainP_soft (a1 := ?ma2) (by kernel_rfl) (by kernel_rfl) ?mh2 ?mr2
  case mh2 =>
    intro u hu E hE
    subst hu
    go_wp2
    rfl
  refine chainP_soft (a1 := ?ma3) (by kernel_rfl) (by kernel_rfl) ?mh3 ?mr3
  case mh3 =>
    intro u hu E hE
    subst hu
    go_wp2
    rfl
  refine chainP_soft (a1 := ?ma4) (by kernel_rfl) (by kernel_rfl) ?mh4 ?mr4
  case mh4 =>
    intro u hu E hE
    subst hu
    go_wp2
    rfl
  refine chainP_soft (a1 := ?ma5) (by kernel_rfl) (by kernel_rfl) ?mh5 ?mr5
  case mh5 =>
    intro u hu E hE
    subst hu
    go_wp2
    rfl
  refine chainP_soft (a1 := ?ma6) (by kernel_rfl) (by kernel_rfl) ?mh6 ?mr6
  case mh6 =>
    intro u hu E hE
    subst hu
    go_wp2
    rfl
  refine chainP_soft (a1 := ?ma7) (by kernel_rfl) (by kernel_rfl) ?mh7 ?mr7
  case mh7 =>
    intro u hu E hE
    subst hu
    go_wp2
    rfl
  refine chainP_soft (a1 := ?ma8) (by kernel_rfl) (by kernel_rfl) ?mh8 ?mr8
  case mh8 =>
    intro u hu E hE
    subst hu
    go_wp2
    rfl
  refine chainP_soft (a1 := ?ma9) (by kernel_rfl) (by kernel_rfl) ?mh9 ?mr9
  case mh9 =>
    intro u hu E hE
    subst hu
    go_wp2
    rfl
  refine chainP_soft (a1 := ?ma10) (by kernel_rfl) (by kernel_rfl) ?mh10 ?mr10
  case mh10 =>
    intro u hu E hE
    subst hu
    go_wp2
    rfl
  refine chainP_soft (a1 := ?ma11) (by kernel_rfl) (by kernel_rfl) ?mh11 ?mr11
  case mh11 =>
    intro u hu E hE
    subst hu
    go_wp2
    rfl
  refine chainP_soft (a1 := ?ma12) (by kernel_rfl) (by kernel_rfl) ?mh12 ?mr12
  case mh12 =>
    intro u hu E hE
    subst hu
    go_wp2
    rfl
  refine chainP_nil ?_
  refine rest_lineL 12 14 [_, _] rfl (by kernel_rfl) (by decide) (by decide) (by kernel_rfl) ?_
  go_wp2
  refine then_rest (rest_end (by decide) ?_)
  go_wp2
  go_ret
  exact ⟨rfl, HB.out⟩
theorem own_formX {α : Type} {K : Rws.Kind α} {w : World} {base : Nat} {P : Nat → Prop} {v : Value} {l : List α} (h : Own K w base P v l) : ∃ q c, v = .slice q l.length c := by
  rcases h.form with ⟨rfl, e⟩ | ⟨g, c, rfl⟩
  · exact ⟨none, 0, by rw [e]; rfl⟩
  · exact ⟨_, c, rfl⟩
theorem info_slx : (Try.prog.info? 37).map (fun i => (i.zero, i.size, i.bytes)) = some (some (.slice none 0 0), 1, 24) := by kernel_rfl
theorem own_n {α : Type} {K : Rws.Kind α} {w : World} {base g n c : Nat} {P : Nat → Prop} {Q : List α} (h : Own K w base P (.slice (some ⟨g, 0, none⟩) n c) Q) : n = Q.length := by
  obtain ⟨xss, h1, -⟩ := h
  rcases h1.2 with ⟨e, -⟩ | ⟨g', c', cur, e, -⟩
  · cases e
  · simp only [Value.slice.injEq] at e; exact e.2.1
theorem frozen_eq {w w' : World} {g : Nat} (h : w'.heap[g]? = w.heap[g]?) (k : Nat) : w'.frozen? ⟨g, k, none⟩ = w.frozen? ⟨g, k, none⟩ := by
  simp [World.frozen?, h]
theorem heap_setC {w w' : World} {g : Nat} (h : w'.heap[g]? = w.heap[g]?) (k : Nat) (v : Value) : (w'.setCell ⟨g, k, none⟩ v).heap[g]? = (w.setCell ⟨g, k, none⟩ v).heap[g]? := by
  simp [World.setCell, Array.getElem?_modify, h]
theorem keepsC (W : World) (b k : Nat) (v : Value) : Keeps W (W.setCell ⟨b, k, none⟩ v) (fun x => x = b) := ⟨rfl, rfl, rfl, by simp [World.setCell], fun _ _ hb => Below.heap_setCell _ _ _ _ hb⟩
theorem own_put {w : World} {base g n c : Nat} {Q : List (List Int)} (h : Own slKind w base (fun b => b < base) (.slice (some ⟨g, 0, none⟩) n c) Q) (i : Nat) (hi : i < Q.length) {a : Option Addr} {m k : Nat} {L : List Int} (hL : IntSl w (fun b => b < base) (.slice a m k) L) :
    Own slKind (w.setCell ⟨g, i, none⟩ (.slice a m k)) base (fun b => b < base) (.slice (some ⟨g, 0, none⟩) n c) (Q.set i L) := by
  have hg := (h.low g rfl).1
  have := h.stored (own_n h).symm i hi 0 (by decide) (.slice a m k) L (fun cs ⟨a', m', c', e, hr⟩ => ⟨a, m, k, by rw [e]; rfl, by
    obtain ⟨x, cap, e, h1, h2, h3⟩ := hL
    refine ⟨x, cap, e, h1, h2, fun j hj => ?_⟩
    obtain ⟨b, off, e1, hp, hl, hc⟩ := h3 j hj
    exact ⟨b, off, e1, ⟨hp, fun e => by simp only [Value.ownBlock, Option.some.injEq] at e; omega, hl⟩, hl, hc⟩⟩)
  simpa [slKind] using this
/-- one cell of a block is turned -/
def SetC (W0 : World) (g i : Nat) (v : Value) (u : World) : Prop := u.heap[g]? = (W0.setCell ⟨g, i, none⟩ v).heap[g]? ∧ g < u.heap.size
set_option maxRecDepth 100000 in
set_option maxHeartbeats 1000000 in
theorem rows_Swap {w : World} {base g n c : Nat} {Q : List (List Int)} (h : Own slKind w base (fun b => b < base) (.slice (some ⟨g, 0, none⟩) n c) Q) (i j : Nat) (hi : i < Q.length) (hj : j < Q.length) :
    Calls Try.prog 198 #[.slice (some ⟨g, 0, none⟩) n c, .int .i64 i, .int .i64 j] w fun e w' => e = .returned (.tuple #[]) ∧ Own slKind w' base (fun b => b < base) (.slice (some ⟨g, 0, none⟩) n c) ((Q.set i Q[j]).set j Q[i]) ∧ Keeps w w' (fun b => b = g) := by
  have hn := own_n h
  have hc := h.caps
  unfold maxLen at hc
  go_enter Try.func198, Try.ntmps198
  go_wp2
  refine wp_region_rest (by kernel_rfl) ?_
  have hbd := (Below.refl w.heap.size w).drew
  have h' := h.below hbd
  have HB := Lib.hid hbd
  clear h hbd
  generalize w.drew = W0 at *
  obtain ⟨a1, m1, c1, x1, s1⟩ := own_sl h' i hi
  obtain ⟨a2, m2, c2, x2, s2⟩ := own_sl h' j hj
  have hgl := (h'.low g rfl)
  have i1 : i < n := by omega
  have j1 : j < n := by omega
  have H := Lib.hid h'
  have S1 := Lib.hid s1
  have S2 := Lib.hid s2
  clear h' s1 s2
  refine rest_opsM 0 14 20 [(13, g)] (fun _ _ => false) [_, _, _, _, _, _, _, _, _, _, _, _, _, _] (pk 0 [isV ?a13_0, isV ?a13_1, isV ?a13_2, isV ?a13_3, isV ?a13_4, isV ?a13_5, isV ?a13_6, isV (.slice a2 m2 c2), isV ?a13_8, isV ?a13_9, isV ?a13_10, isV (.slice a1 m1 c1), isV ?a13_12, fun v u => SetC W0 g i (.slice a2 m2 c2) u]) (fun _ _ => none) rfl (by kernel_rfl) (by kernel_rfl) rfl (.inr (by kernel_rfl)) ?hS13 ?hop13 ?_
  case hop13 =>
    refine ⟨?_, ?_⟩
    · intro v u hu hs Q' hQ
      simp only [putX, dstOf, cond_false]
      clear hs
      go_wp2
      exact ⟨rfl, Keeps.refl _ _, by (show _ = _; rfl), fun _ h => nomatch h⟩
    refine ⟨?_, ?_⟩
    · intro v u hu hs Q' hQ
      simp only [putX, dstOf, cond_false]
      clear hs
      go_wp2
      exact ⟨rfl, Keeps.refl _ _, by (show _ = _; rfl), fun _ h => nomatch h⟩
    refine ⟨?_, ?_⟩
    · intro v u hu hs Q' hQ
      simp only [putX, dstOf, cond_false]
      clear hs
      go_wp2
      exact ⟨rfl, Keeps.refl _ _, by (show _ = _; rfl), fun _ h => nomatch h⟩
    refine ⟨?_, ?_⟩
    · intro v u hu hs Q' hQ
      simp only [putX, dstOf, cond_false]
      clear hs
      go_wp2
      exact ⟨rfl, Keeps.refl _ _, by (show _ = _; rfl), fun _ h => nomatch h⟩
    refine ⟨?_, ?_⟩
    · intro v u hu hs Q' hQ
      simp only [putX, dstOf, cond_false]
      clear hs
      go_wp2
      exact ⟨rfl, Keeps.refl _ _, by (show _ = _; rfl), fun _ h => nomatch h⟩
    refine ⟨?_, ?_⟩
    · intro v u hu hs Q' hQ
      simp only [putX, dstOf, cond_false]
      clear hs
      go_wp2
      exact ⟨rfl, Keeps.refl _ _, by (show _ = _; rfl), fun _ h => nomatch h⟩
    refine ⟨?_, ?_⟩
    · intro v u hu hs Q' hQ
      simp only [putX, dstOf, cond_false]
      have s_4 : v 4 = _ := hs 4 (by kernel_rfl) (by decide) (by decide)
      have s_5 : v 5 = _ := hs 5 (by kernel_rfl) (by decide) (by decide)
      clear hs
      go_wp2
      exact ⟨rfl, Keeps.refl _ _, by (show _ = _; rfl), fun _ h => nomatch h⟩
    refine ⟨?_, ?_⟩
    · intro v u hu hs Q' hQ
      simp only [putX, dstOf, cond_false]
      have s_6 : v 6 = _ := hs 6 (by kernel_rfl) (by decide) (by decide)
      have HZ := hu.size
      have KU : ∀ b, b < W0.heap.size → b ∉ ([] : List Nat) → u.heap[b]? = W0.heap[b]? := fun b hlt hn => hu.block b hlt fun h => hn h
      have y1 := (World.cell?_of_block (w := W0) (w' := u) (a := ⟨g, i, none⟩) (KU g hgl.2 (by simp))).trans x1
      have y2 := (World.cell?_of_block (w := W0) (w' := u) (a := ⟨g, j, none⟩) (KU g hgl.2 (by simp))).trans x2
      clear hs
      go_wp2
      exact ⟨rfl, Keeps.refl _ _, by (show _ = _; rfl), fun _ h => nomatch h⟩
    refine ⟨?_, ?_⟩
    · intro v u hu hs Q' hQ
      simp only [putX, dstOf, cond_false]
      clear hs
      go_wp2
      exact ⟨rfl, Keeps.refl _ _, by (show _ = _; rfl), fun _ h => nomatch h⟩
    refine ⟨?_, ?_⟩
    · intro v u hu hs Q' hQ
      simp only [putX, dstOf, cond_false]
      clear hs
      go_wp2
      exact ⟨rfl, Keeps.refl _ _, by (show _ = _; rfl), fun _ h => nomatch h⟩
    refine ⟨?_, ?_⟩
    · intro v u hu hs Q' hQ
      simp only [putX, dstOf, cond_false]
      have s_8 : v 8 = _ := hs 8 (by kernel_rfl) (by decide) (by decide)
      have s_9 : v 9 = _ := hs 9 (by kernel_rfl) (by decide) (by decide)
      clear hs
      go_wp2
      exact ⟨rfl, Keeps.refl _ _, by (show _ = _; rfl), fun _ h => nomatch h⟩
    refine ⟨?_, ?_⟩
    · intro v u hu hs Q' hQ
      simp only [putX, dstOf, cond_false]
      have s_10 : v 10 = _ := hs 10 (by kernel_rfl) (by decide) (by decide)
      have HZ := hu.size
      have KU : ∀ b, b < W0.heap.size → b ∉ ([] : List Nat) → u.heap[b]? = W0.heap[b]? := fun b hlt hn => hu.block b hlt fun h => hn h
      have y1 := (World.cell?_of_block (w := W0) (w' := u) (a := ⟨g, i, none⟩) (KU g hgl.2 (by simp))).trans x1
      have y2 := (World.cell?_of_block (w := W0) (w' := u) (a := ⟨g, j, none⟩) (KU g hgl.2 (by simp))).trans x2
      clear hs
      go_wp2
      exact ⟨rfl, Keeps.refl _ _, by (show _ = _; rfl), fun _ h => nomatch h⟩
    refine ⟨?_, ?_⟩
    · intro v u hu hs Q' hQ
      simp only [putX, dstOf, cond_false]
      have s_0 : v 0 = _ := hs 0 (by kernel_rfl) (by decide) (by decide)
      have s_1 : v 1 = _ := hs 1 (by kernel_rfl) (by decide) (by decide)
      have s_4 : v 4 = _ := hs 4 (by kernel_rfl) (by decide) (by decide)
      have s_5 : v 5 = _ := hs 5 (by kernel_rfl) (by decide) (by decide)
      have s_6 : v 6 = _ := hs 6 (by kernel_rfl) (by decide) (by decide)
      have s_7 : v 7 = .slice a2 m2 c2 := hs 7 (by kernel_rfl) (by decide) (by decide)
      have s_11 : v 11 = .slice a1 m1 c1 := hs 11 (by kernel_rfl) (by decide) (by decide)
      clear hs
      go_wp2
      exact ⟨rfl, Keeps.refl _ _, by (show _ = _; rfl), fun _ h => nomatch h⟩
    refine ⟨?_, ?_⟩
    · intro v u hu hs Q' hQ
      simp only [putX, dstOf, cond_false]
      have s_0 : v 0 = _ := hs 0 (by kernel_rfl) (by decide) (by decide)
      have s_1 : v 1 = _ := hs 1 (by kernel_rfl) (by decide) (by decide)
      have s_4 : v 4 = _ := hs 4 (by kernel_rfl) (by decide) (by decide)
      have s_5 : v 5 = _ := hs 5 (by kernel_rfl) (by decide) (by decide)
      have s_6 : v 6 = _ := hs 6 (by kernel_rfl) (by decide) (by decide)
      have s_7 : v 7 = .slice a2 m2 c2 := hs 7 (by kernel_rfl) (by decide) (by decide)
      have s_11 : v 11 = .slice a1 m1 c1 := hs 11 (by kernel_rfl) (by decide) (by decide)
      have s_12 : v 12 = _ := hs 12 (by kernel_rfl) (by decide) (by decide)
      have HZ := hu.size
      have KU : ∀ b, b < W0.heap.size → b ∉ ([] : List Nat) → u.heap[b]? = W0.heap[b]? := fun b hlt hn => hu.block b hlt fun h => hn h
      have y1 := (World.cell?_of_block (w := W0) (w' := u) (a := ⟨g, i, none⟩) (KU g hgl.2 (by simp))).trans x1
      have y2 := (World.cell?_of_block (w := W0) (w' := u) (a := ⟨g, j, none⟩) (KU g hgl.2 (by simp))).trans x2
      clear hs
      (have f1 := (frozen_eq (KU g hgl.2 (by simp)) i).trans (H.out.thaw hn.symm i); simp only [s_7, s_12]; go_wp2)
      exact ⟨rfl, keepsC _ _ _ _, ⟨heap_setC (KU g hgl.2 (by simp)) _ _, by simp [World.setCell]; have := hu.size; omega⟩, fun _ h => nomatch h⟩
    exact trivial
  case hS13 =>
    intro j v u u' hkj hjn h hz hb
    match j, hkj, hjn, h, hb with
    | 0, _, _, h, hb => exact h
    | 1, _, _, h, hb => exact h
    | 2, _, _, h, hb => exact h
    | 3, _, _, h, hb => exact h
    | 4, _, _, h, hb => exact h
    | 5, _, _, h, hb => exact h
    | 6, _, _, h, hb => exact h
    | 7, _, _, h, hb => exact h
    | 8, _, _, h, hb => exact h
    | 9, _, _, h, hb => exact h
    | 10, _, _, h, hb => exact h
    | 11, _, _, h, hb => exact h
    | 12, _, _, h, hb => exact h
    | 13, _, _, h, hb => exact (let ⟨h1, h3⟩ := h; ⟨(hb.block _ h3 (by rintro ⟨q, hq, hm⟩; simp at hm; omega)).trans h1, Nat.lt_of_lt_of_le h3 hb.size⟩)
    | q + 14, _, hq, _, _ => exact absurd hq (by omega)
  intro v u hu hs hap
  have s_0 : v 0 = _ := hs 0 (by decide) (by decide)
  have s_1 : v 1 = _ := hs 1 (by decide) (by decide)
  have s_2 : v 2 = _ := hs 2 (by decide) (by decide)
  have s_3 : v 3 = _ := hs 3 (by decide) (by decide)
  have s_4 : v 4 = _ := hs 4 (by decide) (by decide)
  have s_5 : v 5 = _ := hs 5 (by decide) (by decide)
  have s_6 : v 6 = _ := hs 6 (by decide) (by decide)
  have s_7 : v 7 = .slice a2 m2 c2 := hs 7 (by decide) (by decide)
  have s_8 : v 8 = _ := hs 8 (by decide) (by decide)
  have s_9 : v 9 = _ := hs 9 (by decide) (by decide)
  have s_10 : v 10 = _ := hs 10 (by decide) (by decide)
  have s_11 : v 11 = .slice a1 m1 c1 := hs 11 (by decide) (by decide)
  have s_12 : v 12 = _ := hs 12 (by decide) (by decide)
  have s_13 : SetC W0 g i (.slice a2 m2 c2) u := hs 13 (by decide) (by decide)
  simp only [putAll, dstOf]
  have hset : SetC W0 g i (.slice a2 m2 c2) u := s_13
  have hkeep : Keeps W0 u (fun b => b = g) := ⟨hu.os, hu.tape, hu.output, hu.size, fun b hb hne => hu.block b hb (by rintro ⟨q, hm⟩; simp at hm; exact hne hm.2)⟩
  have hown : Own slKind u base (fun b => b < base) (.slice (some ⟨g, 0, none⟩) n c) (Q.set i Q[j]) :=
    (own_put H.out i hi S2.out).keep (by simp [World.setCell]; exact hkeep.size) fun b hlt hb => by
      by_cases e : b = g
      · subst e; exact hset.1
      · have hlt' : b < W0.heap.size := by simpa [World.setCell] using hlt
        exact (hkeep.block b hlt' e).trans (Below.heap_setCell _ _ _ _ e).symm
  obtain ⟨a3, m3, c3, x3, s3⟩ := own_sl hown j (by simpa using hj)
  have f3 := hown.thaw (by simpa using hn.symm) j
  have s1 : IntSl u (fun b => b < base) (.slice a1 m1 c1) Q[i] := by
    obtain ⟨x, cap, e, h1, h2, h3⟩ := S1.out
    refine ⟨x, cap, e, h1, h2, fun k hk => ?_⟩
    obtain ⟨b, off, e1, hp, hl, hcc⟩ := h3 k hk
    exact ⟨b, off, e1, hp, Nat.lt_of_lt_of_le hl hkeep.size, (World.cell?_of_block (w := W0) (w' := u) (a := ⟨b, off + k, none⟩) (hkeep.block b hl (by have hp' : b < base := hp; omega))).trans hcc⟩
  have HF := Lib.hid (own_put hown j (by simpa using hj) s1)
  have HK := Lib.hid hkeep
  have HG := Lib.hid (show Keeps w W0 (fun b => b = g) from Keeps.of HB.out)
  clear hs hap hset hown hkeep hu s_13 s1 s3 S1 S2 H HB
  refine rest_lineL 14 16 [_, _] rfl (by kernel_rfl) (by decide) (by decide) (by kernel_rfl) ?_
  simp only [s_0, s_1, s_2, s_3, s_4, s_5, s_6, s_7, s_8, s_9, s_10, s_11, s_12]
  go_wp2
  refine then_rest (rest_end (by decide) ?_)
  go_wp2
  exact ⟨rfl, .tuple #[], by simp [results, Try.results198, go_sem], rfl, HF.out, HG.out.trans (HK.out.trans (keepsC _ _ _ _) fun b e => .inl e) fun b e => .inl e⟩
theorem run_asInts (v : Value) (w : World) : (Instr.typeAssert (.iface 37 v) 20 37 true).run Try.prog w = .ok (.tuple #[v, .bool true]) w := by kernel_rfl
/-- what a step of the heap may write: its variable, and its row -/
structure HpMv (w : World) (rb : Nat) (v : Value) (w' : World) (v' : Value) : Prop where
  kp : Keeps w w' (fun b => b = rb ∨ v.ownBlock = some b)
  ow : ∀ b, v'.ownBlock = some b → v.ownBlock = some b ∨ w.heap.size ≤ b
theorem HpMv.of {w w' : World} {rb : Nat} {v : Value} (h : Below w.heap.size w w') : HpMv w rb v w' v := ⟨Keeps.of h, fun b e => .inl e⟩
theorem HpMv.trans {w w1 w2 : World} {rb : Nat} {v v1 v2 : Value} (h : HpMv w rb v w1 v1) (h' : HpMv w1 rb v1 w2 v2) : HpMv w rb v w2 v2 :=
  ⟨h.kp.trans h'.kp fun b hb => by
    rcases hb with hb | hb
    · exact .inl (.inl hb)
    · exact (h.ow b hb).imp .inr id, fun b e => by
    have hs := h.kp.size
    rcases h'.ow b e with e1 | e1
    · exact h.ow b e1
    · exact .inr (by omega)⟩
theorem HpAt.swap {w w' : World} {base rb g c : Nat} {Q Q' : List (List Int)} (h : HpAt w base rb (.slice (some ⟨g, 0, none⟩) Q.length c) Q) (ho : Own slKind w' base (fun b => b < base) (.slice (some ⟨g, 0, none⟩) Q.length c) Q') (hk : Keeps w w' (fun b => b = g)) :
    HpAt w' base rb (.slice (some ⟨g, 0, none⟩) Q.length c) Q' ∧ HpMv w rb (.slice (some ⟨g, 0, none⟩) Q.length c) w' (.slice (some ⟨g, 0, none⟩) Q.length c) := by
  have hg := h.own.low g rfl
  have hne : rb ≠ g := fun e => h.ne (by rw [e]; rfl)
  refine ⟨⟨(hk.block rb (Array.getElem?_eq_some_iff.1 h.row).1 hne).trans h.row, ho, h.lo, h.ne⟩, ⟨hk.os, hk.tape, hk.output, hk.size, fun b hb hn => hk.block b hb fun e => hn (.inr (by rw [e]; rfl))⟩, fun b e => .inl e⟩
theorem push_end {w w8 : World} {base rb c7 : Nat} {q7 : Option Addr} {v : Value} {Q Q' : List (List Int)} {o : Obj} {n : Nat} (H : HpAt w base rb v Q) (hrw : w8.heap[rb]? = some (.cells #[v] 103 (0, 0))) (ho : Own slKind w8 base (fun b => b < base) (.slice q7 n c7) Q')
    (hv : (Value.slice q7 n c7).ownBlock ≠ some rb) (hg : (w.alloc o).grownBy w8 v.ownBlock) (hv' : ∀ k, (Value.slice q7 n c7).ownBlock = some k → v.ownBlock = some k ∨ (w.alloc o).heap.size ≤ k) : HpAt (w8.setCell ⟨rb, 0, none⟩ (.slice q7 n c7)) base rb (.slice q7 n c7) Q' ∧ HpMv w rb v (w8.setCell ⟨rb, 0, none⟩ (.slice q7 n c7)) (.slice q7 n c7) := by
  have hlo := H.lo
  have hrl := (Array.getElem?_eq_some_iff.1 H.row).1
  refine ⟨⟨by simpa using heap_setCell_same w8 rb 0 _ _ (.slice q7 n c7) hrw, ho.keep (by simp [World.setCell]) fun b hlt he => Below.heap_setCell _ _ _ _ ?_, hlo, hv⟩, ?_⟩
  · rcases he with he | he
    · have he' : b < base := he
      show b ≠ rb
      omega
    · intro e
      exact hv (by rw [he]; exact congrArg some e)
  · have hz : (w.alloc o).heap.size = w.heap.size + 1 := by simp
    have hs := hg.size
    refine ⟨⟨hg.os, hg.tape, hg.output, by simp [World.setCell]; omega, fun b hb hn => ?_⟩, fun b e => (hv' b e).imp id fun h => by omega⟩
    exact (Below.heap_setCell _ _ _ _ fun e => hn (.inl e)).trans ((hg.block b (by omega) fun e => hn (.inr e.symm)).trans (Below.heap_alloc _ _ _ hb))
set_option maxRecDepth 100000 in
set_option maxHeartbeats 1000000 in
theorem rows_Push {w : World} {base rb : Nat} {v : Value} {Q : List (List Int)} (h : HpAt w base rb v Q) (hq : Q.length ≤ 10) (L : List Int) (a : Option Addr) (m c : Nat) (hL : IntSl w (fun b => b < base) (.slice a m c) L) :
    Calls Try.prog 197 #[.pointer (some ⟨rb, 0, none⟩), .iface 37 (.slice a m c)] w fun e w' => e = .returned (.tuple #[]) ∧ ∃ v', HpAt w' base rb v' (Q ++ [L]) ∧ HpMv w rb v w' v' := by
  obtain ⟨q, cq, rfl⟩ := own_formX h.own
  have x0 := cell_of_row _ _ 0 _ _ _ h.row
  have hrl := (Array.getElem?_eq_some_iff.1 h.row).1
  have hba : Below w.heap.size w (w.alloc (.cells #[.slice a m c] 37 (0, 0))) := (Below.refl w.heap.size w).alloc (Nat.le_refl _) _
  have hna := heap_alloc_new w (.cells #[.slice a m c] 37 (0, 0))
  have hy : IntSl (w.alloc (.cells #[.slice a m c] 37 (0, 0))) (fun b => b < base ∧ (Value.slice q Q.length cq).ownBlock ≠ some b) (.slice a m c) L := by
    obtain ⟨x, cap, e, h1, h2, h3⟩ := hL.below hba
    refine ⟨x, cap, e, h1, h2, fun j hj => ?_⟩
    obtain ⟨b, off, e1, hp, hl, hc⟩ := h3 j hj
    exact ⟨b, off, e1, ⟨hp, fun e => by have := (h.own.low b e).1; have hp' : b < base := hp; omega⟩, hl, hc⟩
  have HY := Lib.hid hy
  have HO := Lib.hid (h.own.below hba)
  have HN := Lib.hid hna
  have H := Lib.hid h
  have HL := Lib.hid hL
  have hlo := h.lo
  have hbl : base ≤ (w.alloc (.cells #[.slice a m c] 37 (0, 0))).heap.size := by simp; omega
  have HBL := Lib.hid hbl
  clear h hL hba hna hy hbl
  go_enter Try.func197, Try.ntmps197
  have hta := run_asInts
  go_wp2_with (with_reducible show wpList _ _ _ (⟨some 18, _, _, _, _, _⟩ :: _) _ _
               refine wpList_put (K := slKind) rfl (.tmp 15) (.tmp 17) _ rfl Try.underlying103 info_slx rfl base (fun b => b < base) _ Q [.slice a m c] L _ _ _ _ rfl HO.out rfl HN.out ⟨a, m, c, rfl, HY.out⟩ (by unfold maxLen; omega) (by omega) HBL.out ?_
               intro v7 w8 ho7 hb7 hg7 hv7
               have hrw : w8.heap[rb]? = some (.cells #[.slice q Q.length cq] 103 (0, 0)) := (hg7.block rb (by simp; omega) (fun e => H.out.ne e.symm)).trans ((Below.heap_alloc w _ rb hrl).trans H.out.row)
               have x8 : w8.cell? ⟨rb, 0, none⟩ = some (.slice q Q.length cq) := cell_of_row _ _ 0 _ _ _ hrw
               have f8 := frozen_of_row w8 rb 0 _ _ hrw
               have hv8 : v7.ownBlock ≠ some rb := fun e => by rcases hv7 rb e with h | h; exact H.out.ne h; simp at h; omega
               obtain ⟨q7, c7, rfl⟩ := own_formX ho7
               rw [List.length_append, List.length_singleton] at ho7 hv8 hv7 ⊢
               have HF := Lib.hid (push_end H.out hrw ho7 hv8 hg7 hv7)
               clear ho7 hb7 hg7 hv7 hrw hv8)
  go_wp2
  exact ⟨rfl, .tuple #[], by simp [results, Try.results197, go_sem], rfl, _, HF.out⟩
theorem HpAt.cut {w : World} {base rb g c n : Nat} {Q : List (List Int)} {L : List Int} (h : HpAt w base rb (.slice (some ⟨g, 0, none⟩) (n + 1) c) (Q ++ [L])) (hn : Q.length = n) : HpAt (w.setCell ⟨rb, 0, none⟩ (.slice (some ⟨g, 0, none⟩) n c)) base rb (.slice (some ⟨g, 0, none⟩) n c) Q ∧ HpMv w rb (.slice (some ⟨g, 0, none⟩) (n + 1) c) (w.setCell ⟨rb, 0, none⟩ (.slice (some ⟨g, 0, none⟩) n c)) (.slice (some ⟨g, 0, none⟩) n c) := by
  have hlo := h.lo
  have hne : g ≠ rb := fun e => h.ne (by rw [e]; rfl)
  have hc := h.own.cut (m := n) (by simp [hn]) (by omega)
  rw [List.take_append_of_le_length (by omega), List.take_of_length_le (by omega)] at hc
  refine ⟨⟨by simpa using heap_setCell_same w rb 0 _ _ (.slice (some ⟨g, 0, none⟩) n c) h.row, hc.keep (by simp [World.setCell]) fun b hlt he => Below.heap_setCell _ _ _ _ ?_, hlo, fun e => hne (by simpa [Value.ownBlock] using e)⟩, ?_⟩
  · rcases he with he | he
    · have he' : b < base := he
      show b ≠ rb
      omega
    · simp only [Value.ownBlock, Option.some.injEq] at he
      show b ≠ rb
      omega
  · exact ⟨⟨rfl, rfl, rfl, by simp [World.setCell], fun b _ hn => Below.heap_setCell _ _ _ _ fun e => hn (.inl e)⟩, fun b e => .inl e⟩
set_option maxRecDepth 100000 in
set_option maxHeartbeats 1000000 in
theorem rows_Pop {w : World} {base rb : Nat} {v : Value} {Q : List (List Int)} {L : List Int} (h : HpAt w base rb v (Q ++ [L])) (hq : Q.length ≤ 10) :
    Calls Try.prog 196 #[.pointer (some ⟨rb, 0, none⟩)] w fun e w' => ∃ x, e = .returned (.iface 37 x) ∧ ∃ v', HpAt w' base rb v' Q ∧ HpMv w rb v w' v' := by
  obtain ⟨q, cq, rfl⟩ := own_formX h.own
  have hqs : ∃ g, q = some ⟨g, 0, none⟩ := by
    rcases h.own.form with ⟨e, h0⟩ | ⟨g, c, e⟩
    · simp at h0
    · simp only [Value.slice.injEq] at e; exact ⟨g, e.1⟩
  obtain ⟨g, rfl⟩ := hqs
  rw [List.length_append, List.length_singleton] at h
  obtain ⟨n, hn⟩ : ∃ n, Q.length = n := ⟨_, rfl⟩
  rw [hn] at h hq
  have hcap := h.own.caps
  obtain ⟨a, m, c, x1, s1⟩ := own_sl h.own n (by simp [hn])
  have x0 := cell_of_row _ _ 0 _ _ _ h.row
  have f0 := frozen_of_row w rb 0 _ _ h.row
  have HF := Lib.hid (h.cut hn)
  unfold maxLen at hcap
  clear h s1
  go_enter Try.func196, Try.ntmps196
  go_wp2
  go_ret
  exact ⟨_, rfl, _, HF.out.1, ⟨HF.out.2.kp, HF.out.2.ow⟩⟩
/-- a heap of two rows, the lesser first number first -/
def ord2 (A B : List Int) : List (List Int) := if hd B < hd A then [B, A] else [A, B]
theorem HpAt.two {w : World} {base rb : Nat} {v : Value} {A B : List Int} (h : HpAt w base rb v [A, B]) : ∃ g c, v = .slice (some ⟨g, 0, none⟩) 2 c := by
  rcases h.own.form with ⟨e, h0⟩ | ⟨g, c, e⟩
  · simp at h0
  · exact ⟨g, c, e⟩
theorem HpAt.one {w : World} {base rb : Nat} {v : Value} {A : List Int} (h : HpAt w base rb v [A]) : ∃ g c, v = .slice (some ⟨g, 0, none⟩) 1 c := by
  rcases h.own.form with ⟨e, h0⟩ | ⟨g, c, e⟩
  · simp at h0
  · exact ⟨g, c, e⟩
theorem up_zero (v : Value) (w : World) : Calls Try.prog 86 #[v, .int .i64 0] w fun e w' => e = .returned (.tuple #[]) ∧ w = w' := by
  go_enter Try.func86, Try.ntmps86
  go_wp2
  refine wp_loop_rounds 1 ?_
  rw [rounds_succ]
  go_wp2
  exact ⟨rfl, .tuple #[], by simp [results, Try.results86, go_sem], rfl, rfl⟩
theorem less_two {w : World} {base g c : Nat} {A B : List Int} (h : Own slKind w base (fun b => b < base) (.slice (some ⟨g, 0, none⟩) 2 c) [A, B]) (nA : A ≠ []) (nB : B ≠ []) :
    Calls Try.prog 195 #[.slice (some ⟨g, 0, none⟩) 2 c, .int .i64 1, .int .i64 0] w fun e w' => e = .returned (.bool (decide (hd B < hd A))) ∧ Below w.heap.size w w' :=
  rows_Less h 1 0 (by simp) (by simp) nB nA
theorem swap_two {w : World} {base rb g c : Nat} {A B : List Int} (h : HpAt w base rb (.slice (some ⟨g, 0, none⟩) 2 c) [A, B]) (i j : Nat) (hij : i + j = 1) :
    Calls Try.prog 198 #[.slice (some ⟨g, 0, none⟩) 2 c, .int .i64 i, .int .i64 j] w fun e w' => e = .returned (.tuple #[]) ∧ HpAt w' base rb (.slice (some ⟨g, 0, none⟩) 2 c) [B, A] ∧ HpMv w rb (.slice (some ⟨g, 0, none⟩) 2 c) w' (.slice (some ⟨g, 0, none⟩) 2 c) := by
  refine (rows_Swap h.own i j (by simp; omega) (by simp; omega)).mono ?_
  rintro e w' ⟨rfl, ho, hk⟩
  have e2 : (([A, B].set i ([A, B][j]'(by simp; omega))).set j ([A, B][i]'(by simp; omega))) = [B, A] := by
    rcases (show (i = 0 ∧ j = 1) ∨ (i = 1 ∧ j = 0) by omega) with ⟨rfl, rfl⟩ | ⟨rfl, rfl⟩ <;> rfl
  rw [e2] at ho
  exact ⟨rfl, HpAt.swap (Q := [A, B]) h ho hk⟩
set_option maxRecDepth 100000 in
set_option maxHeartbeats 1000000 in
theorem up_one {w : World} {base rb : Nat} {v : Value} {A B : List Int} (h : HpAt w base rb v [A, B]) (nA : A ≠ []) (nB : B ≠ []) :
    Calls Try.prog 86 #[hpV rb, .int .i64 1] w fun e w' => e = .returned (.tuple #[]) ∧ ∃ v', HpAt w' base rb v' (ord2 A B) ∧ HpMv w rb v w' v' := by
  obtain ⟨g, c, rfl⟩ := h.two
  have hm := fun k => m_Less k h.row
  have HC := Lib.hid (less_two h.own nA nB)
  have H := Lib.hid h
  have hbl : base ≤ w.heap.size := by have := h.lo; have := (Array.getElem?_eq_some_iff.1 h.row).1; omega
  clear h
  unfold ord2
  by_cases hlt : hd B < hd A
  · have hd1 : decide (hd B < hd A) = true := by simpa using hlt
    rw [if_pos hlt]
    obtain ⟨zz, hzz⟩ : ∃ zz, zz = decide (hd B < hd A) := ⟨_, rfl⟩
    rw [← hzz] at HC hd1
    clear hzz hlt
    go_enter Try.func86, Try.ntmps86
    go_wp2
    refine wp_loop_rounds 2 ?_
    rw [rounds_succ]
    go_wp2_with fail
    refine HC.out.mono ?_
    rintro e1 w1 ⟨rfl, hb1⟩
    have h1 := H.out.below hb1
    have hm2 := fun k => m_Swap k h1.row
    have HS := Lib.hid (swap_two h1 0 1 rfl)
    have HB1 := Lib.hid (HpMv.of (rb := rb) (v := .slice (some ⟨g, 0, none⟩) 2 c) hb1)
    clear hm hb1 h1 HC H
    dsimp only
    go_wp2_with fail
    refine HS.out.mono ?_
    rintro e2 w2 ⟨rfl, h2, hb2⟩
    have HF := Lib.hid h2
    have HB := Lib.hid (HB1.out.trans hb2)
    clear h2 hb2 hm2 HS HB1
    dsimp only
    go_wp2
    rw [rounds_succ]
    go_wp2
    exact ⟨rfl, .tuple #[], by simp [results, Try.results86, go_sem], rfl, _, HF.out, HB.out⟩
  · have hd1 : decide (hd B < hd A) = false := by simpa using hlt
    rw [if_neg hlt]
    obtain ⟨zz, hzz⟩ : ∃ zz, zz = decide (hd B < hd A) := ⟨_, rfl⟩
    rw [← hzz] at HC hd1
    clear hzz hlt
    go_enter Try.func86, Try.ntmps86
    go_wp2
    refine wp_loop_rounds 1 ?_
    rw [rounds_succ]
    go_wp2_with fail
    refine HC.out.mono ?_
    rintro e1 w1 ⟨rfl, hb1⟩
    have HF := Lib.hid (H.out.below hb1)
    have HB1 := Lib.hid (HpMv.of (rb := rb) (v := .slice (some ⟨g, 0, none⟩) 2 c) hb1)
    clear hm hb1 HC H
    dsimp only
    go_wp2
    exact ⟨rfl, .tuple #[], by simp [results, Try.results86, go_sem], rfl, _, HF.out, HB1.out⟩
/-- down, of fewer than two rows -/
theorem down_none (v : Value) (n : Nat) (hn : n ≤ 1) (w : World) : Calls Try.prog 87 #[v, .int .i64 0, .int .i64 n] w fun e w' => e = .returned (.bool false) ∧ w = w' := by
  have h1 : decide ((n : Int) ≤ 1) = true := by simp; omega
  go_enter Try.func87, Try.ntmps87
  go_wp2
  refine wp_loop_rounds 1 ?_
  rw [rounds_succ]
  go_wp2
  go_ret
  exact ⟨rfl, rfl⟩
set_option maxRecDepth 100000 in
set_option maxHeartbeats 1000000 in
theorem down_two {w : World} {base rb : Nat} {v : Value} {A B : List Int} (h : HpAt w base rb v [A, B]) (nA : A ≠ []) (nB : B ≠ []) :
    Calls Try.prog 87 #[hpV rb, .int .i64 0, .int .i64 2] w fun e w' => e = .returned (.bool (decide (hd B < hd A))) ∧ ∃ v', HpAt w' base rb v' (ord2 A B) ∧ HpMv w rb v w' v' := by
  obtain ⟨g, c, rfl⟩ := h.two
  have hm := fun k => m_Less k h.row
  have HC := Lib.hid (less_two h.own nA nB)
  have H := Lib.hid h
  have hbl : base ≤ w.heap.size := by have := h.lo; have := (Array.getElem?_eq_some_iff.1 h.row).1; omega
  clear h
  unfold ord2
  by_cases hlt : hd B < hd A
  · have hd1 : decide (hd B < hd A) = true := by simpa using hlt
    rw [if_pos hlt]
    rw [hd1] at HC ⊢
    clear hlt hd1
    go_enter Try.func87, Try.ntmps87
    go_wp2
    refine wp_loop_rounds 2 ?_
    rw [rounds_succ]
    go_wp2_with fail
    refine HC.out.mono ?_
    rintro e1 w1 ⟨rfl, hb1⟩
    have h1 := H.out.below hb1
    have hm2 := fun k => m_Swap k h1.row
    have HS := Lib.hid (swap_two h1 0 1 rfl)
    have HB1 := Lib.hid (HpMv.of (rb := rb) (v := .slice (some ⟨g, 0, none⟩) 2 c) hb1)
    clear hm hb1 h1 HC H
    dsimp only
    go_wp2_with fail
    refine HS.out.mono ?_
    rintro e2 w2 ⟨rfl, h2, hb2⟩
    have HF := Lib.hid h2
    have HB := Lib.hid (HB1.out.trans hb2)
    clear h2 hb2 hm2 HS HB1
    dsimp only
    go_wp2
    rw [rounds_succ]
    go_wp2
    go_ret
    exact ⟨rfl, _, HF.out, HB.out⟩
  · have hd1 : decide (hd B < hd A) = false := by simpa using hlt
    rw [if_neg hlt]
    rw [hd1] at HC ⊢
    clear hlt hd1
    go_enter Try.func87, Try.ntmps87
    go_wp2
    refine wp_loop_rounds 1 ?_
    rw [rounds_succ]
    go_wp2_with fail
    refine HC.out.mono ?_
    rintro e1 w1 ⟨rfl, hb1⟩
    have HF := Lib.hid (H.out.below hb1)
    have HB1 := Lib.hid (HpMv.of (rb := rb) (v := .slice (some ⟨g, 0, none⟩) 2 c) hb1)
    clear hm hb1 HC H
    dsimp only
    go_wp2
    go_ret
    exact ⟨rfl, _, HF.out, HB1.out⟩
theorem HpAt.form {w : World} {base rb : Nat} {v : Value} {Q : List (List Int)} (h : HpAt w base rb v Q) : ∃ q c, v = .slice q Q.length c := own_formX h.own
theorem HpAt.lo' {w : World} {base rb : Nat} {v : Value} {Q : List (List Int)} (h : HpAt w base rb v Q) : base ≤ w.heap.size := by have := h.lo; have := (Array.getElem?_eq_some_iff.1 h.row).1; omega
set_option maxRecDepth 100000 in
set_option maxHeartbeats 1000000 in
theorem heap_Push0 {w : World} {base rb : Nat} {v : Value} (h : HpAt w base rb v []) (L : List Int) (a : Option Addr) (m c : Nat) (hL : IntSl w (fun b => b < base) (.slice a m c) L) :
    Calls Try.prog 42 #[hpV rb, .iface 37 (.slice a m c)] w fun e w' => e = .returned (.tuple #[]) ∧ ∃ v', HpAt w' base rb v' [L] ∧ HpMv w rb v w' v' := by
  have hm := fun k w => m_Push k rb w
  have HP := Lib.hid (rows_Push h (by simp) L a m c hL)
  clear h hL
  go_enter Try.func42, Try.ntmps42
  go_wp2_with fail
  refine HP.out.mono ?_
  rintro e1 w1 ⟨rfl, v1, h1, hb1⟩
  obtain ⟨q1, c1, rfl⟩ := h1.form
  have hl := fun k => m_Len k h1.row
  have HF := Lib.hid h1
  have HB := Lib.hid hb1
  clear h1 hb1 hm HP
  dsimp only
  go_wp2_with fail
  refine (rows_Len _ _ _ _).mono ?_
  rintro e2 w2 ⟨rfl, rfl⟩
  clear hl
  go_wp2_with fail
  refine (up_zero _ _).mono ?_
  rintro e3 w3 ⟨rfl, rfl⟩
  go_wp2
  exact ⟨rfl, .tuple #[], by simp [results, Try.results42, go_sem], rfl, _, HF.out, HB.out⟩
set_option maxRecDepth 100000 in
set_option maxHeartbeats 1000000 in
theorem heap_Push1 {w : World} {base rb : Nat} {v : Value} {A : List Int} (h : HpAt w base rb v [A]) (nA : A ≠ []) (L : List Int) (nL : L ≠ []) (a : Option Addr) (m c : Nat) (hL : IntSl w (fun b => b < base) (.slice a m c) L) :
    Calls Try.prog 42 #[hpV rb, .iface 37 (.slice a m c)] w fun e w' => e = .returned (.tuple #[]) ∧ ∃ v', HpAt w' base rb v' (ord2 A L) ∧ HpMv w rb v w' v' := by
  have hm := fun k w => m_Push k rb w
  have HP := Lib.hid (rows_Push h (by simp) L a m c hL)
  clear h hL
  go_enter Try.func42, Try.ntmps42
  go_wp2_with fail
  refine HP.out.mono ?_
  rintro e1 w1 ⟨rfl, v1, h1, hb1⟩
  replace h1 : HpAt w1 base rb v1 [A, L] := h1
  obtain ⟨q1, c1, rfl⟩ := h1.form
  have hl := fun k => m_Len k h1.row
  have HU := Lib.hid (up_one h1 nA nL)
  have HB := Lib.hid hb1
  clear h1 hb1 hm HP
  dsimp only
  go_wp2_with fail
  refine (rows_Len _ _ _ _).mono ?_
  rintro e2 w2 ⟨rfl, rfl⟩
  clear hl
  go_wp2_with fail
  refine HU.out.mono ?_
  rintro e3 w3 ⟨rfl, v3, h3, hb3⟩
  have HF := Lib.hid h3
  have HB3 := Lib.hid (HB.out.trans hb3)
  clear h3 hb3 HU HB
  dsimp only
  go_wp2
  exact ⟨rfl, .tuple #[], by simp [results, Try.results42, go_sem], rfl, _, HF.out, HB3.out⟩
theorem swap_one {w : World} {base rb g c : Nat} {A : List Int} (h : HpAt w base rb (.slice (some ⟨g, 0, none⟩) 1 c) [A]) :
    Calls Try.prog 198 #[.slice (some ⟨g, 0, none⟩) 1 c, .int .i64 0, .int .i64 0] w fun e w' => e = .returned (.tuple #[]) ∧ HpAt w' base rb (.slice (some ⟨g, 0, none⟩) 1 c) [A] ∧ HpMv w rb (.slice (some ⟨g, 0, none⟩) 1 c) w' (.slice (some ⟨g, 0, none⟩) 1 c) := by
  refine (rows_Swap h.own 0 0 (by simp) (by simp)).mono ?_
  rintro e w' ⟨rfl, ho, hk⟩
  exact ⟨rfl, HpAt.swap (Q := [A]) h ho hk⟩
set_option maxRecDepth 100000 in
set_option maxHeartbeats 1000000 in
theorem heap_Pop1 {w : World} {base rb : Nat} {v : Value} {A : List Int} (h : HpAt w base rb v [A]) :
    Calls Try.prog 45 #[hpV rb] w fun e w' => ∃ x, e = .returned (.iface 37 x) ∧ ∃ v', HpAt w' base rb v' [] ∧ HpMv w rb v w' v' := by
  obtain ⟨g, c, rfl⟩ := h.one
  have hl := fun k => m_Len k h.row
  have hs := fun k => m_Swap k h.row
  have hm := fun k w => m_Pop k rb w
  have HS := Lib.hid (swap_one h)
  clear h
  go_enter Try.func45, Try.ntmps45
  go_wp2_with fail
  refine (rows_Len _ _ _ _).mono ?_
  rintro e2 w2 ⟨rfl, rfl⟩
  clear hl
  go_wp2_with fail
  refine HS.out.mono ?_
  rintro e3 w3 ⟨rfl, h3, hb3⟩
  have HP := Lib.hid (rows_Pop (Q := []) h3 (by simp))
  have HB3 := Lib.hid hb3
  clear h3 hb3 HS hs
  dsimp only
  go_wp2_with fail
  refine (down_none _ 0 (by omega) _).mono ?_
  rintro e4 w4 ⟨rfl, rfl⟩
  go_wp2_with fail
  refine HP.out.mono ?_
  rintro e5 w5 ⟨x, rfl, v5, h5, hb5⟩
  have HF := Lib.hid h5
  have HB5 := Lib.hid (HB3.out.trans hb5)
  clear h5 hb5 HP HB3 hm
  dsimp only
  go_wp2
  go_ret
  exact ⟨_, rfl, _, HF.out, HB5.out⟩
set_option maxRecDepth 100000 in
set_option maxHeartbeats 1000000 in
theorem heap_Pop2 {w : World} {base rb : Nat} {v : Value} {A B : List Int} (h : HpAt w base rb v [A, B]) :
    Calls Try.prog 45 #[hpV rb] w fun e w' => ∃ x, e = .returned (.iface 37 x) ∧ ∃ v', HpAt w' base rb v' [B] ∧ HpMv w rb v w' v' := by
  obtain ⟨g, c, rfl⟩ := h.two
  have hl := fun k => m_Len k h.row
  have hs := fun k => m_Swap k h.row
  have hm := fun k w => m_Pop k rb w
  have HS := Lib.hid (swap_two h 0 1 rfl)
  clear h
  go_enter Try.func45, Try.ntmps45
  go_wp2_with fail
  refine (rows_Len _ _ _ _).mono ?_
  rintro e2 w2 ⟨rfl, rfl⟩
  clear hl
  go_wp2_with fail
  refine HS.out.mono ?_
  rintro e3 w3 ⟨rfl, h3, hb3⟩
  have HP := Lib.hid (rows_Pop (Q := [B]) h3 (by simp))
  have HB3 := Lib.hid hb3
  clear h3 hb3 HS hs
  dsimp only
  go_wp2_with fail
  refine (down_none _ 1 (by omega) _).mono ?_
  rintro e4 w4 ⟨rfl, rfl⟩
  go_wp2_with fail
  refine HP.out.mono ?_
  rintro e5 w5 ⟨x, rfl, v5, h5, hb5⟩
  have HF := Lib.hid h5
  have HB5 := Lib.hid (HB3.out.trans hb5)
  clear h5 hb5 HP HB3 hm
  dsimp only
  go_wp2
  go_ret
  exact ⟨_, rfl, _, HF.out, HB5.out⟩
set_option maxRecDepth 100000 in
set_option maxHeartbeats 1000000 in
theorem heap_Fix1 {w : World} {base rb : Nat} {v : Value} {A : List Int} (h : HpAt w base rb v [A]) :
    Calls Try.prog 46 #[hpV rb, .int .i64 0] w fun e w' => e = .returned (.tuple #[]) ∧ w = w' := by
  obtain ⟨g, c, rfl⟩ := h.one
  have hl := fun k => m_Len k h.row
  clear h
  go_enter Try.func46, Try.ntmps46
  go_wp2_with fail
  refine (rows_Len _ _ _ _).mono ?_
  rintro e2 w2 ⟨rfl, rfl⟩
  clear hl
  go_wp2_with fail
  refine (down_none _ 1 (by omega) _).mono ?_
  rintro e4 w4 ⟨rfl, rfl⟩
  go_wp2_with fail
  refine (up_zero _ _).mono ?_
  rintro e3 w3 ⟨rfl, rfl⟩
  go_wp2
  exact ⟨rfl, .tuple #[], by simp [results, Try.results46, go_sem], rfl, rfl⟩
set_option maxRecDepth 100000 in
set_option maxHeartbeats 1000000 in
theorem heap_Fix2 {w : World} {base rb : Nat} {v : Value} {A B : List Int} (h : HpAt w base rb v [A, B]) (nA : A ≠ []) (nB : B ≠ []) :
    Calls Try.prog 46 #[hpV rb, .int .i64 0] w fun e w' => e = .returned (.tuple #[]) ∧ ∃ v', HpAt w' base rb v' (ord2 A B) ∧ HpMv w rb v w' v' := by
  obtain ⟨g, c, rfl⟩ := h.two
  have hl := fun k => m_Len k h.row
  have HD := Lib.hid (down_two h nA nB)
  clear h
  obtain ⟨zz, hzz⟩ : ∃ zz, decide (hd B < hd A) = zz := ⟨_, rfl⟩
  rw [hzz] at HD
  clear hzz
  go_enter Try.func46, Try.ntmps46
  go_wp2_with fail
  refine (rows_Len _ _ _ _).mono ?_
  rintro e2 w2 ⟨rfl, rfl⟩
  clear hl
  go_wp2_with fail
  refine HD.out.mono ?_
  rintro e4 w4 ⟨rfl, v4, h4, hb4⟩
  have HF := Lib.hid h4
  have HB := Lib.hid hb4
  clear h4 hb4 HD
  dsimp only
  cases zz with
  | true =>
    go_wp2
    exact ⟨rfl, .tuple #[], by simp [results, Try.results46, go_sem], rfl, _, HF.out, HB.out⟩
  | false =>
    go_wp2_with fail
    refine (up_zero _ _).mono ?_
    rintro e3 w3 ⟨rfl, rfl⟩
    go_wp2
    exact ⟨rfl, .tuple #[], by simp [results, Try.results46, go_sem], rfl, _, HF.out, HB.out⟩
end Go.Proofs.Ytcmgfelbbmeanaa.Tms
