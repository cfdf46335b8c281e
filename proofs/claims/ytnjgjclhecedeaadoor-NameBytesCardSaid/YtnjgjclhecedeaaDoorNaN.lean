
/-
  Layer 2: the law NameBytes, walked over the program (printed by gen_nan.py).
-/
import Derived.Test.YtnjgjclhecedeaaDoorNaM
namespace Go.Proofs.YtnjgjclhecedeaaDoor.Nam
open Go Go.RowKit Go.Proofs.YtnjgjclhecedeaaDoor.Reg Go.Proofs.YtnjgjclhecedeaaDoor.Byt
set_option linter.unusedVariables false
set_option linter.unusedSimpArgs false

set_option maxRecDepth 100000 in
theorem one_tab : ∀ n, n < 256 → plainB [UInt8.ofNat n] = (sortN n == 2 || (sortN n == 5 && n != 46) || sortN n == 6) := by decide +kernel
set_option maxRecDepth 100000 in
theorem two_tab : ∀ n, n < 256 → plainB [91, UInt8.ofNat n] = (n == 93) ∧ plainB [123, UInt8.ofNat n] = (n == 125) := by decide +kernel
theorem bytes_one (c : UInt8) : plainB [c] = (sort c == 2 || (sort c == 5 && c.toNat != 46) || sort c == 6) := by
  have h := one_tab c.toNat c.toNat_lt
  rw [show UInt8.ofNat c.toNat = c by simp] at h
  exact h
theorem bytes_far (c d : UInt8) (h1 : c.toNat ≠ 91) (h2 : c.toNat ≠ 123) : plainB [c, d] = if sort c = 2 then wordB d else (!(c.toNat == 47 && d.toNat == 42) && (signB c && signB d)) := by
  rw [plain_far (fun e => h1 (by rw [e]; rfl)) (fun e => h2 (by rw [e]; rfl))]
  split
  · rename_i h
    unfold wordsB
    simp only [List.all_cons, List.all_nil, Bool.and_true]
    rw [show wordB c = true by unfold wordB; rw [h]; rfl]; rfl
  · have e1 : (c == 47) = (c.toNat == 47) := by rw [Bool.eq_iff_iff]; simp [← UInt8.toNat_inj]
    have e2 : (d == 42) = (d.toNat == 42) := by rw [Bool.eq_iff_iff]; simp [← UInt8.toNat_inj]
    show (!(c == 47 && d == 42) && signsB [c, d]) = _
    rw [e1, e2]
    unfold signsB
    simp only [List.all_cons, List.all_nil, Bool.and_true]
theorem bytes_91 (c d : UInt8) (h : c.toNat = 91) : plainB [c, d] = (d.toNat == 93) := by
  obtain rfl : c = 91 := eq_nat h
  have h := (two_tab d.toNat d.toNat_lt).1
  rwa [show UInt8.ofNat d.toNat = d by simp] at h
theorem bytes_123 (c d : UInt8) (h : c.toNat = 123) : plainB [c, d] = (d.toNat == 125) := by
  obtain rfl : c = 123 := eq_nat h
  have h := (two_tab d.toNat d.toNat_lt).2
  rwa [show UInt8.ofNat d.toNat = d by simp] at h
set_option maxRecDepth 100000 in
theorem sort_ne (n : Nat) (hn : n < 256) : (sortN n = 2 ∨ sortN n = 5 ∨ sortN n = 6 → n ≠ 91 ∧ n ≠ 123) := by
  have h : ∀ n, n < 256 → (sortN n = 2 ∨ sortN n = 5 ∨ sortN n = 6 → n ≠ 91 ∧ n ≠ 123) := by decide +kernel
  exact h n hn
/-- a literal's bytes in memory -/
def IsB (u : World) (v : Value) (l : List UInt8) : Prop := ∃ g, v = .slice (some ⟨g, 0, none⟩) l.length l.length ∧ u.heap[g]? = some (.cells (l.map cellB).toArray 5 (0, 0))
theorem IsB.below {u u' : World} {v : Value} {l : List UInt8} (h : IsB u v l) (hb : Below u.heap.size u u') : IsB u' v l := by
  obtain ⟨g, e, h⟩ := h
  exact ⟨g, e, (hb.block g (Array.getElem?_eq_some_iff.1 h).1).trans h⟩
theorem IsB.run {u : World} {v : Value} {l : List UInt8} (h : IsB u v l) : (convert 32 9 v).run Tryd.prog u = .ok (.string ⟨l.toArray⟩) u := by
  obtain ⟨g, rfl, h⟩ := h
  exact run_convert_bytes_back (P := Tryd.prog) u 32 9 5 ⟨g, 0, none⟩ l.length l Tryd.underlying32 Tryd.underlying5 Tryd.underlying9 (fun j hj => by rw [Addr.add_lit, cell_of_row u g _ _ _ _ h, Nat.zero_add]; simp [hj, cellB])
set_option maxRecDepth 100000 in
set_option maxHeartbeats 4000000 in
theorem law_bytes (y z : Int) (hy0 : 0 ≤ y) (hy1 : y ≤ 255) (hz0 : 0 ≤ z) (hz1 : z ≤ 255) (w : World) (ht : Tab w) : Calls Tryd.prog 8 #[.int .u8 y, .int .u8 z] w (Says true w) := by
  obtain ⟨c, rfl⟩ : ∃ c : UInt8, y = c.toNat := ⟨UInt8.ofNat y.toNat, by simp; omega⟩
  obtain ⟨d, rfl⟩ : ∃ d : UInt8, z = d.toNat := ⟨UInt8.ofNat z.toNat, by simp; omega⟩
  have HT := Lib.hid ht
  clear ht hy0 hy1 hz0 hz1
  go_enter Tryd.func8, Tryd.ntmps8
  go_wp2_with (first
    | (go_at_call 9; refine (go_alive _ HT.out).mono ?_; rintro e1 w1 ⟨rfl, hb1⟩; have BEL := Lib.hid hb1; clear hb1)
    | (go_at_call 10; refine (go_Sort _ _).mono ?_; rintro e1 w1 ⟨rfl, rfl⟩))
  refine wp_region_rest (by kernel_rfl) ?_
  have BEL1 := Lib.hid (BEL.out.drew)
  clear BEL
  generalize w1.drew = W0 at *
  refine rest_ops 0 8 93 (fun j v u => match j with | 0 => v = .int .u8 c.toNat | 1 => IsB u v [c] | 2 => v = .string ⟨#[c]⟩ | 3 => v = .bool (plainB [c]) | 4 => v = .int .u8 c.toNat | 5 => v = .int .u8 d.toNat | 6 => IsB u v [c, d] | 7 => v = .string ⟨#[c, d]⟩ | _ => True) (fun _ _ => none) (by kernel_rfl) (by kernel_rfl) rfl (.inr (by kernel_rfl)) ?hS ?hop ?_
  case hS =>
    intro j v u u' hkj hjn h hb
    match j, hkj, hjn, h with
    | 0, _, _, h => exact h
    | 1, _, _, h => exact h.below hb
    | 2, _, _, h => exact h
    | 3, _, _, h => exact h
    | 4, _, _, h => exact h
    | 5, _, _, h => exact h
    | 6, _, _, h => exact h.below hb
    | 7, _, _, h => exact h
    | q + 8, _, hq, _ => exact absurd hq (by omega)
  case hop =>
    refine ⟨fun v u hu hs Q' hQ => ?_, fun v u hu hs Q' hQ => ?_, fun v u hu hs Q' hQ => ?_, fun v u hu hs Q' hQ => ?_, fun v u hu hs Q' hQ => ?_, fun v u hu hs Q' hQ => ?_, fun v u hu hs Q' hQ => ?_, fun v u hu hs Q' hQ => ?_, trivial⟩
    · simp only [putAll, dstOf]
      go_wp2
      exact ⟨rfl, Below.refl _ _, rfl, fun _ h => nomatch h⟩
    · simp only [putAll, dstOf]
      have s_0 : v 0 = .int .u8 c.toNat := hs 0 (by kernel_rfl) (by decide) (by decide)
      go_wp2
      exact ⟨rfl, box_b _ _, ⟨_, rfl, heap_alloc_new _ _⟩, fun _ h => nomatch h⟩
    · simp only [putAll, dstOf]
      have s_1 : IsB u (v 1) [c] := hs 1 (by kernel_rfl) (by decide) (by decide)
      have hrun := s_1.run; go_wp2
      exact ⟨rfl, Below.refl _ _, rfl, fun _ h => nomatch h⟩
    · simp only [putAll, dstOf]
      have s_2 : v 2 = .string ⟨#[c]⟩ := hs 2 (by kernel_rfl) (by decide) (by decide)
      go_wp2_with (go_at_call 12; refine (go_Plain ⟨#[c]⟩ (by show 1 ≤ maxLen; unfold maxLen; omega) _).mono ?_; rintro e w3 ⟨rfl, hb3⟩)
      exact ⟨rfl, hb3, rfl, fun _ h => nomatch h⟩
    · simp only [putAll, dstOf]
      go_wp2
      exact ⟨rfl, Below.refl _ _, rfl, fun _ h => nomatch h⟩
    · simp only [putAll, dstOf]
      go_wp2
      exact ⟨rfl, Below.refl _ _, rfl, fun _ h => nomatch h⟩
    · simp only [putAll, dstOf]
      have s_4 : v 4 = .int .u8 c.toNat := hs 4 (by kernel_rfl) (by decide) (by decide)
      have s_5 : v 5 = .int .u8 d.toNat := hs 5 (by kernel_rfl) (by decide) (by decide)
      go_wp2
      exact ⟨rfl, box_b _ _, ⟨_, rfl, heap_alloc_new _ _⟩, fun _ h => nomatch h⟩
    · simp only [putAll, dstOf]
      have s_6 : IsB u (v 6) [c, d] := hs 6 (by kernel_rfl) (by decide) (by decide)
      have hrun := s_6.run; go_wp2
      exact ⟨rfl, Below.refl _ _, rfl, fun _ h => nomatch h⟩
  intro v u hu hs hap
  have s_0 : v 0 = .int .u8 c.toNat := hs 0 (by decide) (by decide)
  have s_1 : IsB u (v 1) [c] := hs 1 (by decide) (by decide)
  have s_2 : v 2 = .string ⟨#[c]⟩ := hs 2 (by decide) (by decide)
  have s_3 : v 3 = .bool (plainB [c]) := hs 3 (by decide) (by decide)
  have s_4 : v 4 = .int .u8 c.toNat := hs 4 (by decide) (by decide)
  have s_5 : v 5 = .int .u8 d.toNat := hs 5 (by decide) (by decide)
  have s_6 : IsB u (v 6) [c, d] := hs 6 (by decide) (by decide)
  have s_7 : v 7 = .string ⟨#[c, d]⟩ := hs 7 (by decide) (by decide)
  simp only [putAll, dstOf]
  have BEL2 := Lib.hid (BEL1.out.trans (hu.mono BEL1.out.size))
  clear hs hap hu BEL1
  refine rest_lineL 8 11 [_, _, _] rfl (by kernel_rfl) (by decide) (by decide) (by kernel_rfl) ?_
  go_wp2_with (go_at_call 12; refine (go_Plain ⟨#[c, d]⟩ (by show 2 ≤ maxLen; unfold maxLen; omega) _).mono ?_; rintro e w3 ⟨rfl, hb3⟩)
  have BEL3 := Lib.hid (BEL2.out.trans (hb3.mono BEL2.out.size))
  clear hb3 BEL2 s_0 s_1 s_2 s_4 s_5 s_6 s_7
  refine then_rest (rest_end (by decide) ?_)
  try clear s_3
  generalize v 1 = va
  generalize v 6 = vb
  clear v
  have hc8 := sort_hi c
  have hd8 := sort_hi d
  have hcn := c.toNat_lt
  have hne := sort_ne c.toNat hcn
  have hsc : sortN c.toNat = sort c := rfl
  rw [hsc] at hne
  clear hsc
  by_cases k2 : sort c = 2
  · obtain ⟨h91, h123⟩ := hne (.inl k2)
    have hone : plainB [c] = true := by rw [bytes_one, k2]; rfl
    have htwo : plainB [c, d] = wordB d := by rw [bytes_far c d h91 h123, if_pos k2]
    by_cases l2 : sort d = 2
    · have H1 : plainB [c] = true := hone
      have H2 : plainB [c, d] = true := htwo.trans (by unfold wordB; rw [l2]; rfl)
      have f0 : ((sort c : Int) == 2) = true := by simp; omega
      have f1 : ((sort d : Int) == 2) = true := by simp; omega
      rw [H1, H2]
      clear H1 H2 hne hc8 hd8 hcn
      go_wp2
      go_ret
      exact ⟨rfl, BEL3.out⟩
    by_cases l3 : sort d = 3
    · have H1 : plainB [c] = true := hone
      have H2 : plainB [c, d] = true := htwo.trans (by unfold wordB; rw [l3]; rfl)
      have f0 : ((sort c : Int) == 2) = true := by simp; omega
      have f1 : ((sort d : Int) == 2) = false := by simp; omega
      have f2 : ((sort d : Int) == 3) = true := by simp; omega
      rw [H1, H2]
      clear H1 H2 hne hc8 hd8 hcn
      go_wp2
      go_ret
      exact ⟨rfl, BEL3.out⟩
    by_cases l4 : sort d = 4
    · have H1 : plainB [c] = true := hone
      have H2 : plainB [c, d] = true := htwo.trans (by unfold wordB; rw [l4]; rfl)
      have f0 : ((sort c : Int) == 2) = true := by simp; omega
      have f1 : ((sort d : Int) == 2) = false := by simp; omega
      have f2 : ((sort d : Int) == 3) = false := by simp; omega
      have f3 : ((sort d : Int) == 4) = true := by simp; omega
      rw [H1, H2]
      clear H1 H2 hne hc8 hd8 hcn
      go_wp2
      go_ret
      exact ⟨rfl, BEL3.out⟩
    have H1 : plainB [c] = true := hone
    have H2 : plainB [c, d] = false := htwo.trans (by unfold wordB; simp [l2, l3, l4])
    have f0 : ((sort c : Int) == 2) = true := by simp; omega
    have f1 : ((sort d : Int) == 2) = false := by simp; omega
    have f2 : ((sort d : Int) == 3) = false := by simp; omega
    have f3 : ((sort d : Int) == 4) = false := by simp; omega
    have f4 : ((sort c : Int) == 5) = false := by simp; omega
    have f5 : ((c.toNat : Int) == 91) = false := by simp; omega
    have f6 : ((c.toNat : Int) == 123) = false := by simp; omega
    rw [H1, H2]
    clear H1 H2 hne hc8 hd8 hcn
    go_wp2
    go_ret
    exact ⟨rfl, BEL3.out⟩
  by_cases k5 : sort c = 5
  · obtain ⟨h91, h123⟩ := hne (.inr (.inl k5))
    have hsg : signB c = true := by unfold signB; rw [k5]; rfl
    have htwo : plainB [c, d] = (!(c.toNat == 47 && d.toNat == 42) && signB d) := by rw [bytes_far c d h91 h123, if_neg k2, hsg, Bool.true_and]
    by_cases l5 : sort d = 5
    · have hsd : signB d = true := by unfold signB; rw [l5]; rfl
      by_cases n47 : c.toNat = 47
      · have hone : plainB [c] = true := by rw [bytes_one, k5, n47]; rfl
        by_cases m42 : d.toNat = 42
        · have H1 : plainB [c] = true := hone
          have H2 : plainB [c, d] = false := htwo.trans (by rw [n47, m42]; rfl)
          have f0 : ((sort c : Int) == 2) = false := by simp; omega
          have f1 : ((sort c : Int) == 5) = true := by simp; omega
          have f2 : ((sort d : Int) == 5) = true := by simp; omega
          have f3 : ((c.toNat : Int) == 47) = true := by simp; omega
          have f4 : ((d.toNat : Int) == 42) = true := by simp; omega
          have f5 : ((c.toNat : Int) == 91) = false := by simp; omega
          have f6 : ((c.toNat : Int) == 123) = false := by simp; omega
          have f7 : ((c.toNat : Int) != 46) = true := by simp; omega
          rw [H1, H2]
          clear H1 H2 hne hc8 hd8 hcn
          go_wp2
          go_ret
          exact ⟨rfl, BEL3.out⟩
        have H1 : plainB [c] = true := hone
        have H2 : plainB [c, d] = true := htwo.trans (by rw [hsd]; simp [m42])
        have f0 : ((sort c : Int) == 2) = false := by simp; omega
        have f1 : ((sort c : Int) == 5) = true := by simp; omega
        have f2 : ((sort d : Int) == 5) = true := by simp; omega
        have f3 : ((c.toNat : Int) == 47) = true := by simp; omega
        have f4 : ((d.toNat : Int) == 42) = false := by simp; omega
        have f5 : ((c.toNat : Int) != 46) = true := by simp; omega
        rw [H1, H2]
        clear H1 H2 hne hc8 hd8 hcn
        go_wp2
        go_ret
        exact ⟨rfl, BEL3.out⟩
      have htw : plainB [c, d] = true := htwo.trans (by rw [hsd]; simp [n47])
      by_cases n46 : c.toNat = 46
      · have H1 : plainB [c] = false := by rw [bytes_one, k5, n46]; rfl
        have H2 : plainB [c, d] = true := htw
        have f0 : ((sort c : Int) == 2) = false := by simp; omega
        have f1 : ((sort c : Int) == 5) = true := by simp; omega
        have f2 : ((sort d : Int) == 5) = true := by simp; omega
        have f3 : ((c.toNat : Int) == 47) = false := by simp; omega
        have f4 : ((c.toNat : Int) != 46) = false := by simp; omega
        have f5 : ((sort c : Int) == 6) = false := by simp; omega
        rw [H1, H2]
        clear H1 H2 hne hc8 hd8 hcn
        go_wp2
        go_ret
        exact ⟨rfl, BEL3.out⟩
      have H1 : plainB [c] = true := by rw [bytes_one, k5]; simp [n46]
      have H2 : plainB [c, d] = true := htw
      have f0 : ((sort c : Int) == 2) = false := by simp; omega
      have f1 : ((sort c : Int) == 5) = true := by simp; omega
      have f2 : ((sort d : Int) == 5) = true := by simp; omega
      have f3 : ((c.toNat : Int) == 47) = false := by simp; omega
      have f4 : ((c.toNat : Int) != 46) = true := by simp; omega
      rw [H1, H2]
      clear H1 H2 hne hc8 hd8 hcn
      go_wp2
      go_ret
      exact ⟨rfl, BEL3.out⟩
    have hsd : signB d = false := by unfold signB; simpa using l5
    have htw : plainB [c, d] = false := htwo.trans (by rw [hsd]; simp)
    by_cases n46 : c.toNat = 46
    · have H1 : plainB [c] = false := by rw [bytes_one, k5, n46]; rfl
      have H2 : plainB [c, d] = false := htw
      have f0 : ((sort c : Int) == 2) = false := by simp; omega
      have f1 : ((sort c : Int) == 5) = true := by simp; omega
      have f2 : ((sort d : Int) == 5) = false := by simp; omega
      have f3 : ((c.toNat : Int) == 91) = false := by simp; omega
      have f4 : ((c.toNat : Int) == 123) = false := by simp; omega
      have f5 : ((c.toNat : Int) != 46) = false := by simp; omega
      have f6 : ((sort c : Int) == 6) = false := by simp; omega
      rw [H1, H2]
      clear H1 H2 hne hc8 hd8 hcn
      go_wp2
      go_ret
      exact ⟨rfl, BEL3.out⟩
    have H1 : plainB [c] = true := by rw [bytes_one, k5]; simp [n46]
    have H2 : plainB [c, d] = false := htw
    have f0 : ((sort c : Int) == 2) = false := by simp; omega
    have f1 : ((sort c : Int) == 5) = true := by simp; omega
    have f2 : ((sort d : Int) == 5) = false := by simp; omega
    have f3 : ((c.toNat : Int) == 91) = false := by simp; omega
    have f4 : ((c.toNat : Int) == 123) = false := by simp; omega
    have f5 : ((c.toNat : Int) != 46) = true := by simp; omega
    rw [H1, H2]
    clear H1 H2 hne hc8 hd8 hcn
    go_wp2
    go_ret
    exact ⟨rfl, BEL3.out⟩
  have hsg : signB c = false := by unfold signB; simpa using k5
  by_cases k6 : sort c = 6
  · obtain ⟨h91, h123⟩ := hne (.inr (.inr k6))
    have H1 : plainB [c] = true := by rw [bytes_one, k6]; rfl
    have H2 : plainB [c, d] = false := by rw [bytes_far c d h91 h123, if_neg k2, hsg]; simp
    have f0 : ((sort c : Int) == 2) = false := by simp; omega
    have f1 : ((sort c : Int) == 5) = false := by simp; omega
    have f2 : ((c.toNat : Int) == 91) = false := by simp; omega
    have f3 : ((c.toNat : Int) == 123) = false := by simp; omega
    have f4 : ((sort c : Int) == 6) = true := by simp; omega
    rw [H1, H2]
    clear H1 H2 hne hc8 hd8 hcn
    go_wp2
    go_ret
    exact ⟨rfl, BEL3.out⟩
  have hone : plainB [c] = false := by rw [bytes_one]; simp [k2, k5, k6]
  by_cases h91 : c.toNat = 91
  · by_cases m93 : d.toNat = 93
    · have H1 : plainB [c] = false := hone
      have H2 : plainB [c, d] = true := by rw [bytes_91 c d h91, m93]; rfl
      have f0 : ((sort c : Int) == 2) = false := by simp; omega
      have f1 : ((sort c : Int) == 5) = false := by simp; omega
      have f2 : ((c.toNat : Int) == 91) = true := by simp; omega
      have f3 : ((d.toNat : Int) == 93) = true := by simp; omega
      have f4 : ((sort c : Int) == 6) = false := by simp; omega
      rw [H1, H2]
      clear H1 H2 hne hc8 hd8 hcn
      go_wp2
      go_ret
      exact ⟨rfl, BEL3.out⟩
    have H1 : plainB [c] = false := hone
    have H2 : plainB [c, d] = false := by rw [bytes_91 c d h91]; simpa using m93
    have f0 : ((sort c : Int) == 2) = false := by simp; omega
    have f1 : ((sort c : Int) == 5) = false := by simp; omega
    have f2 : ((c.toNat : Int) == 91) = true := by simp; omega
    have f3 : ((d.toNat : Int) == 93) = false := by simp; omega
    have f4 : ((c.toNat : Int) == 123) = false := by simp; omega
    have f5 : ((sort c : Int) == 6) = false := by simp; omega
    rw [H1, H2]
    clear H1 H2 hne hc8 hd8 hcn
    go_wp2
    go_ret
    exact ⟨rfl, BEL3.out⟩
  by_cases h123 : c.toNat = 123
  · by_cases m125 : d.toNat = 125
    · have H1 : plainB [c] = false := hone
      have H2 : plainB [c, d] = true := by rw [bytes_123 c d h123, m125]; rfl
      have f0 : ((sort c : Int) == 2) = false := by simp; omega
      have f1 : ((sort c : Int) == 5) = false := by simp; omega
      have f2 : ((c.toNat : Int) == 91) = false := by simp; omega
      have f3 : ((c.toNat : Int) == 123) = true := by simp; omega
      have f4 : ((d.toNat : Int) == 125) = true := by simp; omega
      have f5 : ((sort c : Int) == 6) = false := by simp; omega
      rw [H1, H2]
      clear H1 H2 hne hc8 hd8 hcn
      go_wp2
      go_ret
      exact ⟨rfl, BEL3.out⟩
    have H1 : plainB [c] = false := hone
    have H2 : plainB [c, d] = false := by rw [bytes_123 c d h123]; simpa using m125
    have f0 : ((sort c : Int) == 2) = false := by simp; omega
    have f1 : ((sort c : Int) == 5) = false := by simp; omega
    have f2 : ((c.toNat : Int) == 91) = false := by simp; omega
    have f3 : ((c.toNat : Int) == 123) = true := by simp; omega
    have f4 : ((d.toNat : Int) == 125) = false := by simp; omega
    have f5 : ((sort c : Int) == 6) = false := by simp; omega
    rw [H1, H2]
    clear H1 H2 hne hc8 hd8 hcn
    go_wp2
    go_ret
    exact ⟨rfl, BEL3.out⟩
  have H1 : plainB [c] = false := hone
  have H2 : plainB [c, d] = false := by rw [bytes_far c d h91 h123, if_neg k2, hsg]; simp
  have f0 : ((sort c : Int) == 2) = false := by simp; omega
  have f1 : ((sort c : Int) == 5) = false := by simp; omega
  have f2 : ((c.toNat : Int) == 91) = false := by simp; omega
  have f3 : ((c.toNat : Int) == 123) = false := by simp; omega
  have f4 : ((sort c : Int) == 6) = false := by simp; omega
  rw [H1, H2]
  clear H1 H2 hne hc8 hd8 hcn
  go_wp2
  go_ret
  exact ⟨rfl, BEL3.out⟩
end Go.Proofs.YtnjgjclhecedeaaDoor.Nam
