
/-
  Layer 2: bytes told by their numbers are read (plain), and the law NameEscapes, walked over the program.
-/
import Derived.Test.YtnjgjclhecedeaaDoorNaL
namespace Go.Proofs.YtnjgjclhecedeaaDoor.Nam
open Go Go.RowKit Go.Proofs.YtnjgjclhecedeaaDoor.Reg Go.Proofs.YtnjgjclhecedeaaDoor.Byt
set_option linter.unusedVariables false
set_option linter.unusedSimpArgs false

def hx (c : UInt8) : List UInt8 := [92, 120, hexd (c.toNat / 16), hexd (c.toNat % 16), 92]
def hy (c : UInt8) : List UInt8 := [92, hexd (c.toNat / 64), hexd (c.toNat / 8 % 8), hexd (c.toNat % 8), 92]
theorem oct_facts : ∀ n, n < 8 → knownL (hexd n) = none ∧ hexd n ≠ 120 ∧ octB (hexd n) = true := by decide
theorem read_x (q : UInt8) (hq : (92 : UInt8) ≠ q) (c : UInt8) (rest out : List UInt8) (n F : Nat) (hF : (hx c ++ rest).length < F) : getL q F (hx c ++ rest) out n = getL q F rest (out ++ [c]) (n + 5) := by
  have hn := c.toNat_lt
  obtain ⟨d1, d2⟩ := dig_hexd (c.toNat / 16) (by omega)
  obtain ⟨e1, e2⟩ := dig_hexd (c.toNat % 16) (by omega)
  have he : escL (120 :: hexd (c.toNat / 16) :: hexd (c.toNat % 16) :: 92 :: rest) = some (c.toNat, 4) := by
    rw [escL_x (by decide) rfl, codeL_step d2 (by rw [d1]; omega) (by rw [d1]; omega), d1, codeL_step e2 (by rw [e1]; omega) (by rw [e1]; omega), e1]
    simp [codeL]; omega
  have h := get_esc (q := q) (c := 92) (out := out) (n := n) (F := F) hq rfl (by decide) he hF
  refine h.trans ?_
  rw [show UInt8.ofNat c.toNat = c by simp]; rfl
theorem read_y (q : UInt8) (hq : (92 : UInt8) ≠ q) (c : UInt8) (rest out : List UInt8) (n F : Nat) (hF : (hy c ++ rest).length < F) : getL q F (hy c ++ rest) out n = getL q F rest (out ++ [c]) (n + 5) := by
  have hn := c.toNat_lt
  obtain ⟨d1, d2⟩ := dig_hexd (c.toNat / 64) (by omega)
  obtain ⟨e1, e2⟩ := dig_hexd (c.toNat / 8 % 8) (by omega)
  obtain ⟨f1, f2⟩ := dig_hexd (c.toNat % 8) (by omega)
  obtain ⟨k1, k2, k3⟩ := oct_facts (c.toNat / 64) (by omega)
  obtain ⟨-, -, l3⟩ := oct_facts (c.toNat / 8 % 8) (by omega)
  have he : escL (hexd (c.toNat / 64) :: hexd (c.toNat / 8 % 8) :: hexd (c.toNat % 8) :: 92 :: rest) = some (c.toNat, 4) := by
    rw [escL_oct k1 k2 (by rintro ⟨-, h⟩; simp only [zeroB, l3] at h; cases h) k3, codeL_step d2 (by rw [d1]; omega) (by rw [d1]; omega), d1, codeL_step e2 (by rw [e1]; omega) (by rw [e1]; omega), e1, codeL_step f2 (by rw [f1]; omega) (by rw [f1]; omega), f1]
    simp [codeL]; omega
  have h10 : hexd (c.toNat / 64) ≠ 10 := by
    have : ∀ n, n < 4 → hexd n ≠ 10 := by decide
    exact this _ (by omega)
  have h := get_esc (q := q) (c := 92) (out := out) (n := n) (F := F) hq rfl h10 he hF
  refine h.trans ?_
  rw [show UInt8.ofNat c.toNat = c by simp]; rfl
theorem read_all (q : UInt8) (g : UInt8 → List UInt8) (hg : ∀ c rest out n F, (g c ++ rest).length < F → getL q F (g c ++ rest) out n = getL q F rest (out ++ [c]) (n + 5)) (M : List UInt8) (hM : M = [] ∨ ∃ d l', M = d :: l' ∧ d ≠ q) (F : Nat) :
    ∀ (L out : List UInt8) (n : Nat), (L.flatMap g ++ q :: M).length < F → getL q F (L.flatMap g ++ q :: M) out n = some (out ++ L, n + 5 * L.length + 1)
  | [], out, n, hF => by rw [List.flatMap_nil, List.nil_append, get_end rfl hM (by omega)]; simp
  | c :: L, out, n, hF => by
    have e : (c :: L).flatMap g ++ q :: M = g c ++ (L.flatMap g ++ q :: M) := by simp
    rw [e] at hF ⊢
    rw [hg c _ out n F hF, read_all q g hg M hM F L _ _ (by rw [List.length_append] at hF; omega)]
    simp only [List.length_cons, List.append_assoc, List.cons_append, List.nil_append, Option.some.injEq, Prod.mk.injEq, true_and]
    omega
theorem flat5 (g : UInt8 → List UInt8) (hg : ∀ c, (g c).length = 5) (L : List UInt8) : (L.flatMap g).length = 5 * L.length := by
  induction L with
  | nil => rfl
  | cons c L ih => rw [List.flatMap_cons, List.length_append, hg, ih, List.length_cons]; omega
structure EsRel (s : ByteArray) (w1 : World) (x y i : Value) (wr : World) : Prop where
  bel : Below w1.heap.size w1 wr
  at_ : ∃ (k : Nat) (X Y : ByteArray), k ≤ s.size ∧ i = .int .i64 k ∧ x = .string X ∧ y = .string Y ∧ X.size = 5 * k ∧ Y.size = 5 * k ∧ Hid (X.data.toList = (s.data.toList.take k).flatMap hx) ∧ Hid (Y.data.toList = (s.data.toList.take k).flatMap hy)
abbrev hexS : ByteArray := ⟨#[48, 49, 50, 51, 52, 53, 54, 55, 56, 57, 97, 98, 99, 100, 101, 102]⟩
theorem hex_at : ∀ i, i < 16 → (hexS.extract i (i + 1)).data.toList = [hexd i] := by decide
theorem and15 : ∀ n : Nat, n < 256 → bits .and .u8 (n : Int) 15 = ((n % 16 : Nat) : Int) := by decide +kernel
theorem and7 : ∀ n : Nat, n < 256 → bits .and .u8 (n : Int) 7 = ((n % 8 : Nat) : Int) := by decide +kernel
theorem slice_hex (i : Nat) (h : i < 16) (w : World) : (Instr.slice 9 (.string hexS) (some (.int .u8 (i : Int))) (some (.int .u8 ((i : Int) + 1))) none).run Tryd.prog w = .ok (.string ⟨#[hexd i]⟩) w := by
  rcases (by omega : i = 0 ∨ i = 1 ∨ i = 2 ∨ i = 3 ∨ i = 4 ∨ i = 5 ∨ i = 6 ∨ i = 7 ∨ i = 8 ∨ i = 9 ∨ i = 10 ∨ i = 11 ∨ i = 12 ∨ i = 13 ∨ i = 14 ∨ i = 15) with rfl | rfl | rfl | rfl | rfl | rfl | rfl | rfl | rfl | rfl | rfl | rfl | rfl | rfl | rfl | rfl
  all_goals kernel_rfl
set_option maxRecDepth 100000 in
set_option maxHeartbeats 4000000 in
theorem law_escapes (s : ByteArray) (w : World) (ht : Tab w) : Calls Tryd.prog 7 #[.string s] w (Says true w) := by
  have HT := Lib.hid ht
  clear ht
  by_cases l1 : 500 < s.size
  · go_enter Tryd.func7, Tryd.ntmps7
    go_wp2_with (go_at_call 9; refine (go_alive _ HT.out).mono ?_; rintro e1 w1 ⟨rfl, hb1⟩; have BEL := Lib.hid hb1; clear hb1)
    go_ret
    exact ⟨rfl, BEL.out⟩
  have l2 : s.size ≤ 500 := by omega
  clear l1
  go_enter Tryd.func7, Tryd.ntmps7
  go_wp2_with (go_at_call 9; refine (go_alive _ HT.out).mono ?_; rintro e1 w1 ⟨rfl, hb1⟩; have BEL := Lib.hid hb1; clear hb1)
  have HST : Hid (EsRel s w1 (.string ⟨#[]⟩) (.string ⟨#[]⟩) (.int .i64 0) w1) := Lib.hid ⟨Below.refl _ _, 0, ⟨#[]⟩, ⟨#[]⟩, Nat.zero_le _, rfl, rfl, rfl, rfl, rfl, Lib.hid rfl, Lib.hid rfl⟩
  go_loopw [3, 4, 20] (fun x y i wr => EsRel s w1 x y i wr) (fun _ _ i _ => s.size - (intOf i).toNat)
  case atStart => exact HST.out
  case round =>
    obtain ⟨hbel, k, X, Y, hk, rfl, rfl, rfl, hX, hY, HX, HY⟩ := hrel
    have HB := Lib.hid hbel
    clear HST hbel
    by_cases hlt : k < s.size
    · have hn := s[k].toNat_lt
      have HSN := Lib.hid (take_snoc s k hlt)
      obtain ⟨n, hnn⟩ : ∃ n, n = s[k].toNat := ⟨_, rfl⟩
      have HNN := Lib.hid hnn
      have b15 := and15 n (by omega)
      have b7 := and7 n (by omega)
      have b87 := and7 (n / 8) (by omega)
      have e16 : (n : Int) / 16 = ((n / 16 : Nat) : Int) := by omega
      have e64 : (n : Int) / 64 = ((n / 64 : Nat) : Int) := by omega
      have e8 : (n : Int) / 8 = ((n / 8 : Nat) : Int) := by omega
      obtain ⟨a1, ha1⟩ : ∃ a1, a1 = n / 16 := ⟨_, rfl⟩
      obtain ⟨a2, ha2⟩ : ∃ a2, a2 = n % 16 := ⟨_, rfl⟩
      obtain ⟨o1, ho1⟩ : ∃ o1, o1 = n / 64 := ⟨_, rfl⟩
      obtain ⟨o8, ho8⟩ : ∃ o8, o8 = n / 8 := ⟨_, rfl⟩
      obtain ⟨o2, ho2⟩ : ∃ o2, o2 = o8 % 8 := ⟨_, rfl⟩
      obtain ⟨o3, ho3⟩ : ∃ o3, o3 = n % 8 := ⟨_, rfl⟩
      have hn' : n < 256 := by omega
      have i1 : a1 < 16 := by omega
      have i2 : a2 < 16 := by omega
      have i3 : o1 < 16 := by omega
      have i4 : o2 < 16 := by omega
      have i5 : o3 < 16 := by omega
      rw [← ha2] at b15
      rw [← ho3] at b7
      rw [← ho8] at b87 e8
      rw [← ho2] at b87
      rw [← ha1] at e16
      rw [← ho1] at e64
      have s1 := slice_hex a1 i1
      have s2 := slice_hex a2 i2
      have s3 := slice_hex o1 i3
      have s4 := slice_hex o2 i4
      have s5 := slice_hex o3 i5
      have HQX : Hid (hx s[k] = [92, 120, hexd a1, hexd a2, 92]) := Lib.hid (by unfold hx; rw [ha1, ha2, hnn])
      have HQY : Hid (hy s[k] = [92, hexd o1, hexd o2, hexd o3, 92]) := Lib.hid (by unfold hy; rw [ho1, ho2, ho3, ho8, hnn])
      clear ha1 ha2 ho1 ho2 ho3 ho8
      rw [← hnn] at hn
      go_wp2
      rw [← hnn]
      clear hnn
      refine wp_region_rest (by kernel_rfl) ?_
      have HB0 := Lib.hid (HB.out.drew)
      clear HB
      generalize wr.drew = W0 at *
      refine rest_chain 0 16 [(false, [0, 1, 2, 3, 4, 5, 6, 7, 8, 9, 10, 11, 12, 13, 14, 15])] [(false, [_, _, _, _, _, _, _, _, _, _, _, _, _, _, _, _])] rfl (by kernel_rfl) (by kernel_rfl) rfl (by kernel_rfl) (by kernel_rfl) (.inr (by kernel_rfl)) ?_
      refine chain_soft ?_
      intro E hE
      go_wp2
      refine chain_nil ?_
      refine rest_lineL 16 18 [_, _] rfl (by kernel_rfl) (by decide) (by decide) (by kernel_rfl) ?_
      go_wp2
      refine then_rest (rest_end (by decide) ?_)
      go_wp2
      refine wp_region_rest (by kernel_rfl) ?_
      have HB1 := Lib.hid (HB0.out.drew)
      clear HB0
      generalize W0.drew = W1 at *
      refine rest_chain 0 25 [(false, [0, 1, 2, 3, 4, 5, 6, 7, 8, 9, 10, 11, 12, 13, 14, 15, 16, 17, 18, 19, 20, 21, 22, 23, 24])] [(false, [_, _, _, _, _, _, _, _, _, _, _, _, _, _, _, _, _, _, _, _, _, _, _, _, _])] rfl (by kernel_rfl) (by kernel_rfl) rfl (by kernel_rfl) (by kernel_rfl) (.inr (by kernel_rfl)) ?_
      refine chain_soft ?_
      intro E hE
      go_wp2
      refine chain_nil ?_
      refine rest_lineL 25 27 [_, _] rfl (by kernel_rfl) (by decide) (by decide) (by kernel_rfl) ?_
      go_wp2
      refine then_rest (rest_end (by decide) ?_)
      go_wp2
      have dX : (X ++ ((⟨#[92, 120]⟩ : ByteArray) ++ ⟨#[hexd a1]⟩ ++ ⟨#[hexd a2]⟩ ++ ⟨#[92]⟩)).data.toList = X.data.toList ++ [92, 120, hexd a1, hexd a2, 92] := by simp [ByteArray.data_append]
      have dY : (Y ++ ((⟨#[92]⟩ : ByteArray) ++ ⟨#[hexd o1]⟩ ++ ⟨#[hexd o2]⟩ ++ ⟨#[hexd o3]⟩ ++ ⟨#[92]⟩)).data.toList = Y.data.toList ++ [92, hexd o1, hexd o2, hexd o3, 92] := by simp [ByteArray.data_append]
      have hln : ∀ P : ByteArray, P.size = P.data.toList.length := fun P => by simp
      refine ⟨⟨HB1.out, k + 1, _, _, by omega, by go_num, rfl, rfl, ?_, ?_, Lib.hid ?_, Lib.hid ?_⟩, by simp [intOf]; omega⟩
      · rw [hln, dX, List.length_append, ← hln, hX]; simp only [List.length_cons, List.length_nil]; omega
      · rw [hln, dY, List.length_append, ← hln, hY]; simp only [List.length_cons, List.length_nil]; omega
      · rw [dX, HX.out, HSN.out, List.flatMap_append, ← HQX.out]; simp
      · rw [dY, HY.out, HSN.out, List.flatMap_append, ← HQY.out]; simp
    · obtain rfl : k = s.size := by omega
      have hT : s.data.toList.take s.size = s.data.toList := List.take_of_length_le (by simp)
      have HX2 := Lib.hid (HX.out.trans (by rw [hT]))
      have HY2 := Lib.hid (HY.out.trans (by rw [hT]))
      have hsl : s.data.toList.length = s.size := by simp
      have dX : (X ++ (⟨#[39]⟩ : ByteArray)).data.toList = s.data.toList.flatMap hx ++ 39 :: [] := by rw [ByteArray.data_append, Array.toList_append, HX2.out]
      have dY : (Y ++ (⟨#[34, 32, 109, 111, 114, 101]⟩ : ByteArray)).data.toList = s.data.toList.flatMap hy ++ 34 :: [32, 109, 111, 114, 101] := by rw [ByteArray.data_append, Array.toList_append, HY2.out]
      have hln : ∀ P : ByteArray, P.size = P.data.toList.length := fun P => by simp
      have zX : (X ++ (⟨#[39]⟩ : ByteArray)).size = X.size + 1 := by rw [ByteArray.size_append]; rfl
      have zY : (Y ++ (⟨#[34, 32, 109, 111, 114, 101]⟩ : ByteArray)).size = Y.size + 6 := by rw [ByteArray.size_append]; rfl
      have HG1 := Lib.hid (show getL 39 ((X ++ (⟨#[39]⟩ : ByteArray)).size + 1) (X ++ (⟨#[39]⟩ : ByteArray)).data.toList [] 0 = some (s.data.toList, X.size + 1) by
        have h1 := hln (X ++ (⟨#[39]⟩ : ByteArray))
        rw [dX] at h1 ⊢
        rw [read_all 39 hx (fun c rest out n F h => read_x 39 (by decide) c rest out n F h) [] (.inl rfl) _ _ _ _ (by omega), hX, hsl]
        simp)
      have HG2 := Lib.hid (show getL 34 ((Y ++ (⟨#[34, 32, 109, 111, 114, 101]⟩ : ByteArray)).size + 1) (Y ++ (⟨#[34, 32, 109, 111, 114, 101]⟩ : ByteArray)).data.toList [] 0 = some (s.data.toList, Y.size + 1) by
        have h1 := hln (Y ++ (⟨#[34, 32, 109, 111, 114, 101]⟩ : ByteArray))
        rw [dY] at h1 ⊢
        rw [read_all 34 hy (fun c rest out n F h => read_y 34 (by decide) c rest out n F h) [32, 109, 111, 114, 101] (.inr ⟨_, _, rfl, by decide⟩) _ _ _ _ (by omega), hY, hsl]
        simp)
      have HZX := Lib.hid (show (X ++ (⟨#[39]⟩ : ByteArray)).size ≤ 100000 by omega)
      have HZY := Lib.hid (show (Y ++ (⟨#[34, 32, 109, 111, 114, 101]⟩ : ByteArray)).size ≤ 100000 by omega)
      have hX3 : X.size ≤ 2500 := by omega
      have hY3 : Y.size ≤ 2500 := by omega
      clear hlt hT dX dY zX zY hln hX hY hsl
      go_wp2_with fail
      refine (go_Get (X ++ (⟨#[39]⟩ : ByteArray)) 39 HZX.out _).mono ?_
      rintro e1 w2 ⟨h1, -, hb1⟩
      obtain rfl := h1 _ _ HG1.out
      have HB2 := Lib.hid (HB.out.trans (hb1.mono HB.out.size))
      clear HB hb1 h1
      go_wp2_with fail
      refine (go_Get (Y ++ (⟨#[34, 32, 109, 111, 114, 101]⟩ : ByteArray)) 34 HZY.out _).mono ?_
      rintro e2 w3 ⟨h1, -, hb1⟩
      obtain rfl := h1 _ _ HG2.out
      have HB := Lib.hid (HB2.out.trans (hb1.mono HB2.out.size))
      clear HB2 hb1 h1
      go_wp2
      go_ret
      exact ⟨rfl, BEL.out.trans (HB.out.mono BEL.out.size)⟩
end Go.Proofs.YtnjgjclhecedeaaDoor.Nam
