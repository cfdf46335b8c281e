
/-
  Layer 16: listOf, walked.
-/
import Derived.Test.YtkhchmgdaolojaaDoorTxa
import Derived.Test.YtkhchmgdaolojaaDoorTml
import Derived.Test.YtkhchmgdaolojaaDoorByt
import Derived.Test.YtkhchmgdaolojaaDoorRls
import Derived.OwnWalk
import Derived.Laws.Strings2
namespace Go.Proofs.YtkhchmgdaolojaaDoor.Tms
open Go Go.RowKit Go.Proofs.YtkhchmgdaolojaaDoor.Reg Go.Proofs.YtkhchmgdaolojaaDoor.Rws Go.Proofs.YtkhchmgdaolojaaDoor.Maps Go.Instr
set_option linter.unusedVariables false
set_option linter.unusedSimpArgs false

def nilT : Tm := atomT (⟨#[91, 93]⟩ : ByteArray)
/-- a byte, as a code or as a character -/
def charT (codes : Bool) (c : UInt8) : Tm := if codes then intT c.toNat else atomT ⟨#[c]⟩
def charsT (codes : Bool) (l : List UInt8) : List Tm := l.map (charT codes)
theorem chars_snoc (codes : Bool) (s : ByteArray) (i : Nat) (h : i < s.size) : charsT codes (s.data.toList.take (i + 1)) = charsT codes (s.data.toList.take i) ++ [charT codes s[i]] := by
  unfold charsT
  rw [List.take_succ_eq_append_getElem (by simpa using h), List.map_append]
  rfl
theorem chars_len (codes : Bool) (s : ByteArray) (i : Nat) (h : i ≤ s.size) : (charsT codes (s.data.toList.take i)).length = i := by
  unfold charsT; rw [List.length_map, List.length_take]; have : s.data.toList.length = s.size := rfl; omega
theorem extract_one (s : ByteArray) (i : Nat) (h : i < s.size) : s.extract i (i + 1) = ⟨#[s[i]]⟩ := by
  apply ByteArray.ext
  apply Array.ext'
  simp only [ByteArray.data_extract, Array.toList_extract, List.extract_eq_take_drop, Nat.add_sub_cancel_left]
  rw [List.drop_eq_getElem_cons (by simpa using h), List.take_succ_cons, List.take_zero]
  rfl
theorem chars_size (codes : Bool) (l : List UInt8) : sizeL (charsT codes l) = l.length := by
  induction l with
  | nil => rfl
  | cons c l ih =>
    have h1 : (charT codes c).size = 1 := by unfold charT; cases codes <;> rfl
    simp only [charsT, List.map_cons, sizeL, List.length_cons] at ih ⊢
    omega
def LoRel (codes : Bool) (s : ByteArray) (w : World) (v5 v12 : Value) (wr : World) : Prop := ∃ (i : Nat), i ≤ s.size ∧ v12 = .int .i64 i ∧ OwnSl wr (w.heap.size + 1) (fun _ => False) v5 (charsT codes (s.data.toList.take i)) ∧
  wr.heap[w.heap.size]? = some (.cells #[.int .i64 0, .int .i64 0, .string ⟨#[]⟩, .slice none 0 0] 28 (0, 0)) ∧ Below w.heap.size w wr
set_option maxRecDepth 100000 in
set_option maxHeartbeats 4000000 in
theorem tx_listOf (s : ByteArray) (codes : Bool) (w : World) (hs : s.size ≤ 100000) :
    Calls Tryd.prog 41 #[.string s, .bool codes] w (MakesTm (fun _ => False) (listT (charsT codes s.data.toList) nilT) w) := by
  obtain ⟨i0, hti, hz0, hz1, hz2⟩ := info_parts info_term
  have hrw := heap_alloc_new w (.cells #[.int .i64 0, .int .i64 0, .string ⟨#[]⟩, .slice none 0 0] 28 (0, 0))
  have hal := (Below.refl w.heap.size w).alloc (Nat.le_refl _) (.cells #[.int .i64 0, .int .i64 0, .string ⟨#[]⟩, .slice none 0 0] 28 (0, 0))
  have hsz : (w.alloc (.cells #[.int .i64 0, .int .i64 0, .string ⟨#[]⟩, .slice none 0 0] 28 (0, 0))).heap.size = w.heap.size + 1 := by simp
  have HR := Lib.hid hrw
  have HA := Lib.hid hal
  have HZ := Lib.hid hsz
  clear hrw hal hsz
  go_enter Tryd.func41, Tryd.ntmps41
  go_upto_region 1 with fail
  generalize w.alloc (.cells #[.int .i64 0, .int .i64 0, .string ⟨#[]⟩, .slice none 0 0] 28 (0, 0)) = W1 at *
  go_wp2_with (with_reducible show wpList _ _ _ (⟨some 9, _, _, _, _, _⟩ :: _) _ _
               go_must (
                 refine wpList_make_own W1 rfl (.const (.int .i64 0)) (.tmp 8) 24 rfl (w.heap.size + 1) 28 i0 _ 4 Tryd.underlying24 hti hz0 hz1 .i64 .i64 _ s.size rfl rfl rfl (by rw [hz2]; omega) (by unfold maxLen; omega) (by have := HZ.out; omega) ?_
                 intro w2 ho2 hg2
                 have hb2 : Below W1.heap.size W1 w2 := (Below.refl _ _).grown hg2 (Nat.le_refl _) (fun k e => by cases e)
                 have HST := Lib.hid (show LoRel codes s w (.slice (some ⟨W1.heap.size, 0, none⟩) 0 s.size) (.int .i64 ((0 : Nat) : Int)) w2 from ⟨0, by omega, rfl, ⟨[], ho2, trivial⟩, row_on HR.out hb2, HA.out.trans (hb2.mono HA.out.size)⟩)
                 clear ho2 hg2 hb2))
  clear HR HA HZ
  go_loopw [5, 12] (fun v5 v12 wr => LoRel codes s w v5 v12 wr) (fun _ v12 _ => s.size - (intOf v12).toNat)
  case atStart => exact HST.out
  case round =>
    clear HST
    obtain ⟨i, hi, rfl, ho, hr, hb⟩ := hrel
    obtain ⟨q, k, e1⟩ := ho.form
    rw [chars_len codes s i hi] at e1
    subst e1
    have HO := Lib.hid ho
    have HR := Lib.hid hr
    have HB := Lib.hid hb
    clear ho hr hb
    have hlt := (Array.getElem?_eq_some_iff.1 HR.out).1
    by_cases hin : i < s.size
    · have b1 : decide ((i : Int) < (s.size : Int)) = true := by simp; omega
      have b2 : decide (i < s.size) = true := by simpa using hin
      have HSN := Lib.hid (chars_snoc codes s i hin)
      have hsl : ∀ W : World, (Instr.slice 9 (.string s) (some (.int .i64 (i : Int))) (some (.int .i64 ((i : Int) + 1))) none).run Tryd.prog W = .ok (.string ⟨#[s[i]]⟩) W := fun W => by
        rw [run_slice_string (P := Tryd.prog) (w := W) 9 s .i64 .i64 (i : Int) ((i : Int) + 1) Tryd.underlying9 (by omega) (by omega) (by omega)]
        congr 2
        rw [show ((i : Int) + 1).toNat = i + 1 by omega, show (i : Int).toNat = i by omega]
        exact extract_one s i hin
      have hc : wrap64 (s[i].toNat : Int) = (s[i].toNat : Int) := Num.wrap_in (by have := s[i].toNat_lt; unfold Num.Fit; omega)
      cases codes
      · go_wp2_with fail
        refine (tx_atom _ _).mono ?_
        rintro e3 w3 ⟨rfl, hb3⟩
        have HO3 := Lib.hid (HO.out.below hb3)
        have HR3 := Lib.hid (row_on HR.out hb3)
        have HB3 := Lib.hid (HB.out.trans (hb3.mono HB.out.size))
        have hlt3 := hb3.size
        clear hb3 hsl
        go_wp2_with (with_reducible show wpList _ _ _ (⟨some 32, _, _, _, _, _⟩ :: _) _ _
                     go_must (
                       refine wpList_push_term rfl (.tmp 24) (.tmp 31) rfl (w.heap.size + 1) (fun _ => False) (.slice q i k) _ _ _ _ _ (atomT ⟨#[s[i]]⟩) _ rfl HO3.out rfl rfl (atom_is _ _ _) (by rw [chars_len _ s i hi]; omega) (by omega) ?_
                       intro va' w9 ho9 hb9 hg9 hv9
                       rw [show charsT false (s.data.toList.take i) ++ [atomT ⟨#[s[i]]⟩] = charsT false (s.data.toList.take (i + 1)) from HSN.out.symm] at ho9
                       have HRL := Lib.hid (show LoRel false s w va' (.int .i64 ((i + 1 : Nat) : Int)) w9 from ⟨i + 1, by omega, rfl, ho9, (hb9.block _ (by omega)).trans HR3.out, HB3.out.trans (hb9.mono (by omega))⟩)
                       clear ho9 hb9 hg9 hv9))
        go_roundw
        case measure => simp [intOf]; omega
        case rel => exact HRL.out
      · go_wp2_with fail
        rw [hc]
        refine (tx_whole _ _).mono ?_
        rintro e3 w3 ⟨rfl, hb3⟩
        have HO3 := Lib.hid (HO.out.below hb3)
        have HR3 := Lib.hid (row_on HR.out hb3)
        have HB3 := Lib.hid (HB.out.trans (hb3.mono HB.out.size))
        have hlt3 := hb3.size
        clear hb3 hsl
        go_wp2_with (with_reducible show wpList _ _ _ (⟨some 23, _, _, _, _, _⟩ :: _) _ _
                     go_must (
                       refine wpList_push_term rfl (.tmp 16) (.tmp 22) rfl (w.heap.size + 1) (fun _ => False) (.slice q i k) _ _ _ _ _ (intT s[i].toNat) _ rfl HO3.out rfl rfl (int_is _ _ _) (by rw [chars_len _ s i hi]; omega) (by omega) ?_
                       intro va' w9 ho9 hb9 hg9 hv9
                       rw [show charsT true (s.data.toList.take i) ++ [intT s[i].toNat] = charsT true (s.data.toList.take (i + 1)) from HSN.out.symm] at ho9
                       have HRL := Lib.hid (show LoRel true s w va' (.int .i64 ((i + 1 : Nat) : Int)) w9 from ⟨i + 1, by omega, rfl, ho9, (hb9.block _ (by omega)).trans HR3.out, HB3.out.trans (hb9.mono (by omega))⟩)
                       clear ho9 hb9 hg9 hv9))
        go_roundw
        case measure => simp [intOf]; omega
        case rel => exact HRL.out
    · have b1 : decide ((i : Int) < (s.size : Int)) = false := by simp; omega
      have b2 : decide (i < s.size) = false := by simpa using hin
      obtain rfl : i = s.size := by omega
      have hsl := HO.out.reads
      rw [show s.data.toList.take s.size = s.data.toList from List.take_of_length_le (Nat.le_refl _)] at hsl
      have HSL := Lib.hid hsl
      have hcl := chars_size codes s.data.toList
      have HCL := Lib.hid (show sizeL (charsT codes s.data.toList) + nilT.size ≤ 1000000000 by rw [hcl]; have : s.data.toList.length = s.size := rfl; simp only [nilT, atomT, Tm.size, sizeL]; omega)
      clear hsl hcl HO
      go_wp2_with fail
      refine (tx_atom _ _).mono ?_
      rintro e3 w3 ⟨rfl, hb3⟩
      have HB3 := Lib.hid hb3
      clear hb3
      go_wp2_with fail
      refine (tm_listN (charsT codes s.data.toList) nilT _ _ _ AnyB _ HCL.out (HSL.out.below HB3.out) (atom_is _ _ _)).mono ?_
      rintro e4 w4 ⟨v4, rfl, hi4, hb4⟩
      obtain ⟨q4, k4, rfl⟩ := hi4.form
      have hb34 := HB3.out.trans (hb4.mono HB3.out.size)
      have HR4 := Lib.hid (row_on HR.out hb34)
      have HB4 := Lib.hid (HB.out.trans (hb34.mono HB.out.size))
      have HI4 := Lib.hid (hi4.imp (P' := fun b => w.heap.size + 1 ≤ b) (fun b hb => by have := HB3.out.size; omega) fun _ _ _ => rfl)
      clear hi4 hb4 hb34 HB3 HSL HR HB
      generalize hU : listT (charsT codes s.data.toList) nilT = U at *
      have HU := Lib.hid hU
      clear hU
      go_wp2_with (refine wpList_store_row rfl 28 (.tmp 4) (.tmp 36) rfl w.heap.size #[.int .i64 U.k, .int .i64 U.n, .string U.s, .slice q4 U.args.length k4] rfl rfl _ _ HR4.out size_term rfl (one4 _ _ _ _ _ _) ?_)
      have hz := setRow_heap w4 w.heap.size _ (#[.int .i64 U.k, .int .i64 U.n, .string U.s, .slice q4 U.args.length k4] : Array Value) _ _ HR4.out
      exact bodyPost_ret (v := .agg #[.int .i64 U.k, .int .i64 U.n, .string U.s, .slice q4 U.args.length k4]) (results_cell_row Tryd.results41 _ _ w.heap.size _ _ _ _ rfl hz Tryd.underlying28 rfl (by kernel_rfl)) rfl ⟨_, rfl, by rw [HU.out]; exact HI4.out.imp (P := fun b => w.heap.size + 1 ≤ b) (P' := fun b => False ∨ w.heap.size ≤ b) (fun b hb => Or.inr (by have hb' : w.heap.size + 1 ≤ b := hb; omega)) (fun b hb _ => setRow_other w4 w.heap.size b _ (by have hb' : w.heap.size + 1 ≤ b := hb; omega)), below_row HB4.out (Nat.le_refl _)⟩
end Go.Proofs.YtkhchmgdaolojaaDoor.Tms
