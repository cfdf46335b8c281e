
/-
  Layer 16: Does; Do of each name.
  Layer 16: Does; Do of each name.
  Layer 16: Does; Do of each name.
-/
import Derived.Test.YtkhchmgdaolojaaDoorTxk
import Derived.Test.YtkhchmgdaolojaaDoorMsd
namespace Go.Proofs.YtkhchmgdaolojaaDoor.Tms
open Go Go.RowKit Go.Proofs.YtkhchmgdaolojaaDoor.Reg Go.Proofs.YtkhchmgdaolojaaDoor.Rws Go.Proofs.YtkhchmgdaolojaaDoor.Maps Go.Instr
set_option linter.unusedVariables false
set_option linter.unusedSimpArgs false

theorem run_lookup_val {P : Program} (w : World) (t kt et : TypeId) (d : TypeDesc) (h : P.underlying t = some (.map kt et)) (hk : P.underlying kt = some d) (hp : plainKey d = true) (b : Nat) (key : Value) (es : Array MapEntry) (c : Nat)
    (hb : w.heap[b]? = some (.map es c)) (r : Nat × Value) (hf : findNow d key es.toList 0 = some (some r)) :
    (Instr.lookup t (.map (some b)) key false).run P w = .ok r.2 w := by
  unfold Instr.lookup
  simp only [Sem.run_bind, run_underlying h, Result.andThen_ok]
  simp [getObj, Sem.run, hb, run_checkKey w _ 9999 kt d hk hp key, run_findKey w kt d hk key es.toList (some r) hf]
theorem wpList_lookup_val {P : Program} {w : World} {ops : Array Oper} {rest : List Oper} {o : Oper} {a : Act} {Q : Exit → Act → World → Prop} (hgd : o.guard = none) (t : TypeId) (m k : Operand) (ho : o.op = .lookup t m k false) (kt et : TypeId) (d : TypeDesc)
    (h : P.underlying t = some (.map kt et)) (hk : P.underlying kt = some d) (hp : plainKey d = true) (b : Nat) (es : Array MapEntry) (c : Nat) (hm : a.eval m = .map (some b)) (hb : w.heap[b]? = some (.map es c)) (r : Nat × Value)
    (hf : findNow d (a.eval k) es.toList 0 = some (some r))
    (hK : wpList P ops Q rest (a.put o.dst r.2) w) : wpList P ops Q (o :: rest) a w := by
  refine wpList_plain hgd fun K hK' => ?_
  have hrun := run_lookup_val (P := P) w t kt et d h hk hp b (a.eval k) es c hb r hf
  unfold Oper.wp
  simp [execOp, ho, hm, hrun, Result.andThen]
  exact hK' _ _ hK
/-- whether there is such a builtin -/
def doesT (s : ByteArray) (n : Nat) : Bool := if s = ⟨#[97, 116, 111, 109, 95, 108, 101, 110, 103, 116, 104]⟩ ∨ s = ⟨#[97, 116, 111, 109, 95, 99, 104, 97, 114, 115]⟩ ∨ s = ⟨#[97, 116, 111, 109, 95, 99, 111, 100, 101, 115]⟩ ∨ s = ⟨#[99, 104, 97, 114, 95, 99, 111, 100, 101]⟩ ∨ s = ⟨#[110, 117, 109, 98, 101, 114, 95, 99, 111, 100, 101, 115]⟩ then (n : Int) == 2 else if s = ⟨#[97, 116, 111, 109, 95, 99, 111, 110, 99, 97, 116]⟩ then (n : Int) == 3 else false
theorem tx_Does (s : ByteArray) (n : Nat) (w : World) : Calls Tryd.prog 14 #[.string s, .int .i64 n] w (fun e w' => e = .returned (.bool (doesT s n)) ∧ w = w') := by
  by_cases k0 : s = ⟨#[97, 116, 111, 109, 95, 108, 101, 110, 103, 116, 104]⟩
  · have hd : doesT s n = ((n : Int) == 2) := by unfold doesT; rw [if_pos (by simp [k0])]
    rw [hd]
    clear hd 
    subst k0
    go_enter Tryd.func14, Tryd.ntmps14
    go_wp2
    go_ret
    exact ⟨rfl, rfl⟩
  by_cases k1 : s = ⟨#[97, 116, 111, 109, 95, 99, 104, 97, 114, 115]⟩
  · have hd : doesT s n = ((n : Int) == 2) := by unfold doesT; rw [if_pos (by simp [k1])]
    rw [hd]
    clear hd k0
    subst k1
    go_enter Tryd.func14, Tryd.ntmps14
    go_wp2
    go_ret
    exact ⟨rfl, rfl⟩
  by_cases k2 : s = ⟨#[97, 116, 111, 109, 95, 99, 111, 100, 101, 115]⟩
  · have hd : doesT s n = ((n : Int) == 2) := by unfold doesT; rw [if_pos (by simp [k2])]
    rw [hd]
    clear hd k0 k1
    subst k2
    go_enter Tryd.func14, Tryd.ntmps14
    go_wp2
    go_ret
    exact ⟨rfl, rfl⟩
  by_cases k3 : s = ⟨#[99, 104, 97, 114, 95, 99, 111, 100, 101]⟩
  · have hd : doesT s n = ((n : Int) == 2) := by unfold doesT; rw [if_pos (by simp [k3])]
    rw [hd]
    clear hd k0 k1 k2
    subst k3
    go_enter Tryd.func14, Tryd.ntmps14
    go_wp2
    go_ret
    exact ⟨rfl, rfl⟩
  by_cases k4 : s = ⟨#[110, 117, 109, 98, 101, 114, 95, 99, 111, 100, 101, 115]⟩
  · have hd : doesT s n = ((n : Int) == 2) := by unfold doesT; rw [if_pos (by simp [k4])]
    rw [hd]
    clear hd k0 k1 k2 k3
    subst k4
    go_enter Tryd.func14, Tryd.ntmps14
    go_wp2
    go_ret
    exact ⟨rfl, rfl⟩
  have hn : ¬ (s = ⟨#[97, 116, 111, 109, 95, 108, 101, 110, 103, 116, 104]⟩ ∨ s = ⟨#[97, 116, 111, 109, 95, 99, 104, 97, 114, 115]⟩ ∨ s = ⟨#[97, 116, 111, 109, 95, 99, 111, 100, 101, 115]⟩ ∨ s = ⟨#[99, 104, 97, 114, 95, 99, 111, 100, 101]⟩ ∨ s = ⟨#[110, 117, 109, 98, 101, 114, 95, 99, 111, 100, 101, 115]⟩) := by simp only [not_or]; exact ⟨k0, k1, k2, k3, k4⟩
  by_cases k5 : s = ⟨#[97, 116, 111, 109, 95, 99, 111, 110, 99, 97, 116]⟩
  · have hd : doesT s n = ((n : Int) == 3) := by unfold doesT; rw [if_neg hn, if_pos k5]
    rw [hd]
    clear hd hn k0 k1 k2 k3 k4
    subst k5
    go_enter Tryd.func14, Tryd.ntmps14
    go_wp2
    go_ret
    exact ⟨rfl, rfl⟩
  · have hd : doesT s n = false := by unfold doesT; rw [if_neg hn, if_neg k5]
    have c5 : (s.toList == [97, 116, 111, 109, 95, 99, 111, 110, 99, 97, 116]) = false := Num.bytes_no (l := [97, 116, 111, 109, 95, 99, 111, 110, 99, 97, 116]) k5
    rw [hd]
    clear hd hn k5
    have c0 : (s.toList == [97, 116, 111, 109, 95, 108, 101, 110, 103, 116, 104]) = false := Num.bytes_no (l := [97, 116, 111, 109, 95, 108, 101, 110, 103, 116, 104]) k0
    have c1 : (s.toList == [97, 116, 111, 109, 95, 99, 104, 97, 114, 115]) = false := Num.bytes_no (l := [97, 116, 111, 109, 95, 99, 104, 97, 114, 115]) k1
    have c2 : (s.toList == [97, 116, 111, 109, 95, 99, 111, 100, 101, 115]) = false := Num.bytes_no (l := [97, 116, 111, 109, 95, 99, 111, 100, 101, 115]) k2
    have c3 : (s.toList == [99, 104, 97, 114, 95, 99, 111, 100, 101]) = false := Num.bytes_no (l := [99, 104, 97, 114, 95, 99, 111, 100, 101]) k3
    have c4 : (s.toList == [110, 117, 109, 98, 101, 114, 95, 99, 111, 100, 101, 115]) = false := Num.bytes_no (l := [110, 117, 109, 98, 101, 114, 95, 99, 111, 100, 101, 115]) k4
    clear k0 k1 k2 k3 k4
    go_enter Tryd.func14, Tryd.ntmps14
    go_wp2
    go_ret
    exact ⟨rfl, rfl⟩
def DoRel (n : Nat) (w : World) (vi : Value) (wr : World) : Prop := ∃ i : Nat, i ≤ n ∧ vi = .int .i64 i ∧ Below w.heap.size w wr
/-- Do's answer where there is such a builtin, and its terms are whole -/
def DoP (d : Dd) (P : Nat → Prop) (w : World) (e : Ending) (w' : World) : Prop := ∃ v, e = .returned (.tuple #[v, .int .i64 0]) ∧ IsDd w' (fun b => P b ∧ b < w.heap.size ∨ w.heap.size + 1 ≤ b) v d ∧ Below w.heap.size w w'
/-- Do's answer otherwise -/
def DoX (e : Int) (w : World) (en : Ending) (w' : World) : Prop := en = .returned (.tuple #[.agg #[.bool false, .slice none 0 0, .slice none 0 0, .int .i64 0, .int .i64 0, .string ⟨#[]⟩, .slice none 0 0], .int .i64 e]) ∧ Below w.heap.size w w'
def meth (cv : Value) : Array MapEntry := #[⟨.string ⟨#[97, 116, 111, 109, 95, 108, 101, 110, 103, 116, 104]⟩, .func (.func 24) #[cv] #[], 0⟩, ⟨.string ⟨#[97, 116, 111, 109, 95, 99, 104, 97, 114, 115]⟩, .func (.func 25) #[cv] #[], 1⟩, ⟨.string ⟨#[97, 116, 111, 109, 95, 99, 111, 100, 101, 115]⟩, .func (.func 26) #[cv] #[], 2⟩, ⟨.string ⟨#[99, 104, 97, 114, 95, 99, 111, 100, 101]⟩, .func (.func 27) #[cv] #[], 3⟩, ⟨.string ⟨#[110, 117, 109, 98, 101, 114, 95, 99, 111, 100, 101, 115]⟩, .func (.func 28) #[cv] #[], 4⟩, ⟨.string ⟨#[97, 116, 111, 109, 95, 99, 111, 110, 99, 97, 116]⟩, .func (.func 29) #[cv] #[], 5⟩]
end Go.Proofs.YtkhchmgdaolojaaDoor.Tms
namespace Go.Proofs.YtkhchmgdaolojaaDoor.Tms
open Go Go.RowKit Go.Proofs.YtkhchmgdaolojaaDoor.Reg Go.Proofs.YtkhchmgdaolojaaDoor.Rws Go.Proofs.YtkhchmgdaolojaaDoor.Maps Go.Instr
set_option linter.unusedVariables false
set_option linter.unusedSimpArgs false

set_option maxRecDepth 100000 in
set_option maxHeartbeats 4000000 in
theorem tx_Do_length (ts : List Tm) (x y : Tm) (P : Nat → Prop) (w : World) (a : Option Addr) (c : Nat) (h : IsSl w P (.slice a 2 c) ts) (he : ts = [x, y]) (hM : ∀ t ∈ ts, t.size ≤ 1000000 ∧ checkT t = 0) (hfx : Num.Fit x.n) (hfy : Num.Fit y.n) (hs1 : x.s.size ≤ 100000) (hs2 : y.s.size ≤ 100000) (ht : Num.Tab w) :
    Calls Tryd.prog 11 #[.string ⟨#[97, 116, 111, 109, 95, 108, 101, 110, 103, 116, 104]⟩, .slice a 2 c] w (DoP (lengthD x y) P w) := by
  have hl : ts.length = 2 := by rw [he]; rfl
  have HE := Lib.hid he
  have HDO := Lib.hid (show doesT ⟨#[97, 116, 111, 109, 95, 108, 101, 110, 103, 116, 104]⟩ 2 = true by decide)
  have HFT := Lib.hid (show Num.Fit x.n ∧ Num.Fit y.n from ⟨hfx, hfy⟩)
  clear he hfx hfy
  have HTB := Lib.hid ht
  have HL := Lib.hid hl
  have H := Lib.hid h.lt2
  have HM := Lib.hid hM
  clear h hl hM ht
  have hb0 : Below w.heap.size w (w.alloc (.cells #[.bool false, .slice none 0 0, .slice none 0 0, .int .i64 0, .int .i64 0, .string ⟨#[]⟩, .slice none 0 0] 35 (0, 0))) := (Below.refl _ _).alloc (Nat.le_refl _) _
  have HB0 := Lib.hid hb0
  have HR0 := Lib.hid (heap_alloc_new w (.cells #[.bool false, .slice none 0 0, .slice none 0 0, .int .i64 0, .int .i64 0, .string ⟨#[]⟩, .slice none 0 0] 35 (0, 0)))
  have hs0 : w.heap.size < (w.alloc (.cells #[.bool false, .slice none 0 0, .slice none 0 0, .int .i64 0, .int .i64 0, .string ⟨#[]⟩, .slice none 0 0] 35 (0, 0))).heap.size := by simp
  clear hb0
  go_enter Tryd.func11, Tryd.ntmps11
  go_wp2_with fail
  refine (tx_Does _ _ _).mono ?_
  rintro e1 w1 ⟨rfl, rfl⟩
  rw [HDO.out]
  generalize w.alloc (.cells #[.bool false, .slice none 0 0, .slice none 0 0, .int .i64 0, .int .i64 0, .string ⟨#[]⟩, .slice none 0 0] 35 (0, 0)) = W0 at *
  have HST := Lib.hid (show DoRel 2 W0 (.int .i64 ((0 : Nat) : Int)) W0 from ⟨0, by omega, rfl, Below.refl _ _⟩)
  go_wp2
  go_loopw [19] (fun v19 wr => DoRel 2 W0 v19 wr) (fun v19 _ => 2 - (intOf v19).toNat)
  case atStart => exact HST.out
  case round =>
    clear HST
    obtain ⟨i, hi, rfl, hbl⟩ := hrel
    have HBL := Lib.hid hbl
    clear hbl
    by_cases hin : i < 2
    · have hin' : i < ts.length := by rw [HL.out]; exact hin
      obtain ⟨T, hT⟩ : ∃ T, T = ts[i] := ⟨_, rfl⟩
      have hTs : T.size ≤ 1000000 ∧ checkT T = 0 := by rw [hT]; exact HM.out _ (List.getElem_mem _)
      have hT9 : T.size ≤ 1000000000 := by omega
      obtain ⟨b, off, e1, -, hat⟩ := (H.out.below ((HB0.out.trans (HBL.out.mono HB0.out.size)))).at i hin'
      rw [← hT] at hat
      subst e1
      have b1 : decide ((i : Int) < 2) = true := by simp; omega
      obtain ⟨qa, qc, y0, y1, y2, y3, hit, hbw⟩ := hat.read
      have hba : Below wr.heap.size wr (wr.alloc (.cells #[.int .i64 T.k, .int .i64 T.n, .string T.s, .slice qa T.args.length qc] 28 (0, 0))) := (Below.refl _ _).alloc (Nat.le_refl _) _
      have HIT := Lib.hid (hit.below hba)
      have HBA := Lib.hid (HBL.out.trans (hba.mono HBL.out.size))
      have HTC := Lib.hid hTs.2
      clear hat hit hba HBL hT hTs
      go_wp2_with fail
      refine (tm_Check T _ _ _ hT9 HIT.out).mono ?_
      rintro e9 w9 ⟨rfl, hb9⟩
      rw [HTC.out]
      have HRL := Lib.hid (show DoRel 2 W0 (.int .i64 ((i + 1 : Nat) : Int)) w9 from ⟨i + 1, by omega, rfl, HBA.out.trans (hb9.mono HBA.out.size)⟩)
      clear hb9 HBA HIT HTC
      go_wp2
      go_roundw
      case measure => simp [intOf]; omega
      case rel => exact HRL.out
    · have b1 : decide ((i : Int) < 2) = false := by simp; omega
      have hbc : Below wr.heap.size wr (wr.alloc (.cells #[.slice a 2 c] 59 (0, 0))) := (Below.refl _ _).alloc (Nat.le_refl _) _
      have HRC := Lib.hid (heap_alloc_new wr (.cells #[.slice a 2 c] 59 (0, 0)))
      have hb1 := (HB0.out.trans (HBL.out.mono HB0.out.size)).trans (hbc.mono (HB0.out.trans (HBL.out.mono HB0.out.size)).size)
      have hr1 := row_on (row_on HR0.out HBL.out) hbc
      have HB1 := Lib.hid hb1
      have HR1 := Lib.hid hr1
      have hs1 : w.heap.size + 1 ≤ (wr.alloc (.cells #[.slice a 2 c] 59 (0, 0))).heap.size := by have := HBL.out.size; have := hbc.size; omega
      have x0 := cell_of_row _ _ 0 _ _ _ HRC.out
      have HLT := Lib.hid (Array.getElem?_eq_some_iff.1 HRC.out).1
      clear hb1 hr1 HB0 HR0 HBL hs0 hbc
      go_wp2_with (first
        | (with_reducible show wpList _ _ _ (⟨some 32, _, _, _, _, _⟩ :: _) _ _
           refine wpList_map_start rfl 61 rfl (wr.alloc (.cells #[.slice a 2 c] 59 (0, 0))) (Below.refl _ _) ?_
           intro mb w1 h1
           clear x0
           have x0 := cell_of_row _ _ 0 _ _ _ ((h1.bel.block _ HLT.out).trans HRC.out)
           have HF := Lib.hid h1
           clear h1)
        | (with_reducible show wpList _ _ _ (⟨none, .insert _ _ _ _, _, _, _, _⟩ :: _) _ _
           refine wpList_map_fill rfl 61 (.tmp 32) _ _ rfl _ _ _ Tryd.underlying61 Tryd.underlying9 rfl (wr.alloc (.cells #[.slice a 2 c] 59 (0, 0))) _ _ _ rfl HF.out (by kernel_rfl) ?_
           intro w1 h1
           clear x0
           have x0 := cell_of_row _ _ 0 _ _ _ ((h1.bel.block _ HLT.out).trans HRC.out)
           replace HF := Lib.hid h1
           clear h1)
        | (with_reducible show wpList _ _ _ (⟨some 48, _, _, _, _, _⟩ :: _) _ _
           go_must (
             have HM1 := Lib.hid (show w1.heap[mb]? = some (.map (meth (.agg #[.slice a 2 c])) 6) from HF.out.at_)
             refine wpList_lookup_val rfl 61 (.tmp 46) (.tmp 47) rfl _ _ _ Tryd.underlying61 Tryd.underlying9 rfl mb _ _ rfl HM1.out (0, .func (.func 24) #[.agg #[.slice a 2 c]] #[]) (by kernel_rfl) ?_
             clear HM1)))
      have HB3 := Lib.hid (HB1.out.trans (HF.out.bel.mono HB1.out.size))
      have HR3 := Lib.hid (row_on HR1.out HF.out.bel)
      have hs3 : w.heap.size + 1 ≤ w1.heap.size := Nat.le_trans hs1 HF.out.bel.size
      have HT3 := Lib.hid (HTB.out.on HB3.out)
      clear HF x0 HLT HRC HB1 HR1 hs1
      have HA := Lib.hid (HE.out ▸ H.out.below HB3.out)
      refine (tx_length x y _ w1 a c HA.out (HM.out x (by rw [HE.out]; simp)).1 (HM.out y (by rw [HE.out]; simp)).1 HFT.out.1 HFT.out.2 hs1 hs2 HT3.out).mono ?_
      rintro e9 w9 ⟨v9, rfl, hd9, hb9⟩
      obtain ⟨cb, u1, u2, u3, n1, k1, n2, k2, n3, k3, cx, cy, cs, rfl⟩ := hd9.cells
      have HD9 := Lib.hid (hd9.imp (P' := fun b => P b ∧ b < w.heap.size ∨ w.heap.size + 1 ≤ b) (fun b hb => by rcases hb with hb | hb; (· exact Or.inl hb.1); (· exact Or.inr (by omega))) (Nat.le_refl _) (fun _ _ _ => rfl))
      have HR9 := Lib.hid (row_on HR3.out hb9)
      have HB9 := Lib.hid (HB3.out.trans (hb9.mono HB3.out.size))
      clear hd9 hb9
      go_wp2_with (with_reducible show wpList _ _ _ (⟨none, .store _ (.tmp 4) _, _, _, _, _⟩ :: _) _ _
                   go_must (refine wpList_store_row rfl 35 (.tmp 4) (.tmp 49) rfl w.heap.size #[.bool cb, .slice u1 n1 k1, .slice u2 n2 k2, .int .i64 cx, .int .i64 cy, .string cs, .slice u3 n3 k3] rfl rfl _ _ HR9.out size_did rfl (by simp [Value.oneCell']) ?_))
      have hz := setRow_heap w9 w.heap.size _ (#[.bool cb, .slice u1 n1 k1, .slice u2 n2 k2, .int .i64 cx, .int .i64 cy, .string cs, .slice u3 n3 k3] : Array Value) _ _ HR9.out
      exact bodyPost_ret (v := .tuple #[.agg #[.bool cb, .slice u1 n1 k1, .slice u2 n2 k2, .int .i64 cx, .int .i64 cy, .string cs, .slice u3 n3 k3], .int .i64 0]) (Push.results_cell_tmp Tryd.results11 _ _ w.heap.size _ #[.bool cb, .slice u1 n1 k1, .slice u2 n2 k2, .int .i64 cx, .int .i64 cy, .string cs, .slice u3 n3 k3] _ _ _ rfl (by simp) hz Tryd.underlying35 rfl (by kernel_rfl)) rfl ⟨_, rfl, HD9.out.imp (fun _ h => h) (by simp) (fun b hb _ => setRow_other w9 w.heap.size b _ (by rcases hb with h | h; (· have := h.2; omega); (· omega))), below_row HB9.out (by omega)⟩
set_option maxRecDepth 100000 in
set_option maxHeartbeats 4000000 in
theorem tx_Do_chars (ts : List Tm) (x y : Tm) (P : Nat → Prop) (w : World) (a : Option Addr) (c : Nat) (h : IsSl w P (.slice a 2 c) ts) (he : ts = [x, y]) (hM : ∀ t ∈ ts, t.size ≤ 1000000 ∧ checkT t = 0) (hfx : Num.Fit x.n) (hfy : Num.Fit y.n) (hs1 : x.s.size ≤ 100000) (hs2 : y.s.size ≤ 100000) (ht : Num.Tab w) :
    Calls Tryd.prog 11 #[.string ⟨#[97, 116, 111, 109, 95, 99, 104, 97, 114, 115]⟩, .slice a 2 c] w (DoP (spellD false x y) P w) := by
  have hl : ts.length = 2 := by rw [he]; rfl
  have HE := Lib.hid he
  have HDO := Lib.hid (show doesT ⟨#[97, 116, 111, 109, 95, 99, 104, 97, 114, 115]⟩ 2 = true by decide)
  have HFT := Lib.hid (show Num.Fit x.n ∧ Num.Fit y.n from ⟨hfx, hfy⟩)
  clear he hfx hfy
  have HTB := Lib.hid ht
  have HL := Lib.hid hl
  have H := Lib.hid h.lt2
  have HM := Lib.hid hM
  clear h hl hM ht
  have hb0 : Below w.heap.size w (w.alloc (.cells #[.bool false, .slice none 0 0, .slice none 0 0, .int .i64 0, .int .i64 0, .string ⟨#[]⟩, .slice none 0 0] 35 (0, 0))) := (Below.refl _ _).alloc (Nat.le_refl _) _
  have HB0 := Lib.hid hb0
  have HR0 := Lib.hid (heap_alloc_new w (.cells #[.bool false, .slice none 0 0, .slice none 0 0, .int .i64 0, .int .i64 0, .string ⟨#[]⟩, .slice none 0 0] 35 (0, 0)))
  have hs0 : w.heap.size < (w.alloc (.cells #[.bool false, .slice none 0 0, .slice none 0 0, .int .i64 0, .int .i64 0, .string ⟨#[]⟩, .slice none 0 0] 35 (0, 0))).heap.size := by simp
  clear hb0
  go_enter Tryd.func11, Tryd.ntmps11
  go_wp2_with fail
  refine (tx_Does _ _ _).mono ?_
  rintro e1 w1 ⟨rfl, rfl⟩
  rw [HDO.out]
  generalize w.alloc (.cells #[.bool false, .slice none 0 0, .slice none 0 0, .int .i64 0, .int .i64 0, .string ⟨#[]⟩, .slice none 0 0] 35 (0, 0)) = W0 at *
  have HST := Lib.hid (show DoRel 2 W0 (.int .i64 ((0 : Nat) : Int)) W0 from ⟨0, by omega, rfl, Below.refl _ _⟩)
  go_wp2
  go_loopw [19] (fun v19 wr => DoRel 2 W0 v19 wr) (fun v19 _ => 2 - (intOf v19).toNat)
  case atStart => exact HST.out
  case round =>
    clear HST
    obtain ⟨i, hi, rfl, hbl⟩ := hrel
    have HBL := Lib.hid hbl
    clear hbl
    by_cases hin : i < 2
    · have hin' : i < ts.length := by rw [HL.out]; exact hin
      obtain ⟨T, hT⟩ : ∃ T, T = ts[i] := ⟨_, rfl⟩
      have hTs : T.size ≤ 1000000 ∧ checkT T = 0 := by rw [hT]; exact HM.out _ (List.getElem_mem _)
      have hT9 : T.size ≤ 1000000000 := by omega
      obtain ⟨b, off, e1, -, hat⟩ := (H.out.below ((HB0.out.trans (HBL.out.mono HB0.out.size)))).at i hin'
      rw [← hT] at hat
      subst e1
      have b1 : decide ((i : Int) < 2) = true := by simp; omega
      obtain ⟨qa, qc, y0, y1, y2, y3, hit, hbw⟩ := hat.read
      have hba : Below wr.heap.size wr (wr.alloc (.cells #[.int .i64 T.k, .int .i64 T.n, .string T.s, .slice qa T.args.length qc] 28 (0, 0))) := (Below.refl _ _).alloc (Nat.le_refl _) _
      have HIT := Lib.hid (hit.below hba)
      have HBA := Lib.hid (HBL.out.trans (hba.mono HBL.out.size))
      have HTC := Lib.hid hTs.2
      clear hat hit hba HBL hT hTs
      go_wp2_with fail
      refine (tm_Check T _ _ _ hT9 HIT.out).mono ?_
      rintro e9 w9 ⟨rfl, hb9⟩
      rw [HTC.out]
      have HRL := Lib.hid (show DoRel 2 W0 (.int .i64 ((i + 1 : Nat) : Int)) w9 from ⟨i + 1, by omega, rfl, HBA.out.trans (hb9.mono HBA.out.size)⟩)
      clear hb9 HBA HIT HTC
      go_wp2
      go_roundw
      case measure => simp [intOf]; omega
      case rel => exact HRL.out
    · have b1 : decide ((i : Int) < 2) = false := by simp; omega
      have hbc : Below wr.heap.size wr (wr.alloc (.cells #[.slice a 2 c] 59 (0, 0))) := (Below.refl _ _).alloc (Nat.le_refl _) _
      have HRC := Lib.hid (heap_alloc_new wr (.cells #[.slice a 2 c] 59 (0, 0)))
      have hb1 := (HB0.out.trans (HBL.out.mono HB0.out.size)).trans (hbc.mono (HB0.out.trans (HBL.out.mono HB0.out.size)).size)
      have hr1 := row_on (row_on HR0.out HBL.out) hbc
      have HB1 := Lib.hid hb1
      have HR1 := Lib.hid hr1
      have hs1 : w.heap.size + 1 ≤ (wr.alloc (.cells #[.slice a 2 c] 59 (0, 0))).heap.size := by have := HBL.out.size; have := hbc.size; omega
      have x0 := cell_of_row _ _ 0 _ _ _ HRC.out
      have HLT := Lib.hid (Array.getElem?_eq_some_iff.1 HRC.out).1
      clear hb1 hr1 HB0 HR0 HBL hs0 hbc
      go_wp2_with (first
        | (with_reducible show wpList _ _ _ (⟨some 32, _, _, _, _, _⟩ :: _) _ _
           refine wpList_map_start rfl 61 rfl (wr.alloc (.cells #[.slice a 2 c] 59 (0, 0))) (Below.refl _ _) ?_
           intro mb w1 h1
           clear x0
           have x0 := cell_of_row _ _ 0 _ _ _ ((h1.bel.block _ HLT.out).trans HRC.out)
           have HF := Lib.hid h1
           clear h1)
        | (with_reducible show wpList _ _ _ (⟨none, .insert _ _ _ _, _, _, _, _⟩ :: _) _ _
           refine wpList_map_fill rfl 61 (.tmp 32) _ _ rfl _ _ _ Tryd.underlying61 Tryd.underlying9 rfl (wr.alloc (.cells #[.slice a 2 c] 59 (0, 0))) _ _ _ rfl HF.out (by kernel_rfl) ?_
           intro w1 h1
           clear x0
           have x0 := cell_of_row _ _ 0 _ _ _ ((h1.bel.block _ HLT.out).trans HRC.out)
           replace HF := Lib.hid h1
           clear h1)
        | (with_reducible show wpList _ _ _ (⟨some 48, _, _, _, _, _⟩ :: _) _ _
           go_must (
             have HM1 := Lib.hid (show w1.heap[mb]? = some (.map (meth (.agg #[.slice a 2 c])) 6) from HF.out.at_)
             refine wpList_lookup_val rfl 61 (.tmp 46) (.tmp 47) rfl _ _ _ Tryd.underlying61 Tryd.underlying9 rfl mb _ _ rfl HM1.out (1, .func (.func 25) #[.agg #[.slice a 2 c]] #[]) (by kernel_rfl) ?_
             clear HM1)))
      have HB3 := Lib.hid (HB1.out.trans (HF.out.bel.mono HB1.out.size))
      have HR3 := Lib.hid (row_on HR1.out HF.out.bel)
      have hs3 : w.heap.size + 1 ≤ w1.heap.size := Nat.le_trans hs1 HF.out.bel.size
      have HT3 := Lib.hid (HTB.out.on HB3.out)
      clear HF x0 HLT HRC HB1 HR1 hs1
      have HA := Lib.hid (HE.out ▸ H.out.below HB3.out)
      refine (tx_chars x y _ w1 a c HA.out (HM.out x (by rw [HE.out]; simp)).1 (HM.out y (by rw [HE.out]; simp)).1 HFT.out.1 HFT.out.2 hs1 hs2 HT3.out).mono ?_
      rintro e9 w9 ⟨v9, rfl, hd9, hb9⟩
      obtain ⟨cb, u1, u2, u3, n1, k1, n2, k2, n3, k3, cx, cy, cs, rfl⟩ := hd9.cells
      have HD9 := Lib.hid (hd9.imp (P' := fun b => P b ∧ b < w.heap.size ∨ w.heap.size + 1 ≤ b) (fun b hb => by rcases hb with hb | hb; (· exact Or.inl hb.1); (· exact Or.inr (by omega))) (Nat.le_refl _) (fun _ _ _ => rfl))
      have HR9 := Lib.hid (row_on HR3.out hb9)
      have HB9 := Lib.hid (HB3.out.trans (hb9.mono HB3.out.size))
      clear hd9 hb9
      go_wp2_with (with_reducible show wpList _ _ _ (⟨none, .store _ (.tmp 4) _, _, _, _, _⟩ :: _) _ _
                   go_must (refine wpList_store_row rfl 35 (.tmp 4) (.tmp 49) rfl w.heap.size #[.bool cb, .slice u1 n1 k1, .slice u2 n2 k2, .int .i64 cx, .int .i64 cy, .string cs, .slice u3 n3 k3] rfl rfl _ _ HR9.out size_did rfl (by simp [Value.oneCell']) ?_))
      have hz := setRow_heap w9 w.heap.size _ (#[.bool cb, .slice u1 n1 k1, .slice u2 n2 k2, .int .i64 cx, .int .i64 cy, .string cs, .slice u3 n3 k3] : Array Value) _ _ HR9.out
      exact bodyPost_ret (v := .tuple #[.agg #[.bool cb, .slice u1 n1 k1, .slice u2 n2 k2, .int .i64 cx, .int .i64 cy, .string cs, .slice u3 n3 k3], .int .i64 0]) (Push.results_cell_tmp Tryd.results11 _ _ w.heap.size _ #[.bool cb, .slice u1 n1 k1, .slice u2 n2 k2, .int .i64 cx, .int .i64 cy, .string cs, .slice u3 n3 k3] _ _ _ rfl (by simp) hz Tryd.underlying35 rfl (by kernel_rfl)) rfl ⟨_, rfl, HD9.out.imp (fun _ h => h) (by simp) (fun b hb _ => setRow_other w9 w.heap.size b _ (by rcases hb with h | h; (· have := h.2; omega); (· omega))), below_row HB9.out (by omega)⟩
set_option maxRecDepth 100000 in
set_option maxHeartbeats 4000000 in
theorem tx_Do_codes (ts : List Tm) (x y : Tm) (P : Nat → Prop) (w : World) (a : Option Addr) (c : Nat) (h : IsSl w P (.slice a 2 c) ts) (he : ts = [x, y]) (hM : ∀ t ∈ ts, t.size ≤ 1000000 ∧ checkT t = 0) (hfx : Num.Fit x.n) (hfy : Num.Fit y.n) (hs1 : x.s.size ≤ 100000) (hs2 : y.s.size ≤ 100000) (ht : Num.Tab w) :
    Calls Tryd.prog 11 #[.string ⟨#[97, 116, 111, 109, 95, 99, 111, 100, 101, 115]⟩, .slice a 2 c] w (DoP (spellD true x y) P w) := by
  have hl : ts.length = 2 := by rw [he]; rfl
  have HE := Lib.hid he
  have HDO := Lib.hid (show doesT ⟨#[97, 116, 111, 109, 95, 99, 111, 100, 101, 115]⟩ 2 = true by decide)
  have HFT := Lib.hid (show Num.Fit x.n ∧ Num.Fit y.n from ⟨hfx, hfy⟩)
  clear he hfx hfy
  have HTB := Lib.hid ht
  have HL := Lib.hid hl
  have H := Lib.hid h.lt2
  have HM := Lib.hid hM
  clear h hl hM ht
  have hb0 : Below w.heap.size w (w.alloc (.cells #[.bool false, .slice none 0 0, .slice none 0 0, .int .i64 0, .int .i64 0, .string ⟨#[]⟩, .slice none 0 0] 35 (0, 0))) := (Below.refl _ _).alloc (Nat.le_refl _) _
  have HB0 := Lib.hid hb0
  have HR0 := Lib.hid (heap_alloc_new w (.cells #[.bool false, .slice none 0 0, .slice none 0 0, .int .i64 0, .int .i64 0, .string ⟨#[]⟩, .slice none 0 0] 35 (0, 0)))
  have hs0 : w.heap.size < (w.alloc (.cells #[.bool false, .slice none 0 0, .slice none 0 0, .int .i64 0, .int .i64 0, .string ⟨#[]⟩, .slice none 0 0] 35 (0, 0))).heap.size := by simp
  clear hb0
  go_enter Tryd.func11, Tryd.ntmps11
  go_wp2_with fail
  refine (tx_Does _ _ _).mono ?_
  rintro e1 w1 ⟨rfl, rfl⟩
  rw [HDO.out]
  generalize w.alloc (.cells #[.bool false, .slice none 0 0, .slice none 0 0, .int .i64 0, .int .i64 0, .string ⟨#[]⟩, .slice none 0 0] 35 (0, 0)) = W0 at *
  have HST := Lib.hid (show DoRel 2 W0 (.int .i64 ((0 : Nat) : Int)) W0 from ⟨0, by omega, rfl, Below.refl _ _⟩)
  go_wp2
  go_loopw [19] (fun v19 wr => DoRel 2 W0 v19 wr) (fun v19 _ => 2 - (intOf v19).toNat)
  case atStart => exact HST.out
  case round =>
    clear HST
    obtain ⟨i, hi, rfl, hbl⟩ := hrel
    have HBL := Lib.hid hbl
    clear hbl
    by_cases hin : i < 2
    · have hin' : i < ts.length := by rw [HL.out]; exact hin
      obtain ⟨T, hT⟩ : ∃ T, T = ts[i] := ⟨_, rfl⟩
      have hTs : T.size ≤ 1000000 ∧ checkT T = 0 := by rw [hT]; exact HM.out _ (List.getElem_mem _)
      have hT9 : T.size ≤ 1000000000 := by omega
      obtain ⟨b, off, e1, -, hat⟩ := (H.out.below ((HB0.out.trans (HBL.out.mono HB0.out.size)))).at i hin'
      rw [← hT] at hat
      subst e1
      have b1 : decide ((i : Int) < 2) = true := by simp; omega
      obtain ⟨qa, qc, y0, y1, y2, y3, hit, hbw⟩ := hat.read
      have hba : Below wr.heap.size wr (wr.alloc (.cells #[.int .i64 T.k, .int .i64 T.n, .string T.s, .slice qa T.args.length qc] 28 (0, 0))) := (Below.refl _ _).alloc (Nat.le_refl _) _
      have HIT := Lib.hid (hit.below hba)
      have HBA := Lib.hid (HBL.out.trans (hba.mono HBL.out.size))
      have HTC := Lib.hid hTs.2
      clear hat hit hba HBL hT hTs
      go_wp2_with fail
      refine (tm_Check T _ _ _ hT9 HIT.out).mono ?_
      rintro e9 w9 ⟨rfl, hb9⟩
      rw [HTC.out]
      have HRL := Lib.hid (show DoRel 2 W0 (.int .i64 ((i + 1 : Nat) : Int)) w9 from ⟨i + 1, by omega, rfl, HBA.out.trans (hb9.mono HBA.out.size)⟩)
      clear hb9 HBA HIT HTC
      go_wp2
      go_roundw
      case measure => simp [intOf]; omega
      case rel => exact HRL.out
    · have b1 : decide ((i : Int) < 2) = false := by simp; omega
      have hbc : Below wr.heap.size wr (wr.alloc (.cells #[.slice a 2 c] 59 (0, 0))) := (Below.refl _ _).alloc (Nat.le_refl _) _
      have HRC := Lib.hid (heap_alloc_new wr (.cells #[.slice a 2 c] 59 (0, 0)))
      have hb1 := (HB0.out.trans (HBL.out.mono HB0.out.size)).trans (hbc.mono (HB0.out.trans (HBL.out.mono HB0.out.size)).size)
      have hr1 := row_on (row_on HR0.out HBL.out) hbc
      have HB1 := Lib.hid hb1
      have HR1 := Lib.hid hr1
      have hs1 : w.heap.size + 1 ≤ (wr.alloc (.cells #[.slice a 2 c] 59 (0, 0))).heap.size := by have := HBL.out.size; have := hbc.size; omega
      have x0 := cell_of_row _ _ 0 _ _ _ HRC.out
      have HLT := Lib.hid (Array.getElem?_eq_some_iff.1 HRC.out).1
      clear hb1 hr1 HB0 HR0 HBL hs0 hbc
      go_wp2_with (first
        | (with_reducible show wpList _ _ _ (⟨some 32, _, _, _, _, _⟩ :: _) _ _
           refine wpList_map_start rfl 61 rfl (wr.alloc (.cells #[.slice a 2 c] 59 (0, 0))) (Below.refl _ _) ?_
           intro mb w1 h1
           clear x0
           have x0 := cell_of_row _ _ 0 _ _ _ ((h1.bel.block _ HLT.out).trans HRC.out)
           have HF := Lib.hid h1
           clear h1)
        | (with_reducible show wpList _ _ _ (⟨none, .insert _ _ _ _, _, _, _, _⟩ :: _) _ _
           refine wpList_map_fill rfl 61 (.tmp 32) _ _ rfl _ _ _ Tryd.underlying61 Tryd.underlying9 rfl (wr.alloc (.cells #[.slice a 2 c] 59 (0, 0))) _ _ _ rfl HF.out (by kernel_rfl) ?_
           intro w1 h1
           clear x0
           have x0 := cell_of_row _ _ 0 _ _ _ ((h1.bel.block _ HLT.out).trans HRC.out)
           replace HF := Lib.hid h1
           clear h1)
        | (with_reducible show wpList _ _ _ (⟨some 48, _, _, _, _, _⟩ :: _) _ _
           go_must (
             have HM1 := Lib.hid (show w1.heap[mb]? = some (.map (meth (.agg #[.slice a 2 c])) 6) from HF.out.at_)
             refine wpList_lookup_val rfl 61 (.tmp 46) (.tmp 47) rfl _ _ _ Tryd.underlying61 Tryd.underlying9 rfl mb _ _ rfl HM1.out (2, .func (.func 26) #[.agg #[.slice a 2 c]] #[]) (by kernel_rfl) ?_
             clear HM1)))
      have HB3 := Lib.hid (HB1.out.trans (HF.out.bel.mono HB1.out.size))
      have HR3 := Lib.hid (row_on HR1.out HF.out.bel)
      have hs3 : w.heap.size + 1 ≤ w1.heap.size := Nat.le_trans hs1 HF.out.bel.size
      have HT3 := Lib.hid (HTB.out.on HB3.out)
      clear HF x0 HLT HRC HB1 HR1 hs1
      have HA := Lib.hid (HE.out ▸ H.out.below HB3.out)
      refine (tx_codes x y _ w1 a c HA.out (HM.out x (by rw [HE.out]; simp)).1 (HM.out y (by rw [HE.out]; simp)).1 HFT.out.1 HFT.out.2 hs1 hs2 HT3.out).mono ?_
      rintro e9 w9 ⟨v9, rfl, hd9, hb9⟩
      obtain ⟨cb, u1, u2, u3, n1, k1, n2, k2, n3, k3, cx, cy, cs, rfl⟩ := hd9.cells
      have HD9 := Lib.hid (hd9.imp (P' := fun b => P b ∧ b < w.heap.size ∨ w.heap.size + 1 ≤ b) (fun b hb => by rcases hb with hb | hb; (· exact Or.inl hb.1); (· exact Or.inr (by omega))) (Nat.le_refl _) (fun _ _ _ => rfl))
      have HR9 := Lib.hid (row_on HR3.out hb9)
      have HB9 := Lib.hid (HB3.out.trans (hb9.mono HB3.out.size))
      clear hd9 hb9
      go_wp2_with (with_reducible show wpList _ _ _ (⟨none, .store _ (.tmp 4) _, _, _, _, _⟩ :: _) _ _
                   go_must (refine wpList_store_row rfl 35 (.tmp 4) (.tmp 49) rfl w.heap.size #[.bool cb, .slice u1 n1 k1, .slice u2 n2 k2, .int .i64 cx, .int .i64 cy, .string cs, .slice u3 n3 k3] rfl rfl _ _ HR9.out size_did rfl (by simp [Value.oneCell']) ?_))
      have hz := setRow_heap w9 w.heap.size _ (#[.bool cb, .slice u1 n1 k1, .slice u2 n2 k2, .int .i64 cx, .int .i64 cy, .string cs, .slice u3 n3 k3] : Array Value) _ _ HR9.out
      exact bodyPost_ret (v := .tuple #[.agg #[.bool cb, .slice u1 n1 k1, .slice u2 n2 k2, .int .i64 cx, .int .i64 cy, .string cs, .slice u3 n3 k3], .int .i64 0]) (Push.results_cell_tmp Tryd.results11 _ _ w.heap.size _ #[.bool cb, .slice u1 n1 k1, .slice u2 n2 k2, .int .i64 cx, .int .i64 cy, .string cs, .slice u3 n3 k3] _ _ _ rfl (by simp) hz Tryd.underlying35 rfl (by kernel_rfl)) rfl ⟨_, rfl, HD9.out.imp (fun _ h => h) (by simp) (fun b hb _ => setRow_other w9 w.heap.size b _ (by rcases hb with h | h; (· have := h.2; omega); (· omega))), below_row HB9.out (by omega)⟩
set_option maxRecDepth 100000 in
set_option maxHeartbeats 4000000 in
theorem tx_Do_code (ts : List Tm) (x y : Tm) (P : Nat → Prop) (w : World) (a : Option Addr) (c : Nat) (h : IsSl w P (.slice a 2 c) ts) (he : ts = [x, y]) (hM : ∀ t ∈ ts, t.size ≤ 1000000 ∧ checkT t = 0) (hfx : Num.Fit x.n) (hfy : Num.Fit y.n) (hs1 : x.s.size ≤ 100000) (hs2 : y.s.size ≤ 100000) (ht : Num.Tab w) :
    Calls Tryd.prog 11 #[.string ⟨#[99, 104, 97, 114, 95, 99, 111, 100, 101]⟩, .slice a 2 c] w (DoP (codeD x y) P w) := by
  have hl : ts.length = 2 := by rw [he]; rfl
  have HE := Lib.hid he
  have HDO := Lib.hid (show doesT ⟨#[99, 104, 97, 114, 95, 99, 111, 100, 101]⟩ 2 = true by decide)
  have HFT := Lib.hid (show Num.Fit x.n ∧ Num.Fit y.n from ⟨hfx, hfy⟩)
  clear he hfx hfy
  have HTB := Lib.hid ht
  have HL := Lib.hid hl
  have H := Lib.hid h.lt2
  have HM := Lib.hid hM
  clear h hl hM ht
  have hb0 : Below w.heap.size w (w.alloc (.cells #[.bool false, .slice none 0 0, .slice none 0 0, .int .i64 0, .int .i64 0, .string ⟨#[]⟩, .slice none 0 0] 35 (0, 0))) := (Below.refl _ _).alloc (Nat.le_refl _) _
  have HB0 := Lib.hid hb0
  have HR0 := Lib.hid (heap_alloc_new w (.cells #[.bool false, .slice none 0 0, .slice none 0 0, .int .i64 0, .int .i64 0, .string ⟨#[]⟩, .slice none 0 0] 35 (0, 0)))
  have hs0 : w.heap.size < (w.alloc (.cells #[.bool false, .slice none 0 0, .slice none 0 0, .int .i64 0, .int .i64 0, .string ⟨#[]⟩, .slice none 0 0] 35 (0, 0))).heap.size := by simp
  clear hb0
  go_enter Tryd.func11, Tryd.ntmps11
  go_wp2_with fail
  refine (tx_Does _ _ _).mono ?_
  rintro e1 w1 ⟨rfl, rfl⟩
  rw [HDO.out]
  generalize w.alloc (.cells #[.bool false, .slice none 0 0, .slice none 0 0, .int .i64 0, .int .i64 0, .string ⟨#[]⟩, .slice none 0 0] 35 (0, 0)) = W0 at *
  have HST := Lib.hid (show DoRel 2 W0 (.int .i64 ((0 : Nat) : Int)) W0 from ⟨0, by omega, rfl, Below.refl _ _⟩)
  go_wp2
  go_loopw [19] (fun v19 wr => DoRel 2 W0 v19 wr) (fun v19 _ => 2 - (intOf v19).toNat)
  case atStart => exact HST.out
  case round =>
    clear HST
    obtain ⟨i, hi, rfl, hbl⟩ := hrel
    have HBL := Lib.hid hbl
    clear hbl
    by_cases hin : i < 2
    · have hin' : i < ts.length := by rw [HL.out]; exact hin
      obtain ⟨T, hT⟩ : ∃ T, T = ts[i] := ⟨_, rfl⟩
      have hTs : T.size ≤ 1000000 ∧ checkT T = 0 := by rw [hT]; exact HM.out _ (List.getElem_mem _)
      have hT9 : T.size ≤ 1000000000 := by omega
      obtain ⟨b, off, e1, -, hat⟩ := (H.out.below ((HB0.out.trans (HBL.out.mono HB0.out.size)))).at i hin'
      rw [← hT] at hat
      subst e1
      have b1 : decide ((i : Int) < 2) = true := by simp; omega
      obtain ⟨qa, qc, y0, y1, y2, y3, hit, hbw⟩ := hat.read
      have hba : Below wr.heap.size wr (wr.alloc (.cells #[.int .i64 T.k, .int .i64 T.n, .string T.s, .slice qa T.args.length qc] 28 (0, 0))) := (Below.refl _ _).alloc (Nat.le_refl _) _
      have HIT := Lib.hid (hit.below hba)
      have HBA := Lib.hid (HBL.out.trans (hba.mono HBL.out.size))
      have HTC := Lib.hid hTs.2
      clear hat hit hba HBL hT hTs
      go_wp2_with fail
      refine (tm_Check T _ _ _ hT9 HIT.out).mono ?_
      rintro e9 w9 ⟨rfl, hb9⟩
      rw [HTC.out]
      have HRL := Lib.hid (show DoRel 2 W0 (.int .i64 ((i + 1 : Nat) : Int)) w9 from ⟨i + 1, by omega, rfl, HBA.out.trans (hb9.mono HBA.out.size)⟩)
      clear hb9 HBA HIT HTC
      go_wp2
      go_roundw
      case measure => simp [intOf]; omega
      case rel => exact HRL.out
    · have b1 : decide ((i : Int) < 2) = false := by simp; omega
      have hbc : Below wr.heap.size wr (wr.alloc (.cells #[.slice a 2 c] 59 (0, 0))) := (Below.refl _ _).alloc (Nat.le_refl _) _
      have HRC := Lib.hid (heap_alloc_new wr (.cells #[.slice a 2 c] 59 (0, 0)))
      have hb1 := (HB0.out.trans (HBL.out.mono HB0.out.size)).trans (hbc.mono (HB0.out.trans (HBL.out.mono HB0.out.size)).size)
      have hr1 := row_on (row_on HR0.out HBL.out) hbc
      have HB1 := Lib.hid hb1
      have HR1 := Lib.hid hr1
      have hs1 : w.heap.size + 1 ≤ (wr.alloc (.cells #[.slice a 2 c] 59 (0, 0))).heap.size := by have := HBL.out.size; have := hbc.size; omega
      have x0 := cell_of_row _ _ 0 _ _ _ HRC.out
      have HLT := Lib.hid (Array.getElem?_eq_some_iff.1 HRC.out).1
      clear hb1 hr1 HB0 HR0 HBL hs0 hbc
      go_wp2_with (first
        | (with_reducible show wpList _ _ _ (⟨some 32, _, _, _, _, _⟩ :: _) _ _
           refine wpList_map_start rfl 61 rfl (wr.alloc (.cells #[.slice a 2 c] 59 (0, 0))) (Below.refl _ _) ?_
           intro mb w1 h1
           clear x0
           have x0 := cell_of_row _ _ 0 _ _ _ ((h1.bel.block _ HLT.out).trans HRC.out)
           have HF := Lib.hid h1
           clear h1)
        | (with_reducible show wpList _ _ _ (⟨none, .insert _ _ _ _, _, _, _, _⟩ :: _) _ _
           refine wpList_map_fill rfl 61 (.tmp 32) _ _ rfl _ _ _ Tryd.underlying61 Tryd.underlying9 rfl (wr.alloc (.cells #[.slice a 2 c] 59 (0, 0))) _ _ _ rfl HF.out (by kernel_rfl) ?_
           intro w1 h1
           clear x0
           have x0 := cell_of_row _ _ 0 _ _ _ ((h1.bel.block _ HLT.out).trans HRC.out)
           replace HF := Lib.hid h1
           clear h1)
        | (with_reducible show wpList _ _ _ (⟨some 48, _, _, _, _, _⟩ :: _) _ _
           go_must (
             have HM1 := Lib.hid (show w1.heap[mb]? = some (.map (meth (.agg #[.slice a 2 c])) 6) from HF.out.at_)
             refine wpList_lookup_val rfl 61 (.tmp 46) (.tmp 47) rfl _ _ _ Tryd.underlying61 Tryd.underlying9 rfl mb _ _ rfl HM1.out (3, .func (.func 27) #[.agg #[.slice a 2 c]] #[]) (by kernel_rfl) ?_
             clear HM1)))
      have HB3 := Lib.hid (HB1.out.trans (HF.out.bel.mono HB1.out.size))
      have HR3 := Lib.hid (row_on HR1.out HF.out.bel)
      have hs3 : w.heap.size + 1 ≤ w1.heap.size := Nat.le_trans hs1 HF.out.bel.size
      have HT3 := Lib.hid (HTB.out.on HB3.out)
      clear HF x0 HLT HRC HB1 HR1 hs1
      have HA := Lib.hid (HE.out ▸ H.out.below HB3.out)
      refine (tx_code x y _ w1 a c HA.out (HM.out x (by rw [HE.out]; simp)).1 (HM.out y (by rw [HE.out]; simp)).1 HFT.out.1 HFT.out.2 hs1 hs2 HT3.out).mono ?_
      rintro e9 w9 ⟨v9, rfl, hd9, hb9⟩
      obtain ⟨cb, u1, u2, u3, n1, k1, n2, k2, n3, k3, cx, cy, cs, rfl⟩ := hd9.cells
      have HD9 := Lib.hid (hd9.imp (P' := fun b => P b ∧ b < w.heap.size ∨ w.heap.size + 1 ≤ b) (fun b hb => by rcases hb with hb | hb; (· exact Or.inl hb.1); (· exact Or.inr (by omega))) (Nat.le_refl _) (fun _ _ _ => rfl))
      have HR9 := Lib.hid (row_on HR3.out hb9)
      have HB9 := Lib.hid (HB3.out.trans (hb9.mono HB3.out.size))
      clear hd9 hb9
      go_wp2_with (with_reducible show wpList _ _ _ (⟨none, .store _ (.tmp 4) _, _, _, _, _⟩ :: _) _ _
                   go_must (refine wpList_store_row rfl 35 (.tmp 4) (.tmp 49) rfl w.heap.size #[.bool cb, .slice u1 n1 k1, .slice u2 n2 k2, .int .i64 cx, .int .i64 cy, .string cs, .slice u3 n3 k3] rfl rfl _ _ HR9.out size_did rfl (by simp [Value.oneCell']) ?_))
      have hz := setRow_heap w9 w.heap.size _ (#[.bool cb, .slice u1 n1 k1, .slice u2 n2 k2, .int .i64 cx, .int .i64 cy, .string cs, .slice u3 n3 k3] : Array Value) _ _ HR9.out
      exact bodyPost_ret (v := .tuple #[.agg #[.bool cb, .slice u1 n1 k1, .slice u2 n2 k2, .int .i64 cx, .int .i64 cy, .string cs, .slice u3 n3 k3], .int .i64 0]) (Push.results_cell_tmp Tryd.results11 _ _ w.heap.size _ #[.bool cb, .slice u1 n1 k1, .slice u2 n2 k2, .int .i64 cx, .int .i64 cy, .string cs, .slice u3 n3 k3] _ _ _ rfl (by simp) hz Tryd.underlying35 rfl (by kernel_rfl)) rfl ⟨_, rfl, HD9.out.imp (fun _ h => h) (by simp) (fun b hb _ => setRow_other w9 w.heap.size b _ (by rcases hb with h | h; (· have := h.2; omega); (· omega))), below_row HB9.out (by omega)⟩
set_option maxRecDepth 100000 in
set_option maxHeartbeats 4000000 in
theorem tx_Do_number (ts : List Tm) (x y : Tm) (P : Nat → Prop) (w : World) (a : Option Addr) (c : Nat) (h : IsSl w P (.slice a 2 c) ts) (he : ts = [x, y]) (hM : ∀ t ∈ ts, t.size ≤ 1000000 ∧ checkT t = 0) (hfx : Num.Fit x.n) (hfy : Num.Fit y.n) (hs1 : x.s.size ≤ 100000) (hs2 : y.s.size ≤ 100000) (ht : Num.Tab w) :
    Calls Tryd.prog 11 #[.string ⟨#[110, 117, 109, 98, 101, 114, 95, 99, 111, 100, 101, 115]⟩, .slice a 2 c] w (DoP (numberD x y) P w) := by
  have hl : ts.length = 2 := by rw [he]; rfl
  have HE := Lib.hid he
  have HDO := Lib.hid (show doesT ⟨#[110, 117, 109, 98, 101, 114, 95, 99, 111, 100, 101, 115]⟩ 2 = true by decide)
  have HFT := Lib.hid (show Num.Fit x.n ∧ Num.Fit y.n from ⟨hfx, hfy⟩)
  clear he hfx hfy
  have HTB := Lib.hid ht
  have HL := Lib.hid hl
  have H := Lib.hid h.lt2
  have HM := Lib.hid hM
  clear h hl hM ht
  have hb0 : Below w.heap.size w (w.alloc (.cells #[.bool false, .slice none 0 0, .slice none 0 0, .int .i64 0, .int .i64 0, .string ⟨#[]⟩, .slice none 0 0] 35 (0, 0))) := (Below.refl _ _).alloc (Nat.le_refl _) _
  have HB0 := Lib.hid hb0
  have HR0 := Lib.hid (heap_alloc_new w (.cells #[.bool false, .slice none 0 0, .slice none 0 0, .int .i64 0, .int .i64 0, .string ⟨#[]⟩, .slice none 0 0] 35 (0, 0)))
  have hs0 : w.heap.size < (w.alloc (.cells #[.bool false, .slice none 0 0, .slice none 0 0, .int .i64 0, .int .i64 0, .string ⟨#[]⟩, .slice none 0 0] 35 (0, 0))).heap.size := by simp
  clear hb0
  go_enter Tryd.func11, Tryd.ntmps11
  go_wp2_with fail
  refine (tx_Does _ _ _).mono ?_
  rintro e1 w1 ⟨rfl, rfl⟩
  rw [HDO.out]
  generalize w.alloc (.cells #[.bool false, .slice none 0 0, .slice none 0 0, .int .i64 0, .int .i64 0, .string ⟨#[]⟩, .slice none 0 0] 35 (0, 0)) = W0 at *
  have HST := Lib.hid (show DoRel 2 W0 (.int .i64 ((0 : Nat) : Int)) W0 from ⟨0, by omega, rfl, Below.refl _ _⟩)
  go_wp2
  go_loopw [19] (fun v19 wr => DoRel 2 W0 v19 wr) (fun v19 _ => 2 - (intOf v19).toNat)
  case atStart => exact HST.out
  case round =>
    clear HST
    obtain ⟨i, hi, rfl, hbl⟩ := hrel
    have HBL := Lib.hid hbl
    clear hbl
    by_cases hin : i < 2
    · have hin' : i < ts.length := by rw [HL.out]; exact hin
      obtain ⟨T, hT⟩ : ∃ T, T = ts[i] := ⟨_, rfl⟩
      have hTs : T.size ≤ 1000000 ∧ checkT T = 0 := by rw [hT]; exact HM.out _ (List.getElem_mem _)
      have hT9 : T.size ≤ 1000000000 := by omega
      obtain ⟨b, off, e1, -, hat⟩ := (H.out.below ((HB0.out.trans (HBL.out.mono HB0.out.size)))).at i hin'
      rw [← hT] at hat
      subst e1
      have b1 : decide ((i : Int) < 2) = true := by simp; omega
      obtain ⟨qa, qc, y0, y1, y2, y3, hit, hbw⟩ := hat.read
      have hba : Below wr.heap.size wr (wr.alloc (.cells #[.int .i64 T.k, .int .i64 T.n, .string T.s, .slice qa T.args.length qc] 28 (0, 0))) := (Below.refl _ _).alloc (Nat.le_refl _) _
      have HIT := Lib.hid (hit.below hba)
      have HBA := Lib.hid (HBL.out.trans (hba.mono HBL.out.size))
      have HTC := Lib.hid hTs.2
      clear hat hit hba HBL hT hTs
      go_wp2_with fail
      refine (tm_Check T _ _ _ hT9 HIT.out).mono ?_
      rintro e9 w9 ⟨rfl, hb9⟩
      rw [HTC.out]
      have HRL := Lib.hid (show DoRel 2 W0 (.int .i64 ((i + 1 : Nat) : Int)) w9 from ⟨i + 1, by omega, rfl, HBA.out.trans (hb9.mono HBA.out.size)⟩)
      clear hb9 HBA HIT HTC
      go_wp2
      go_roundw
      case measure => simp [intOf]; omega
      case rel => exact HRL.out
    · have b1 : decide ((i : Int) < 2) = false := by simp; omega
      have hbc : Below wr.heap.size wr (wr.alloc (.cells #[.slice a 2 c] 59 (0, 0))) := (Below.refl _ _).alloc (Nat.le_refl _) _
      have HRC := Lib.hid (heap_alloc_new wr (.cells #[.slice a 2 c] 59 (0, 0)))
      have hb1 := (HB0.out.trans (HBL.out.mono HB0.out.size)).trans (hbc.mono (HB0.out.trans (HBL.out.mono HB0.out.size)).size)
      have hr1 := row_on (row_on HR0.out HBL.out) hbc
      have HB1 := Lib.hid hb1
      have HR1 := Lib.hid hr1
      have hs1 : w.heap.size + 1 ≤ (wr.alloc (.cells #[.slice a 2 c] 59 (0, 0))).heap.size := by have := HBL.out.size; have := hbc.size; omega
      have x0 := cell_of_row _ _ 0 _ _ _ HRC.out
      have HLT := Lib.hid (Array.getElem?_eq_some_iff.1 HRC.out).1
      clear hb1 hr1 HB0 HR0 HBL hs0 hbc
      go_wp2_with (first
        | (with_reducible show wpList _ _ _ (⟨some 32, _, _, _, _, _⟩ :: _) _ _
           refine wpList_map_start rfl 61 rfl (wr.alloc (.cells #[.slice a 2 c] 59 (0, 0))) (Below.refl _ _) ?_
           intro mb w1 h1
           clear x0
           have x0 := cell_of_row _ _ 0 _ _ _ ((h1.bel.block _ HLT.out).trans HRC.out)
           have HF := Lib.hid h1
           clear h1)
        | (with_reducible show wpList _ _ _ (⟨none, .insert _ _ _ _, _, _, _, _⟩ :: _) _ _
           refine wpList_map_fill rfl 61 (.tmp 32) _ _ rfl _ _ _ Tryd.underlying61 Tryd.underlying9 rfl (wr.alloc (.cells #[.slice a 2 c] 59 (0, 0))) _ _ _ rfl HF.out (by kernel_rfl) ?_
           intro w1 h1
           clear x0
           have x0 := cell_of_row _ _ 0 _ _ _ ((h1.bel.block _ HLT.out).trans HRC.out)
           replace HF := Lib.hid h1
           clear h1)
        | (with_reducible show wpList _ _ _ (⟨some 48, _, _, _, _, _⟩ :: _) _ _
           go_must (
             have HM1 := Lib.hid (show w1.heap[mb]? = some (.map (meth (.agg #[.slice a 2 c])) 6) from HF.out.at_)
             refine wpList_lookup_val rfl 61 (.tmp 46) (.tmp 47) rfl _ _ _ Tryd.underlying61 Tryd.underlying9 rfl mb _ _ rfl HM1.out (4, .func (.func 28) #[.agg #[.slice a 2 c]] #[]) (by kernel_rfl) ?_
             clear HM1)))
      have HB3 := Lib.hid (HB1.out.trans (HF.out.bel.mono HB1.out.size))
      have HR3 := Lib.hid (row_on HR1.out HF.out.bel)
      have hs3 : w.heap.size + 1 ≤ w1.heap.size := Nat.le_trans hs1 HF.out.bel.size
      have HT3 := Lib.hid (HTB.out.on HB3.out)
      clear HF x0 HLT HRC HB1 HR1 hs1
      have HA := Lib.hid (HE.out ▸ H.out.below HB3.out)
      refine (tx_number x y _ w1 a c HA.out (HM.out x (by rw [HE.out]; simp)).1 (HM.out y (by rw [HE.out]; simp)).1 HFT.out.1 HFT.out.2 hs1 hs2 HT3.out).mono ?_
      rintro e9 w9 ⟨v9, rfl, hd9, hb9⟩
      obtain ⟨cb, u1, u2, u3, n1, k1, n2, k2, n3, k3, cx, cy, cs, rfl⟩ := hd9.cells
      have HD9 := Lib.hid (hd9.imp (P' := fun b => P b ∧ b < w.heap.size ∨ w.heap.size + 1 ≤ b) (fun b hb => by rcases hb with hb | hb; (· exact Or.inl hb.1); (· exact Or.inr (by omega))) (Nat.le_refl _) (fun _ _ _ => rfl))
      have HR9 := Lib.hid (row_on HR3.out hb9)
      have HB9 := Lib.hid (HB3.out.trans (hb9.mono HB3.out.size))
      clear hd9 hb9
      go_wp2_with (with_reducible show wpList _ _ _ (⟨none, .store _ (.tmp 4) _, _, _, _, _⟩ :: _) _ _
                   go_must (refine wpList_store_row rfl 35 (.tmp 4) (.tmp 49) rfl w.heap.size #[.bool cb, .slice u1 n1 k1, .slice u2 n2 k2, .int .i64 cx, .int .i64 cy, .string cs, .slice u3 n3 k3] rfl rfl _ _ HR9.out size_did rfl (by simp [Value.oneCell']) ?_))
      have hz := setRow_heap w9 w.heap.size _ (#[.bool cb, .slice u1 n1 k1, .slice u2 n2 k2, .int .i64 cx, .int .i64 cy, .string cs, .slice u3 n3 k3] : Array Value) _ _ HR9.out
      exact bodyPost_ret (v := .tuple #[.agg #[.bool cb, .slice u1 n1 k1, .slice u2 n2 k2, .int .i64 cx, .int .i64 cy, .string cs, .slice u3 n3 k3], .int .i64 0]) (Push.results_cell_tmp Tryd.results11 _ _ w.heap.size _ #[.bool cb, .slice u1 n1 k1, .slice u2 n2 k2, .int .i64 cx, .int .i64 cy, .string cs, .slice u3 n3 k3] _ _ _ rfl (by simp) hz Tryd.underlying35 rfl (by kernel_rfl)) rfl ⟨_, rfl, HD9.out.imp (fun _ h => h) (by simp) (fun b hb _ => setRow_other w9 w.heap.size b _ (by rcases hb with h | h; (· have := h.2; omega); (· omega))), below_row HB9.out (by omega)⟩
set_option maxRecDepth 100000 in
set_option maxHeartbeats 4000000 in
theorem tx_Do_concat (ts : List Tm) (x y z : Tm) (P : Nat → Prop) (w : World) (a : Option Addr) (c : Nat) (h : IsSl w P (.slice a 3 c) ts) (he : ts = [x, y, z]) (hM : ∀ t ∈ ts, t.size ≤ 1000000 ∧ checkT t = 0) (hfx : Num.Fit x.n) (hfy : Num.Fit y.n) (hfz : Num.Fit z.n) (hs1 : x.s.size ≤ 100000) (hs2 : y.s.size ≤ 100000) (ht : Num.Tab w) :
    Calls Tryd.prog 11 #[.string ⟨#[97, 116, 111, 109, 95, 99, 111, 110, 99, 97, 116]⟩, .slice a 3 c] w (DoP (concatD x y z) P w) := by
  have hl : ts.length = 3 := by rw [he]; rfl
  have HE := Lib.hid he
  have HDO := Lib.hid (show doesT ⟨#[97, 116, 111, 109, 95, 99, 111, 110, 99, 97, 116]⟩ 3 = true by decide)
  have HFT := Lib.hid (show Num.Fit x.n ∧ Num.Fit y.n ∧ Num.Fit z.n from ⟨hfx, hfy, hfz⟩)
  clear he hfx hfy hfz
  have HTB := Lib.hid ht
  have HL := Lib.hid hl
  have H := Lib.hid h.lt2
  have HM := Lib.hid hM
  clear h hl hM ht
  have hb0 : Below w.heap.size w (w.alloc (.cells #[.bool false, .slice none 0 0, .slice none 0 0, .int .i64 0, .int .i64 0, .string ⟨#[]⟩, .slice none 0 0] 35 (0, 0))) := (Below.refl _ _).alloc (Nat.le_refl _) _
  have HB0 := Lib.hid hb0
  have HR0 := Lib.hid (heap_alloc_new w (.cells #[.bool false, .slice none 0 0, .slice none 0 0, .int .i64 0, .int .i64 0, .string ⟨#[]⟩, .slice none 0 0] 35 (0, 0)))
  have hs0 : w.heap.size < (w.alloc (.cells #[.bool false, .slice none 0 0, .slice none 0 0, .int .i64 0, .int .i64 0, .string ⟨#[]⟩, .slice none 0 0] 35 (0, 0))).heap.size := by simp
  clear hb0
  go_enter Tryd.func11, Tryd.ntmps11
  go_wp2_with fail
  refine (tx_Does _ _ _).mono ?_
  rintro e1 w1 ⟨rfl, rfl⟩
  rw [HDO.out]
  generalize w.alloc (.cells #[.bool false, .slice none 0 0, .slice none 0 0, .int .i64 0, .int .i64 0, .string ⟨#[]⟩, .slice none 0 0] 35 (0, 0)) = W0 at *
  have HST := Lib.hid (show DoRel 3 W0 (.int .i64 ((0 : Nat) : Int)) W0 from ⟨0, by omega, rfl, Below.refl _ _⟩)
  go_wp2
  go_loopw [19] (fun v19 wr => DoRel 3 W0 v19 wr) (fun v19 _ => 3 - (intOf v19).toNat)
  case atStart => exact HST.out
  case round =>
    clear HST
    obtain ⟨i, hi, rfl, hbl⟩ := hrel
    have HBL := Lib.hid hbl
    clear hbl
    by_cases hin : i < 3
    · have hin' : i < ts.length := by rw [HL.out]; exact hin
      obtain ⟨T, hT⟩ : ∃ T, T = ts[i] := ⟨_, rfl⟩
      have hTs : T.size ≤ 1000000 ∧ checkT T = 0 := by rw [hT]; exact HM.out _ (List.getElem_mem _)
      have hT9 : T.size ≤ 1000000000 := by omega
      obtain ⟨b, off, e1, -, hat⟩ := (H.out.below ((HB0.out.trans (HBL.out.mono HB0.out.size)))).at i hin'
      rw [← hT] at hat
      subst e1
      have b1 : decide ((i : Int) < 3) = true := by simp; omega
      obtain ⟨qa, qc, y0, y1, y2, y3, hit, hbw⟩ := hat.read
      have hba : Below wr.heap.size wr (wr.alloc (.cells #[.int .i64 T.k, .int .i64 T.n, .string T.s, .slice qa T.args.length qc] 28 (0, 0))) := (Below.refl _ _).alloc (Nat.le_refl _) _
      have HIT := Lib.hid (hit.below hba)
      have HBA := Lib.hid (HBL.out.trans (hba.mono HBL.out.size))
      have HTC := Lib.hid hTs.2
      clear hat hit hba HBL hT hTs
      go_wp2_with fail
      refine (tm_Check T _ _ _ hT9 HIT.out).mono ?_
      rintro e9 w9 ⟨rfl, hb9⟩
      rw [HTC.out]
      have HRL := Lib.hid (show DoRel 3 W0 (.int .i64 ((i + 1 : Nat) : Int)) w9 from ⟨i + 1, by omega, rfl, HBA.out.trans (hb9.mono HBA.out.size)⟩)
      clear hb9 HBA HIT HTC
      go_wp2
      go_roundw
      case measure => simp [intOf]; omega
      case rel => exact HRL.out
    · have b1 : decide ((i : Int) < 3) = false := by simp; omega
      have hbc : Below wr.heap.size wr (wr.alloc (.cells #[.slice a 3 c] 59 (0, 0))) := (Below.refl _ _).alloc (Nat.le_refl _) _
      have HRC := Lib.hid (heap_alloc_new wr (.cells #[.slice a 3 c] 59 (0, 0)))
      have hb1 := (HB0.out.trans (HBL.out.mono HB0.out.size)).trans (hbc.mono (HB0.out.trans (HBL.out.mono HB0.out.size)).size)
      have hr1 := row_on (row_on HR0.out HBL.out) hbc
      have HB1 := Lib.hid hb1
      have HR1 := Lib.hid hr1
      have hs1 : w.heap.size + 1 ≤ (wr.alloc (.cells #[.slice a 3 c] 59 (0, 0))).heap.size := by have := HBL.out.size; have := hbc.size; omega
      have x0 := cell_of_row _ _ 0 _ _ _ HRC.out
      have HLT := Lib.hid (Array.getElem?_eq_some_iff.1 HRC.out).1
      clear hb1 hr1 HB0 HR0 HBL hs0 hbc
      go_wp2_with (first
        | (with_reducible show wpList _ _ _ (⟨some 32, _, _, _, _, _⟩ :: _) _ _
           refine wpList_map_start rfl 61 rfl (wr.alloc (.cells #[.slice a 3 c] 59 (0, 0))) (Below.refl _ _) ?_
           intro mb w1 h1
           clear x0
           have x0 := cell_of_row _ _ 0 _ _ _ ((h1.bel.block _ HLT.out).trans HRC.out)
           have HF := Lib.hid h1
           clear h1)
        | (with_reducible show wpList _ _ _ (⟨none, .insert _ _ _ _, _, _, _, _⟩ :: _) _ _
           refine wpList_map_fill rfl 61 (.tmp 32) _ _ rfl _ _ _ Tryd.underlying61 Tryd.underlying9 rfl (wr.alloc (.cells #[.slice a 3 c] 59 (0, 0))) _ _ _ rfl HF.out (by kernel_rfl) ?_
           intro w1 h1
           clear x0
           have x0 := cell_of_row _ _ 0 _ _ _ ((h1.bel.block _ HLT.out).trans HRC.out)
           replace HF := Lib.hid h1
           clear h1)
        | (with_reducible show wpList _ _ _ (⟨some 48, _, _, _, _, _⟩ :: _) _ _
           go_must (
             have HM1 := Lib.hid (show w1.heap[mb]? = some (.map (meth (.agg #[.slice a 3 c])) 6) from HF.out.at_)
             refine wpList_lookup_val rfl 61 (.tmp 46) (.tmp 47) rfl _ _ _ Tryd.underlying61 Tryd.underlying9 rfl mb _ _ rfl HM1.out (5, .func (.func 29) #[.agg #[.slice a 3 c]] #[]) (by kernel_rfl) ?_
             clear HM1)))
      have HB3 := Lib.hid (HB1.out.trans (HF.out.bel.mono HB1.out.size))
      have HR3 := Lib.hid (row_on HR1.out HF.out.bel)
      have hs3 : w.heap.size + 1 ≤ w1.heap.size := Nat.le_trans hs1 HF.out.bel.size
      have HT3 := Lib.hid (HTB.out.on HB3.out)
      clear HF x0 HLT HRC HB1 HR1 hs1
      have HA := Lib.hid (HE.out ▸ H.out.below HB3.out)
      refine (tx_concat x y z _ w1 a c HA.out (HM.out x (by rw [HE.out]; simp)).1 (HM.out y (by rw [HE.out]; simp)).1 (HM.out z (by rw [HE.out]; simp)).1 HFT.out.1 HFT.out.2.1 HFT.out.2.2 hs1 hs2 HT3.out).mono ?_
      rintro e9 w9 ⟨v9, rfl, hd9, hb9⟩
      obtain ⟨cb, u1, u2, u3, n1, k1, n2, k2, n3, k3, cx, cy, cs, rfl⟩ := hd9.cells
      have HD9 := Lib.hid (hd9.imp (P' := fun b => P b ∧ b < w.heap.size ∨ w.heap.size + 1 ≤ b) (fun b hb => by rcases hb with hb | hb; (· exact Or.inl hb.1); (· exact Or.inr (by omega))) (Nat.le_refl _) (fun _ _ _ => rfl))
      have HR9 := Lib.hid (row_on HR3.out hb9)
      have HB9 := Lib.hid (HB3.out.trans (hb9.mono HB3.out.size))
      clear hd9 hb9
      go_wp2_with (with_reducible show wpList _ _ _ (⟨none, .store _ (.tmp 4) _, _, _, _, _⟩ :: _) _ _
                   go_must (refine wpList_store_row rfl 35 (.tmp 4) (.tmp 49) rfl w.heap.size #[.bool cb, .slice u1 n1 k1, .slice u2 n2 k2, .int .i64 cx, .int .i64 cy, .string cs, .slice u3 n3 k3] rfl rfl _ _ HR9.out size_did rfl (by simp [Value.oneCell']) ?_))
      have hz := setRow_heap w9 w.heap.size _ (#[.bool cb, .slice u1 n1 k1, .slice u2 n2 k2, .int .i64 cx, .int .i64 cy, .string cs, .slice u3 n3 k3] : Array Value) _ _ HR9.out
      exact bodyPost_ret (v := .tuple #[.agg #[.bool cb, .slice u1 n1 k1, .slice u2 n2 k2, .int .i64 cx, .int .i64 cy, .string cs, .slice u3 n3 k3], .int .i64 0]) (Push.results_cell_tmp Tryd.results11 _ _ w.heap.size _ #[.bool cb, .slice u1 n1 k1, .slice u2 n2 k2, .int .i64 cx, .int .i64 cy, .string cs, .slice u3 n3 k3] _ _ _ rfl (by simp) hz Tryd.underlying35 rfl (by kernel_rfl)) rfl ⟨_, rfl, HD9.out.imp (fun _ h => h) (by simp) (fun b hb _ => setRow_other w9 w.heap.size b _ (by rcases hb with h | h; (· have := h.2; omega); (· omega))), below_row HB9.out (by omega)⟩
end Go.Proofs.YtkhchmgdaolojaaDoor.Tms
namespace Go.Proofs.YtkhchmgdaolojaaDoor.Tms
open Go Go.RowKit Go.Proofs.YtkhchmgdaolojaaDoor.Reg Go.Proofs.YtkhchmgdaolojaaDoor.Rws Go.Proofs.YtkhchmgdaolojaaDoor.Maps Go.Instr
set_option linter.unusedVariables false
set_option linter.unusedSimpArgs false

set_option maxRecDepth 100000 in
set_option maxHeartbeats 4000000 in
theorem tx_Do_none (s : ByteArray) (a : Option Addr) (n c : Nat) (w : World) (hd : doesT s n = false) :
    Calls Tryd.prog 11 #[.string s, .slice a n c] w (DoX 8 w) := by
  have hb0 : Below w.heap.size w (w.alloc (.cells #[.bool false, .slice none 0 0, .slice none 0 0, .int .i64 0, .int .i64 0, .string ⟨#[]⟩, .slice none 0 0] 35 (0, 0))) := (Below.refl _ _).alloc (Nat.le_refl _) _
  have HB0 := Lib.hid hb0
  have HR0 := Lib.hid (heap_alloc_new w (.cells #[.bool false, .slice none 0 0, .slice none 0 0, .int .i64 0, .int .i64 0, .string ⟨#[]⟩, .slice none 0 0] 35 (0, 0)))
  have HDO := Lib.hid hd
  clear hb0 hd
  go_enter Tryd.func11, Tryd.ntmps11
  go_wp2_with fail
  refine (tx_Does _ _ _).mono ?_
  rintro e1 w1 ⟨rfl, rfl⟩
  rw [HDO.out]
  generalize w.alloc (.cells #[.bool false, .slice none 0 0, .slice none 0 0, .int .i64 0, .int .i64 0, .string ⟨#[]⟩, .slice none 0 0] 35 (0, 0)) = W0 at *
  go_wp2_with (with_reducible show wpList _ _ _ (⟨none, .store _ (.tmp 4) _, _, _, _, _⟩ :: _) _ _
               go_must (refine wpList_store_row rfl 35 (.tmp 4) (.tmp 16) rfl w.heap.size #[.bool false, .slice none 0 0, .slice none 0 0, .int .i64 0, .int .i64 0, .string ⟨#[]⟩, .slice none 0 0] rfl (by kernel_rfl) _ _ HR0.out size_did rfl (by simp [Value.oneCell']) ?_))
  have hz := setRow_heap W0 w.heap.size _ (#[.bool false, .slice none 0 0, .slice none 0 0, .int .i64 0, .int .i64 0, .string ⟨#[]⟩, .slice none 0 0] : Array Value) _ _ HR0.out
  exact bodyPost_ret (v := .tuple #[.agg #[.bool false, .slice none 0 0, .slice none 0 0, .int .i64 0, .int .i64 0, .string ⟨#[]⟩, .slice none 0 0], .int .i64 8]) (Push.results_cell_tmp Tryd.results11 _ _ w.heap.size _ #[.bool false, .slice none 0 0, .slice none 0 0, .int .i64 0, .int .i64 0, .string ⟨#[]⟩, .slice none 0 0] _ _ _ rfl (by simp) hz Tryd.underlying35 rfl (by kernel_rfl)) rfl ⟨rfl, below_row HB0.out (by omega)⟩
/-- the first error of terms -/
def firstBad : List Tm → Int
  | [] => 0
  | t :: l => if checkT t = 0 then firstBad l else checkT t
theorem firstBad_cons (t : Tm) (l : List Tm) : firstBad (t :: l) = if checkT t = 0 then firstBad l else checkT t := rfl
theorem firstBad_no {l : List Tm} (h : ∀ t ∈ l, checkT t = 0) : firstBad l = 0 := by
  induction l with
  | nil => rfl
  | cons t l ih => rw [firstBad_cons, if_pos (h t (by simp))]; exact ih fun u hu => h u (by simp [hu])
theorem firstBad_yes {l : List Tm} (h : firstBad l = 0) : ∀ t ∈ l, checkT t = 0 := by
  induction l with
  | nil => simp
  | cons t l ih =>
    rw [firstBad_cons] at h
    by_cases h0 : checkT t = 0
    · rw [if_pos h0] at h
      intro u hu
      rcases List.mem_cons.1 hu with rfl | hu
      · exact h0
      · exact ih h u hu
    · rw [if_neg h0] at h; exact absurd h h0
theorem firstBad_at {l : List Tm} {i : Nat} (h : ∀ t ∈ l.take i, checkT t = 0) (hi : i < l.length) : firstBad l = firstBad (l[i] :: l.drop (i + 1)) := by
  induction l generalizing i with
  | nil => simp at hi
  | cons t l ih =>
    cases i with
    | zero => rfl
    | succ i =>
      rw [firstBad_cons, if_pos (h t (by simp))]
      exact ih (i := i) (fun u hu => h u (by simp [hu])) (by simpa using hi)
def BadRel (n : Nat) (ts : List Tm) (w : World) (vi : Value) (wr : World) : Prop := ∃ i : Nat, i ≤ n ∧ vi = .int .i64 i ∧ Below w.heap.size w wr ∧ ∀ t ∈ ts.take i, checkT t = 0
set_option maxRecDepth 100000 in
set_option maxHeartbeats 4000000 in
theorem tx_Do_bad (s : ByteArray) (ts : List Tm) (P : Nat → Prop) (w : World) (a : Option Addr) (n c : Nat) (h : IsSl w P (.slice a n c) ts) (hl : ts.length = n) (hM : ∀ t ∈ ts, t.size ≤ 1000000) (hn : n ≤ 1000000) (hfb : firstBad ts ≠ 0) (hdo : doesT s n = true) :
    Calls Tryd.prog 11 #[.string s, .slice a n c] w (DoX (firstBad ts) w) := by
  have HFB := Lib.hid hfb
  clear hfb
  have HL := Lib.hid hl
  have H := Lib.hid h.lt2
  have HM := Lib.hid hM
  have HDO := Lib.hid hdo
  clear h hl hM hdo
  have hb0 : Below w.heap.size w (w.alloc (.cells #[.bool false, .slice none 0 0, .slice none 0 0, .int .i64 0, .int .i64 0, .string ⟨#[]⟩, .slice none 0 0] 35 (0, 0))) := (Below.refl _ _).alloc (Nat.le_refl _) _
  have HB0 := Lib.hid hb0
  have HR0 := Lib.hid (heap_alloc_new w (.cells #[.bool false, .slice none 0 0, .slice none 0 0, .int .i64 0, .int .i64 0, .string ⟨#[]⟩, .slice none 0 0] 35 (0, 0)))
  have hs0 : w.heap.size < (w.alloc (.cells #[.bool false, .slice none 0 0, .slice none 0 0, .int .i64 0, .int .i64 0, .string ⟨#[]⟩, .slice none 0 0] 35 (0, 0))).heap.size := by simp
  clear hb0
  go_enter Tryd.func11, Tryd.ntmps11
  go_wp2_with fail
  refine (tx_Does _ _ _).mono ?_
  rintro e1 w1 ⟨rfl, rfl⟩
  rw [HDO.out]
  generalize w.alloc (.cells #[.bool false, .slice none 0 0, .slice none 0 0, .int .i64 0, .int .i64 0, .string ⟨#[]⟩, .slice none 0 0] 35 (0, 0)) = W0 at *
  have HST := Lib.hid (show BadRel n ts W0 (.int .i64 ((0 : Nat) : Int)) W0 from ⟨0, by omega, rfl, Below.refl _ _, by simp⟩)
  go_wp2
  go_loopw [19] (fun v19 wr => BadRel n ts W0 v19 wr) (fun v19 _ => n - (intOf v19).toNat)
  case atStart => exact HST.out
  case round =>
    clear HST
    obtain ⟨i, hi, rfl, hbl, hgood⟩ := hrel
    have HBL := Lib.hid hbl
    clear hbl
    by_cases hin : i < n
    · have hin' : i < ts.length := by rw [HL.out]; exact hin
      obtain ⟨T, hT⟩ : ∃ T, T = ts[i] := ⟨_, rfl⟩
      have hTs : T.size ≤ 1000000 := by rw [hT]; exact HM.out _ (List.getElem_mem _)
      have hT9 : T.size ≤ 1000000000 := by omega
      obtain ⟨b, off, e1, -, hat⟩ := (H.out.below ((HB0.out.trans (HBL.out.mono HB0.out.size)))).at i hin'
      rw [← hT] at hat
      subst e1
      have b1 : decide ((i : Int) < n) = true := by simp; omega
      obtain ⟨qa, qc, y0, y1, y2, y3, hit, hbw⟩ := hat.read
      have hba : Below wr.heap.size wr (wr.alloc (.cells #[.int .i64 T.k, .int .i64 T.n, .string T.s, .slice qa T.args.length qc] 28 (0, 0))) := (Below.refl _ _).alloc (Nat.le_refl _) _
      have HIT := Lib.hid (hit.below hba)
      have HBA := Lib.hid (HBL.out.trans (hba.mono HBL.out.size))
      have HG := Lib.hid (show firstBad ts = firstBad (T :: ts.drop (i + 1)) by rw [hT]; exact firstBad_at hgood hin')
      have HGT := Lib.hid (show checkT T = 0 → ∀ t ∈ ts.take (i + 1), checkT t = 0 from fun h0 t ht => by
        rw [List.take_succ_eq_append_getElem hin'] at ht
        rcases List.mem_append.1 ht with ht | ht
        · exact hgood _ ht
        · simp only [List.mem_singleton] at ht; rw [ht, ← hT]; exact h0)
      have HRX := Lib.hid (row_on (row_on HR0.out HBL.out) hba)
      clear hat hit hba hT hTs hgood
      go_wp2_with fail
      refine (tm_Check T _ _ _ hT9 HIT.out).mono ?_
      rintro e9 w9 ⟨rfl, hb9⟩
      by_cases hz : checkT T = 0
      · rw [hz]
        have HRL := Lib.hid (show BadRel n ts W0 (.int .i64 ((i + 1 : Nat) : Int)) w9 from ⟨i + 1, by omega, rfl, HBA.out.trans (hb9.mono HBA.out.size), HGT.out hz⟩)
        clear hb9 HBA HIT hz
        go_wp2
        go_roundw
        case measure => simp [intOf]; omega
        case rel => exact HRL.out
      · obtain ⟨ce, hce⟩ : ∃ ce, ce = checkT T := ⟨_, rfl⟩
        rw [← hce]
        have HFE := Lib.hid (show firstBad ts = ce by rw [HG.out, firstBad_cons, if_neg hz, hce])
        have hc0 : (ce != 0) = true := by rw [hce]; simpa using hz
        have HR9 := Lib.hid (row_on HRX.out hb9)
        have HB9 := Lib.hid (HB0.out.trans ((HBA.out.trans (hb9.mono HBA.out.size)).mono HB0.out.size))
        clear hb9 HBA HIT hz hce HBL HB0 HR0 HRX HG HGT
        go_wp2_with (with_reducible show wpList _ _ _ (⟨none, .store _ (.tmp 4) _, _, _, _, _⟩ :: _) _ _
                     go_must (refine wpList_store_row rfl 35 (.tmp 4) (.tmp 27) rfl w.heap.size #[.bool false, .slice none 0 0, .slice none 0 0, .int .i64 0, .int .i64 0, .string ⟨#[]⟩, .slice none 0 0] rfl (by kernel_rfl) _ _ HR9.out size_did rfl (by simp [Value.oneCell']) ?_))
        have hz := setRow_heap w9 w.heap.size _ (#[.bool false, .slice none 0 0, .slice none 0 0, .int .i64 0, .int .i64 0, .string ⟨#[]⟩, .slice none 0 0] : Array Value) _ _ HR9.out
        rw [HFE.out]
        exact bodyPost_ret (v := .tuple #[.agg #[.bool false, .slice none 0 0, .slice none 0 0, .int .i64 0, .int .i64 0, .string ⟨#[]⟩, .slice none 0 0], .int .i64 ce]) (Push.results_cell_tmp Tryd.results11 _ _ w.heap.size _ #[.bool false, .slice none 0 0, .slice none 0 0, .int .i64 0, .int .i64 0, .string ⟨#[]⟩, .slice none 0 0] _ _ _ rfl (by simp) hz Tryd.underlying35 rfl (by kernel_rfl)) rfl ⟨rfl, below_row HB9.out (by omega)⟩
    · exfalso
      refine HFB.out (firstBad_no fun t ht => hgood t ?_)
      rw [List.take_of_length_le (by rw [HL.out]; omega)]; exact ht
end Go.Proofs.YtkhchmgdaolojaaDoor.Tms
