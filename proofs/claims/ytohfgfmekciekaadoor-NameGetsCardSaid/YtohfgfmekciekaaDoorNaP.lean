
/-
  Layer 2 (plain): sorts of bytes, plain atoms, how an atom is written, what is within quotes.
-/
namespace Go.Proofs.YtohfgfmekciekaaDoor.Nam
set_option linter.unusedVariables false
set_option linter.unusedSimpArgs false

def sortN (n : Nat) : Nat :=
  if (9 ≤ n ∧ n ≤ 13) ∨ n = 32 then 1
  else if 97 ≤ n ∧ n ≤ 122 then 2
  else if (65 ≤ n ∧ n ≤ 90) ∨ n = 95 then 3
  else if 48 ≤ n ∧ n ≤ 57 then 4
  else if [43, 45, 42, 47, 92, 94, 60, 62, 61, 126, 58, 46, 63, 64, 35, 38, 36].contains n then 5
  else if [33, 59].contains n then 6
  else if [40, 41, 91, 93, 123, 125, 44, 124, 37].contains n then 7
  else if [39, 34, 96].contains n then 8 else 0
def sort (c : UInt8) : Nat := sortN c.toNat
/-- letters and digits -/
def wordB (c : UInt8) : Bool := sort c == 2 || sort c == 3 || sort c == 4
def signB (c : UInt8) : Bool := sort c == 5
/-- does it begin a comment? -/
def comB : List UInt8 → Bool
  | a :: b :: _ => a == 47 && b == 42
  | _ => false
def plainB (l : List UInt8) : Bool :=
  if l = [] ∨ l = [46] then false
  else if l = [91, 93] ∨ l = [33] ∨ l = [59] ∨ l = [123, 125] then true
  else match l with
    | [] => false
    | c :: _ => if sort c = 2 then l.all wordB else !comB l && l.all signB
def hexd (n : Nat) : UInt8 := if n < 10 then UInt8.ofNat (48 + n) else UInt8.ofNat (87 + n)
def hexL (n : Nat) : List UInt8 := if n < 16 then [hexd n] else [hexd (n / 16), hexd (n % 16)]
def esc (c : UInt8) : List UInt8 :=
  if c = 39 ∨ c = 92 then [92, c] else if c = 10 then [92, 110] else if c = 9 then [92, 116]
  else if c.toNat < 32 ∨ c = 127 then [92, 120] ++ hexL c.toNat ++ [92] else [c]
def quoteL (l : List UInt8) : List UInt8 := l.flatMap esc ++ [39]
def putL (l : List UInt8) : List UInt8 := if plainB l = true then l else 39 :: quoteL l

/-- what a byte counts; 16: nothing -/
def digN (n : Nat) : Nat := if 48 ≤ n ∧ n ≤ 57 then n - 48 else if 97 ≤ n ∧ n ≤ 102 then n - 97 + 10 else if 65 ≤ n ∧ n ≤ 70 then n - 65 + 10 else 16
def dig (c : UInt8) : Nat := digN c.toNat
/-- the byte of digits up to a backslash, and how many bytes that takes; how many came ahead, and their number -/
def codeL (base : Nat) : Nat → Nat → List UInt8 → Option (Nat × Nat)
  | _, _, [] => none
  | i, n, c :: l => if c = 92 then (if i = 0 then none else some (n, i + 1)) else if base ≤ dig c then none else if 255 < n * base + dig c then none else codeL base (i + 1) (n * base + dig c) l
def knownL (c : UInt8) : Option Nat :=
  if c = 110 then some 10 else if c = 114 then some 13 else if c = 116 then some 9 else if c = 97 then some 7 else if c = 98 then some 8 else if c = 102 then some 12 else if c = 118 then some 11
  else if c = 92 ∨ c = 39 ∨ c = 34 ∨ c = 96 then some c.toNat else none
def octB (c : UInt8) : Bool := 48 ≤ c && c ≤ 55
/-- the byte that is told behind a backslash, and how many bytes that takes -/
def escL : List UInt8 → Option (Nat × Nat)
  | [] => none
  | c :: l => match knownL c with
    | some n => some (n, 1)
    | none => if c = 120 then (codeL 16 0 0 l).map fun p => (p.1, p.2 + 1)
      else if c = 48 ∧ (match l with | [] => true | d :: _ => !octB d && d != 92) = true then some (0, 1)
      else if octB c = true then codeL 8 0 0 (c :: l) else none
/-- what is within quotes, and how many bytes that took -/
def getL (q : UInt8) : Nat → List UInt8 → List UInt8 → Nat → Option (List UInt8 × Nat)
  | 0, _, _, _ => none
  | _, [], _, _ => none
  | f + 1, c :: l, out, n =>
    if c = q then (match l with | d :: l' => if d = q then getL q f l' (out ++ [c]) (n + 2) else some (out, n + 1) | [] => some (out, n + 1))
    else if c = 10 then none
    else if c ≠ 92 then getL q f l (out ++ [c]) (n + 1)
    else match l with
      | [] => none
      | d :: l' => if d = 10 then getL q f l' out (n + 2) else match escL (d :: l') with
        | none => none
        | some (b, k) => getL q f (l.drop k) (out ++ [UInt8.ofNat b]) (n + 1 + k)
end Go.Proofs.YtohfgfmekciekaaDoor.Nam
