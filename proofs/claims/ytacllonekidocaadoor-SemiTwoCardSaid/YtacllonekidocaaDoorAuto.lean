/- The JSON texts as an automaton, byte by byte. No program in sight. -/
set_option linter.unusedVariables false
namespace Go.Proofs.YtacllonekidocaaDoor.L

/-- The state: what is looked for (m: 0 a value, 1 and 2 what stands behind a bracket, 3 a key, 4 a colon, 5 what stands behind a value, 6 a string, 7 an escape, 8 a unit, 9 a word, 10 to 17 a number; k: is it a key?; n: the state of UTF-8, or how many digits; rest: of a word),
the open brackets (the last one ahead; true: an object's), how deep it was at most. -/
structure St where
  m : Nat
  k : Bool
  n : Nat
  rest : List Nat
  st : List Bool
  most : Nat

def blank (c : Nat) : Bool := c == 32 || c == 9 || c == 10 || c == 13
def digit (c : Nat) : Bool := decide (48 ≤ c) && decide (c ≤ 57)
def hexd (c : Nat) : Bool := (decide (48 ≤ c) && decide (c ≤ 57)) || (decide (97 ≤ c) && decide (c ≤ 102)) || (decide (65 ≤ c) && decide (c ≤ 70))

/-- utf: the state behind a scalar's first byte, and behind a byte; 8: dead. -/
def ufirst (b : Nat) : Nat :=
  if b < 128 then 0 else if 194 ≤ b ∧ b ≤ 223 then 1 else if b = 224 then 4 else if b = 237 then 5 else if 225 ≤ b ∧ b ≤ 239 then 2
  else if b = 240 then 6 else if 241 ≤ b ∧ b ≤ 243 then 3 else if b = 244 then 7 else 8
def ulow (u : Nat) : Nat := if u = 4 then 160 else if u = 6 then 144 else 128
def uhigh (u : Nat) : Nat := if u = 5 then 159 else if u = 7 then 143 else 191
def unext (u : Nat) : Nat := if u = 4 ∨ u = 5 then 1 else if u = 6 ∨ u = 7 then 2 else if u = 1 ∨ u = 2 ∨ u = 3 then u - 1 else 8
def ustep (u b : Nat) : Nat := if u = 0 then ufirst b else if b < ulow u ∨ uhigh u < b then 8 else unext u

/-- A bracket is opened; closed. -/
def openB (q : St) (t : Bool) : St := ⟨if t then 2 else 1, false, 0, [], t :: q.st, max q.most (q.st.length + 1)⟩
def closeB (q : St) : St := ⟨5, false, 0, [], q.st.tail, q.most⟩
def to (q : St) (m : Nat) : St := ⟨m, false, 0, [], q.st, q.most⟩
def toS (q : St) (m : Nat) (k : Bool) (n : Nat) : St := ⟨m, k, n, [], q.st, q.most⟩
def toL (q : St) (r : List Nat) : St := ⟨9, false, 0, r, q.st, q.most⟩

def stepBeh (q : St) (c : Nat) : Option St :=
  if blank c then some (to q 5)
  else match q.st with
    | [] => none
    | t :: _ => if c = 44 then some (to q (if t then 3 else 0)) else if (c = 93 ∧ t = false) ∨ (c = 125 ∧ t = true) then some (closeB q) else none
def stepVal (q : St) (c : Nat) : Option St :=
  if blank c then some (to q 0)
  else if c = 91 then some (openB q false) else if c = 123 then some (openB q true)
  else if c = 34 then some (toS q 6 false 0)
  else if c = 110 then some (toL q [117, 108, 108]) else if c = 116 then some (toL q [114, 117, 101]) else if c = 102 then some (toL q [97, 108, 115, 101])
  else if c = 45 then some (to q 10) else if c = 48 then some (to q 11) else if digit c then some (to q 12) else none
def stepKey (q : St) (c : Nat) : Option St := if blank c then some (to q 3) else if c = 34 then some (toS q 6 true 0) else none
def stepStr (q : St) (c : Nat) : Option St :=
  if q.n = 0 ∧ c < 32 then none else if q.n = 0 ∧ c = 34 then some (to q (if q.k then 4 else 5)) else if q.n = 0 ∧ c = 92 then some (toS q 7 q.k 0)
  else if 7 < ustep q.n c then none else some (toS q 6 q.k (ustep q.n c))
def stepEsc (q : St) (c : Nat) : Option St :=
  if c = 117 then some (toS q 8 q.k 4) else if c = 34 ∨ c = 92 ∨ c = 47 ∨ c = 98 ∨ c = 102 ∨ c = 110 ∨ c = 114 ∨ c = 116 then some (toS q 6 q.k 0) else none
def stepLit (q : St) (c : Nat) : Option St :=
  match q.rest with
  | [] => none
  | x :: r => if c = x then some (if r = [] then to q 5 else toL q r) else none

def delta (q : St) (c : Nat) : Option St :=
  match q.m with
  | 0 => stepVal q c
  | 1 => if blank c then some (to q 1) else if c = 93 then some (closeB q) else stepVal q c
  | 2 => if blank c then some (to q 2) else if c = 125 then some (closeB q) else stepKey q c
  | 3 => stepKey q c
  | 4 => if blank c then some (to q 4) else if c = 58 then some (to q 0) else none
  | 5 => stepBeh q c
  | 6 => stepStr q c
  | 7 => stepEsc q c
  | 8 => if hexd c then some (if q.n = 1 then toS q 6 q.k 0 else toS q 8 q.k (q.n - 1)) else none
  | 9 => stepLit q c
  | 10 => if c = 48 then some (to q 11) else if digit c then some (to q 12) else none
  | 11 => if c = 46 then some (to q 13) else if c = 101 ∨ c = 69 then some (to q 15) else stepBeh q c
  | 12 => if digit c then some (to q 12) else if c = 46 then some (to q 13) else if c = 101 ∨ c = 69 then some (to q 15) else stepBeh q c
  | 13 => if digit c then some (to q 14) else none
  | 14 => if digit c then some (to q 14) else if c = 101 ∨ c = 69 then some (to q 15) else stepBeh q c
  | 15 => if c = 43 ∨ c = 45 then some (to q 16) else if digit c then some (to q 17) else none
  | 16 => if digit c then some (to q 17) else none
  | 17 => if digit c then some (to q 17) else stepBeh q c
  | _ => none

/-- May a text end here? -/
def fin (q : St) : Bool := q.st.isEmpty && (q.m == 5 || q.m == 11 || q.m == 12 || q.m == 14 || q.m == 17)

/-- Some bytes lead from a state to a state. -/
def drive : St → List Nat → Option St
  | q, [] => some q
  | q, c :: l => match delta q c with
    | none => none
    | some q' => drive q' l
def start : St := ⟨0, false, 0, [], [], 0⟩

end Go.Proofs.YtacllonekidocaaDoor.L
