/- ere, plain: what the program's reader computes. No program in sight. -/
import Derived.Test.YtjgjmpophpifgaaLp
import Derived.Lib.IndexMore
set_option linter.unusedVariables false
set_option linter.unusedSimpArgs false
namespace Go.AD.Lx
/-- A tree. -/
inductive ETree where
  | mk (op set : Bytes) (kids : List ETree) (lo hi : Int)
namespace ETree
def op : ETree → Bytes | mk a _ _ _ _ => a
def set : ETree → Bytes | mk _ a _ _ _ => a
def kids : ETree → List ETree | mk _ _ a _ _ => a
def lo : ETree → Int | mk _ _ _ a _ => a
def hi : ETree → Int | mk _ _ _ _ a => a
end ETree
def eSet : Bytes := [115, 101, 116]
def eBol : Bytes := [98, 111, 108]
def eEol : Bytes := [101, 111, 108]
def eCat : Bytes := [99, 97, 116]
def eAlt : Bytes := [97, 108, 116]
def eRep : Bytes := [114, 101, 112]
/-- A set of bytes. -/
abbrev BSet := Nat → Bool
def noB : BSet := fun _ => false
def putB (b : BSet) (i j : Nat) : BSet := fun k => b k || (decide (i ≤ k) && decide (k ≤ j))
def textB (b : BSet) (x : Bool) : Bytes := ((List.range 256).filter fun k => b k == x).map UInt8.ofNat
def upB (g : UInt8) (c : UInt8) : Bool := decide (48 ≤ c.toNat) && decide (c.toNat ≤ g.toNat)
def digN (g : UInt8) (most : Nat) (s : Bytes) : Nat := min (spanL (upB g) s) most
def escE (s : Bytes) : Except Nat (UInt8 × Bytes) :=
  if s = [] then .error 4
  else if 0 < digN 55 3 s then .ok (UInt8.ofNat (octVal (s.take (digN 55 3 s)) 0), s.drop (digN 55 3 s))
  else .ok (if 0 ≤ Lib.indexByte lPlain (s.getD 0 0) then UInt8.ofNat (7 + (Lib.indexByte lPlain (s.getD 0 0)).toNat) else s.getD 0 0, s.drop 1)
def endsE (n : Bytes) : Bytes :=
  if n = [97, 108, 112, 104, 97] then [65, 90, 97, 122]
  else if n = [100, 105, 103, 105, 116] then [48, 57]
  else if n = [97, 108, 110, 117, 109] then [48, 57, 65, 90, 97, 122]
  else if n = [117, 112, 112, 101, 114] then [65, 90]
  else if n = [108, 111, 119, 101, 114] then [97, 122]
  else if n = [115, 112, 97, 99, 101] then [9, 13, 32, 32]
  else if n = [98, 108, 97, 110, 107] then [9, 9, 32, 32]
  else if n = [112, 117, 110, 99, 116] then [33, 47, 58, 64, 91, 96, 123, 126]
  else if n = [112, 114, 105, 110, 116] then [32, 126]
  else if n = [103, 114, 97, 112, 104] then [33, 126]
  else if n = [99, 110, 116, 114, 108] then [0, 31, 127, 127]
  else if n = [120, 100, 105, 103, 105, 116] then [48, 57, 65, 70, 97, 102]
  else []
def putsB : Bytes → BSet → BSet
  | i :: j :: r, b => putsB r (putB b i.toNat j.toNat)
  | _, b => b
def itemE (s : Bytes) (b : BSet) : Except Nat (Option UInt8 × Bytes × BSet) :=
  if Lib.hasPrefix s [91, 58] = true then
    (if (Lib.cut (s.drop 2) [58, 93]).2.2 = true ∧ endsE (Lib.cut (s.drop 2) [58, 93]).1 ≠ [] then .ok (none, (Lib.cut (s.drop 2) [58, 93]).2.1, putsB (endsE (Lib.cut (s.drop 2) [58, 93]).1) b) else .error 2)
  else if Lib.hasPrefix s [92] = true then (match escE (s.drop 1) with
    | .error n => .error n
    | .ok (c, r) => .ok (some c, r, b))
  else .ok (some (s.getD 0 0), s.drop 1, b)
def setL : Nat → Bool → Bytes → BSet → Except Nat (Bytes × BSet)
  | 0, _, _, _ => .error 2
  | f + 1, first, s, b =>
    if first = false ∧ Lib.hasPrefix s [93] = true then .ok (s.drop 1, b)
    else if s = [] then .error 2
    else match itemE s b with
      | .error n => .error n
      | .ok (fr, s1, b1) =>
        if 1 < s1.length ∧ (s1.getD 0 0).toNat = 45 ∧ (s1.getD 1 0).toNat ≠ 93 then (match fr with
          | none => .error 2
          | some c => match itemE (s1.drop 1) noB with
            | .error n => .error n
            | .ok (none, _, _) => .error 2
            | .ok (some t, s2, _) => if t.toNat < c.toNat then .error 2 else setL f false s2 (putB b1 c.toNat t.toNat))
        else match fr with
          | none => setL f false s1 b1
          | some c => setL f false s1 (putB b1 c.toNat c.toNat)
def setE (s : Bytes) : Except Nat (ETree × Bytes) :=
  match setL (s.length + 1) true (if Lib.hasPrefix s [94] = true then s.drop 1 else s) noB with
  | .error n => .error n
  | .ok (r, b) => .ok (.mk eSet (textB b (!Lib.hasPrefix s [94])) [] 0 0, r)
def countL : Bytes → Nat → Except Nat Nat
  | [], n => .ok n
  | c :: t, n => if 255 < n * 10 + (c.toNat - 48) then .error 3 else countL t (n * 10 + (c.toNat - 48))
def ivHi (t : Bytes) : Except Nat Int := if t = [] then .ok (-1) else match countL t 0 with
  | .error n => .error n
  | .ok h => .ok (h : Nat)
def ivEnd (lo to s : Bytes) : Except Nat ((Int × Int) × Bytes) := match countL lo 0 with
  | .error n => .error n
  | .ok a => match ivHi to with
    | .error n => .error n
    | .ok h => if Lib.hasPrefix s [125] = true ∧ ¬ (0 ≤ h ∧ h < (a : Int)) then .ok (((a : Nat), h), s.drop 1) else .error 3
/-- An interval, behind its brace. -/
def intervalE (s : Bytes) : Except Nat ((Int × Int) × Bytes) :=
  if Lib.hasPrefix (s.drop (digN 57 s.length s)) [44] = true then
    ivEnd (s.take (digN 57 s.length s)) (((s.drop (digN 57 s.length s)).drop 1).take (digN 57 ((s.drop (digN 57 s.length s)).drop 1).length ((s.drop (digN 57 s.length s)).drop 1))) (((s.drop (digN 57 s.length s)).drop 1).drop (digN 57 ((s.drop (digN 57 s.length s)).drop 1).length ((s.drop (digN 57 s.length s)).drop 1)))
  else ivEnd (s.take (digN 57 s.length s)) (s.take (digN 57 s.length s)) (s.drop (digN 57 s.length s))
def repE (s : Bytes) : Except Nat (Option (Int × Int) × Bytes) :=
  if Lib.hasPrefix s [42] = true then .ok (some (0, -1), s.drop 1)
  else if Lib.hasPrefix s [43] = true then .ok (some (1, -1), s.drop 1)
  else if Lib.hasPrefix s [63] = true then .ok (some (0, 1), s.drop 1)
  else if 1 < s.length ∧ (s.getD 0 0).toNat = 123 ∧ digitB (s.getD 1 0) = true then (match intervalE (s.drop 1) with
    | .error n => .error n
    | .ok (x, r) => .ok (some x, r))
  else .ok (none, s)
def joinedE (op : Bytes) (l : List ETree) : ETree := match l with
  | [e] => e
  | l => .mk op [] l 0 0
/-- Repeats behind an atom. -/
def repsE : Nat → Bytes → ETree → Except Nat (ETree × Bytes)
  | 0, _, _ => .error 3
  | f + 1, s, e => match repE s with
    | .error n => .error n
    | .ok (none, r) => .ok (e, r)
    | .ok (some (lo, hi), r) => repsE f r (.mk eRep [] [e] lo hi)
mutual
/-- The reader: what is left. 'f': fuel, above three times the length. 'd': how deep. -/
def atomE : Nat → Nat → Bytes → Except Nat (ETree × Bytes)
  | 0, _, _ => .error 0
  | f + 1, d, s => if (s.getD 0 0).toNat = 40 then (if 100 < d + 1 then .error 1 else match branchesE f (d + 1) (s.drop 1) with
      | .error n => .error n
      | .ok (e, r) => if Lib.hasPrefix r [41] = true then .ok (e, r.drop 1) else .error 1)
    else if (s.getD 0 0).toNat = 91 then setE (s.drop 1)
    else if (s.getD 0 0).toNat = 94 then .ok (.mk eBol [] [] 0 0, s.drop 1)
    else if (s.getD 0 0).toNat = 36 then .ok (.mk eEol [] [] 0 0, s.drop 1)
    else if (s.getD 0 0).toNat = 46 then .ok (.mk eSet (textB noB false) [] 0 0, s.drop 1)
    else if (s.getD 0 0).toNat = 92 then (match escE (s.drop 1) with
      | .error n => .error n
      | .ok (c, r) => .ok (.mk eSet [c] [] 0 0, r))
    else .ok (.mk eSet [s.getD 0 0] [] 0 0, s.drop 1)
def piecesE : Nat → Nat → Bytes → List ETree → Except Nat (ETree × Bytes)
  | 0, _, _, _ => .error 0
  | f + 1, d, s, l => if s = [] ∨ (s.getD 0 0).toNat = 124 ∨ (s.getD 0 0).toNat = 41 then .ok (joinedE eCat l, s)
    else match repE s with
      | .error n => .error n
      | .ok (some _, _) => .error 3
      | .ok (none, _) => match atomE f d s with
        | .error n => .error n
        | .ok (e, r) => match repsE (r.length + 1) r e with
          | .error n => .error n
          | .ok (e', r') => piecesE f d r' (l ++ [e'])
def branchesE : Nat → Nat → Bytes → Except Nat (ETree × Bytes)
  | 0, _, _ => .error 0
  | f + 1, d, s => match piecesE f d s [] with
    | .error n => .error n
    | .ok (e, r) => altsE f d r [e]
def altsE : Nat → Nat → Bytes → List ETree → Except Nat (ETree × Bytes)
  | 0, _, _, _ => .error 0
  | f + 1, d, s, l => if Lib.hasPrefix s [124] = true then (match piecesE f d (s.drop 1) [] with
      | .error n => .error n
      | .ok (e, r) => altsE f d r (l ++ [e]))
    else .ok (joinedE eAlt l, s)
end
def groupE (f d : Nat) (s : Bytes) : Except Nat (ETree × Bytes) := if 100 < d + 1 then .error 1 else match branchesE f (d + 1) s with
  | .error n => .error n
  | .ok (e, r) => if Lib.hasPrefix r [41] = true then .ok (e, r.drop 1) else .error 1
end Go.AD.Lx
