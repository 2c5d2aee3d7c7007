/- What json.Parse reads, in plain words: over the bytes that are left and the place where they begin. -/
import Derived.Test.YtipbcdjnemdciaaDoorPShx0
import Derived.Test.YtipbcdjnemdciaaDoorNumPlain
import Derived.Lib.SpaceU
import Derived.Lib.AtoiAll
import Derived.Lib.SlicesS
import Derived.Lib.RuneBytes
namespace Go.Proofs.YtipbcdjnemdciaaDoor.Js
open Go.RowKit Go.Proofs.YtipbcdjnemdciaaDoor.PSh Go.Proofs.YtipbcdjnemdciaaDoor.Np Go.Lib

/-- Read, with what is left and its place; or a fault, its place and its number. -/
inductive R (α : Type) where
  | ok (l : List UInt8) (p : Nat) (v : α)
  | no (p : Nat) (e : Int)
def R.bind {α β : Type} (r : R α) (f : List UInt8 → Nat → α → R β) : R β := match r with
  | .ok l p v => f l p v
  | .no p e => .no p e
theorem R.bind_ok {α β : Type} (l : List UInt8) (p : Nat) (v : α) (f : List UInt8 → Nat → α → R β) : (R.ok l p v).bind f = f l p v := rfl
theorem R.bind_no {α β : Type} (p : Nat) (e : Int) (f : List UInt8 → Nat → α → R β) : (R.no p e : R α).bind f = .no p e := rfl

def blank (c : UInt8) : Bool := c == 32 || c == 9 || c == 10 || c == 13
/-- How many blanks stand ahead. -/
def gapLen : List UInt8 → Nat
  | [] => 0
  | c :: r => if blank c = true then gapLen r + 1 else 0
/-- The byte behind blanks; it stays. -/
def here (l : List UInt8) (p : Nat) : R UInt8 := match l.drop (gapLen l) with
  | [] => .no (p + gapLen l) 21
  | c :: r => .ok (c :: r) (p + gapLen l) c
/-- A word, letter by letter. -/
def word : List UInt8 → List UInt8 → Nat → R Unit
  | [], l, p => .ok l p ()
  | _ :: _, [], p => .no p 21
  | c :: v, x :: l, p => if x = c then word v l (p + 1) else .no p 22
def numByte (c : UInt8) : Bool := c == 45 || c == 43 || c == 46 || c == 101 || c == 69 || (decide (48 ≤ c.toNat) && decide (c.toNat ≤ 57))
def numLen : List UInt8 → Nat
  | [] => 0
  | c :: r => if numByte c = true then numLen r + 1 else 0
def number (l : List UInt8) (p : Nat) : R Int :=
  if (parseG (l.take (numLen l))).2 = 0 then .ok (l.drop (numLen l)) (p + numLen l) (parseG (l.take (numLen l))).1 else .no p 25
/-- A hexadecimal digit's number. -/
def digit (c : UInt8) : Option Nat :=
  if 48 ≤ c.toNat ∧ c.toNat ≤ 57 then some (c.toNat - 48) else if 97 ≤ c.toNat ∧ c.toNat ≤ 102 then some (c.toNat - 87) else if 65 ≤ c.toNat ∧ c.toNat ≤ 70 then some (c.toNat - 55) else none
/-- So many digits; faults are told at 'fr'. -/
def hex : Nat → List UInt8 → Nat → Nat → Nat → R Nat
  | 0, l, p, _, n => .ok l p n
  | _ + 1, [], p, _, _ => .no p 21
  | k + 1, c :: r, p, fr, n => match digit c with
    | none => .no fr 24
    | some d => hex k r (p + 1) fr (16 * n + d)
/-- What stands behind a backslash, by one letter. -/
def mark (c : UInt8) : Option Nat :=
  if c = 34 ∨ c = 92 ∨ c = 47 then some c.toNat else if c = 98 then some 8 else if c = 102 then some 12 else if c = 110 then some 10 else if c = 114 then some 13 else if c = 116 then some 9 else none
def half (l : List UInt8) (p fr : Nat) : R Nat := match l with
  | [] => .no p 21
  | [_] => .no (p + 1) 21
  | _ :: c :: r => match mark c with
    | some n => .ok r (p + 2) n
    | none => if c = 117 then hex 4 r (p + 2) fr 0 else .no fr 24
def escape (l : List UInt8) (p : Nat) : R Nat := (half l p p).bind fun l1 p1 n =>
  if 56320 ≤ n ∧ n ≤ 57343 then .no p 24
  else if n < 55296 ∨ 56319 < n then .ok l1 p1 n
  else if l1.head? = some 92 ∧ l1.tail.head? = some 117 then (half l1 p1 p).bind fun l2 p2 m => if m < 56320 ∨ 57343 < m then .no p 24 else .ok l2 p2 (65536 + (n - 55296) * 1024 + (m - 56320))
  else .no p 24
/-- A string's inner part, up to the quote behind it. -/
def textGo : Nat → List UInt8 → Nat → List UInt8 → R (List UInt8)
  | 0, _, p, _ => .no p (-1)
  | _ + 1, [], p, _ => .no p 21
  | f + 1, c :: r, p, out =>
    if c = 34 then .ok r (p + 1) out
    else if c.toNat < 32 then .no p 22
    else if c = 92 then (escape (c :: r) p).bind fun l1 p1 n => textGo f l1 p1 (out ++ encodeRune n)
    else if decodeL (c :: r) = (65533, 1) then .no p 23
    else textGo f ((c :: r).drop (decodeL (c :: r)).2) (p + (decodeL (c :: r)).2) (out ++ (c :: r).take (decodeL (c :: r)).2)
def text (l : List UInt8) (p : Nat) : R (List UInt8) := textGo (l.length + 1) l p []
/-- A value more, if there is room: the tree and the value's place. -/
def put (t : List S39) (fr : Nat) (v : S39) (l : List UInt8) (p : Nat) : R (List S39 × Int) := if 8192 ≤ t.length then .no fr 27 else .ok l p (t ++ [v], (t.length : Int))
/-- Behind a kid: is it the last one? -/
def more (fin : UInt8) (l : List UInt8) (p : Nat) : R Bool := (here l p).bind fun l1 p1 c => if c = 44 ∨ c = fin then .ok l1.tail (p1 + 1) (c == fin) else .no p1 22
def str (l : List UInt8) : ByteArray := ⟨l.toArray⟩
mutual
def value : Nat → Nat → List UInt8 → Nat → List S39 → R (List S39 × Int)
  | 0, _, _, p, _ => .no p (-1)
  | f + 1, deep, l0, p0, t => (here l0 p0).bind fun l p c =>
    if c = 110 then (word [110, 117, 108, 108] l p).bind fun l1 p1 _ => put t p ⟨1, false, 0, ⟨#[]⟩, [], []⟩ l1 p1
    else if c = 116 then (word [116, 114, 117, 101] l p).bind fun l1 p1 _ => put t p ⟨2, true, 0, ⟨#[]⟩, [], []⟩ l1 p1
    else if c = 102 then (word [102, 97, 108, 115, 101] l p).bind fun l1 p1 _ => put t p ⟨2, false, 0, ⟨#[]⟩, [], []⟩ l1 p1
    else if c = 34 then (text l.tail (p + 1)).bind fun l1 p1 s => put t p ⟨4, false, 0, str s, [], []⟩ l1 p1
    else if c = 45 ∨ (48 ≤ c.toNat ∧ c.toNat ≤ 57) then (number l p).bind fun l1 p1 n => put t p ⟨3, false, n, ⟨#[]⟩, [], []⟩ l1 p1
    else if c = 91 ∨ c = 123 then
      if 16 ≤ deep then .no p 26
      else if c = 91 then (here l.tail (p + 1)).bind fun l1 p1 c1 => if c1 = 93 then put t p ⟨5, false, 0, ⟨#[]⟩, [], []⟩ l1.tail (p1 + 1) else list f deep p [] l1 p1 t
      else (here l.tail (p + 1)).bind fun l1 p1 c1 => if c1 = 125 then put t p ⟨6, false, 0, ⟨#[]⟩, [], []⟩ l1.tail (p1 + 1) else object f deep p [] [] l1 p1 t
    else .no p 22
def list : Nat → Nat → Nat → List Int → List UInt8 → Nat → List S39 → R (List S39 × Int)
  | 0, _, _, _, _, p, _ => .no p (-1)
  | f + 1, deep, fr, kids, l, p, t => (value f (deep + 1) l p t).bind fun l1 p1 v => (more 93 l1 p1).bind fun l2 p2 done =>
    if done = true then put v.1 fr ⟨5, false, 0, ⟨#[]⟩, [], kids ++ [v.2]⟩ l2 p2 else list f deep fr (kids ++ [v.2]) l2 p2 v.1
def object : Nat → Nat → Nat → List ByteArray → List Int → List UInt8 → Nat → List S39 → R (List S39 × Int)
  | 0, _, _, _, _, _, p, _ => .no p (-1)
  | f + 1, deep, fr, names, kids, l0, p0, t => (here l0 p0).bind fun l p c =>
    if c = 34 then (text l.tail (p + 1)).bind fun l1 p1 s =>
      if containsS names (str s) = true then .no p 28
      else (here l1 p1).bind fun l2 p2 c2 =>
        if c2 = 58 then (value f (deep + 1) l2.tail (p2 + 1) t).bind fun l3 p3 v => (more 125 l3 p3).bind fun l4 p4 done =>
          if done = true then put v.1 fr ⟨6, false, 0, ⟨#[]⟩, names ++ [str s], kids ++ [v.2]⟩ l4 p4 else object f deep fr (names ++ [str s]) (kids ++ [v.2]) l4 p4 v.1
        else .no p2 22
    else .no p 22
end
/-- Of a whole text: the tree; or the place and the number of the first fault. -/
def parse (b : List UInt8) : R (List S39) :=
  if 65536 < b.length then .no 65536 20
  else (value (2 * b.length + 2) 0 b 0 []).bind fun l p v => if l.drop (gapLen l) = [] then .ok [] 0 v.1 else .no (p + gapLen l) 22

end Go.Proofs.YtipbcdjnemdciaaDoor.Js
