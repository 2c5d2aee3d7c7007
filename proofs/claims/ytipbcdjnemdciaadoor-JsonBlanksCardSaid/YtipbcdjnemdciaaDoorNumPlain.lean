/- What num.Parse reads, in plain words. -/
import Derived.Lib.AtoiAll
namespace Go.Proofs.YtipbcdjnemdciaaDoor.Np

/-- A digit. -/
def dig (c : UInt8) : Bool := decide (48 ≤ c.toNat ∧ c.toNat ≤ 57)
/-- Behind the sign. -/
def bare (l : List UInt8) : List UInt8 := if l.head? = some 45 then l.tail else l
/-- How strconv's end is told. -/
def told : Lib.NumEnd Int → Int × Int
  | .ok v => if -4611686018427387903 ≤ v ∧ v ≤ 4611686018427387903 then (v, 0) else (0, 10)
  | _ => (0, 10)
/-- An end that is no misspelling. -/
def spelt : Lib.NumEnd Int → Bool
  | .ok _ => true
  | .range => true
  | _ => false
/-- What num.Parse answers. -/
def parseG (l : List UInt8) : Int × Int :=
  if bare l = [] then (0, 11) else if (bare l).head? = some 48 ∧ l ≠ [48] then (0, 11)
  else if (bare l).all dig then told (Lib.atoiAll l) else (0, 11)

end Go.Proofs.YtipbcdjnemdciaaDoor.Np
