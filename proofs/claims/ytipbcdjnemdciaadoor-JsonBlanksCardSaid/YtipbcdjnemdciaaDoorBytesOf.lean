/- What can be read as a slice of bytes is one: the step from the row's reading to the walk's. -/
import Derived.Test.YtipbcdjnemdciaaDoorRows
import Derived.Test.YtipbcdjnemdciaaDoorRw
import Derived.ChangeSlices
set_option linter.unusedVariables false
set_option linter.unusedSimpArgs false
namespace Go.Proofs.YtipbcdjnemdciaaDoor.Js
open Go.ChangeShapes Go.WideShapes Go.RowKit Go.Lib Go.Proofs.YtipbcdjnemdciaaDoorW.PrintWords Go.Proofs.YtipbcdjnemdciaaDoorW.PrintLast Go.Proofs.YtipbcdjnemdciaaDoorW.PrintMore

/-- A slice that was given: bytes that lie there; it has an address if it has a byte, or it is nil. -/
def Gvn (w : World) (A : Option Addr) (xs : List UInt8) (c : Nat) : Prop := xs.length ≤ c ∧ c ≤ 9223372036854775807 ∧ ReadsInt w .u8 A xs.length (bytesOf (str xs)) ∧ (A = none → c = 0)
theorem Gvn.below {w w' : World} {A : Option Addr} {xs : List UInt8} {c : Nat} (h : Gvn w A xs c) (hb : Below w.heap.size w w') : Gvn w' A xs c := ⟨h.1, h.2.1, h.2.2.1.below hb, h.2.2.2⟩
theorem bytes_of {H : Type} {enc : TypeId × Value → H} {W : World} {base : Nat} {spare : Nat → Bool} {held : Bool} {fuel : Nat} {cs : List Value} {x : DataW H × List MemPlace} (h : DataW.trod enc Tryd.prog W base spare held fuel 22 cs = some x) :
    ∃ (A : Option Addr) (c : Nat) (xs : List UInt8), cs = [.slice A xs.length c] ∧ Gvn W A xs c := by
  rcases open_ints Tryd.underlying22 Tryd.underlying5 (by kernel_rfl) h with ⟨rfl, rfl⟩ | ⟨a, len, cap, zs, rfl, _, hl, hm, hlen, rfl, hcell, hwf⟩
  · exact ⟨none, 0, [], rfl, Nat.le_refl _, by decide, ⟨rfl, by decide, fun h => absurd h (Nat.lt_irrefl 0)⟩, fun _ => rfl⟩
  · have hls : len ≤ zs.length := by rw [hlen]; split <;> omega
    have hlt : ((zs.take len).map fun z => UInt8.ofNat z.toNat).length = len := by rw [List.length_map, List.length_take]; omega
    have hm' : cap ≤ 9223372036854775807 := hm
    refine ⟨some a, cap, (zs.take len).map fun z => UInt8.ofNat z.toNat, by rw [hlt], by rw [hlt]; exact hl, hm', ?_, fun h => by cases h⟩
    rw [hlt]
    have hb : bytesOf (str ((zs.take len).map fun z => UInt8.ofNat z.toNat)) = (zs.take len) := by
      show List.map (fun b : UInt8 => (b.toNat : Int)) ((zs.take len).map fun z => UInt8.ofNat z.toNat) = _
      rw [List.map_map]
      conv => rhs; rw [← List.map_id (zs.take len)]
      refine List.map_congr_left fun z hz => ?_
      have hw := hwf z (List.mem_of_mem_take hz)
      simp only [Lit.wf, Bool.and_eq_true, decide_eq_true_eq, IntKind.min, IntKind.max, IntKind.signed, IntKind.bits] at hw
      simp at hw
      show ((UInt8.ofNat z.toNat).toNat : Int) = z
      rw [UInt8.toNat_ofNat']
      omega
    rw [hb]
    refine ⟨by rw [List.length_take]; omega, by omega, fun _ => ⟨a, rfl, fun j hj => ?_⟩⟩
    rw [hcell j (by omega), List.getD_eq_getElem?_getD, List.getD_eq_getElem?_getD, List.getElem?_take, if_pos hj]
/-- The cells of a slice that was given. -/
theorem Gvn.cells {w : World} {ad : Addr} {xs : List UInt8} {c : Nat} (h : Gvn w (some ad) xs c) : ∀ j u, (byteCells xs)[j]? = some u → w.cell? (ad.add j) = some u := by
  intro j u hu
  unfold byteCells at hu
  rw [List.getElem?_map] at hu
  cases hx : xs[j]? with
  | none => rw [hx] at hu; cases hu
  | some b =>
    rw [hx] at hu
    have hj : j < xs.length := (List.getElem?_eq_some_iff.1 hx).1
    obtain ⟨ad', e, hc⟩ := h.2.2.1.2.2 (by omega)
    obtain rfl := Option.some.inj e
    rw [hc j hj]
    have : (bytesOf (str xs)).getD j 0 = (b.toNat : Int) := by
      show (List.map (fun b : UInt8 => (b.toNat : Int)) xs).getD j 0 = _
      rw [List.getD_eq_getElem?_getD, List.getElem?_map, hx]
      rfl
    rw [this]
    exact hu
/-- One byte of it. -/
theorem Gvn.at_ {w : World} {ad : Addr} {xs : List UInt8} {c : Nat} (h : Gvn w (some ad) xs c) (j : Nat) (hj : j < xs.length) : w.cell? (ad.add j) = some (.int .u8 (xs[j].toNat : Int)) :=
  h.cells j _ (by unfold byteCells; rw [List.getElem?_map, List.getElem?_eq_getElem hj]; rfl)
/-- The first bytes of it. -/
theorem Gvn.take {w : World} {ad : Addr} {xs : List UInt8} {c : Nat} (h : Gvn w (some ad) xs c) (n : Nat) : ∀ j u, (byteCells (xs.take n))[j]? = some u → w.cell? (ad.add j) = some u := by
  intro j u hu
  refine h.cells j u ?_
  unfold byteCells at hu ⊢
  rw [List.map_take] at hu
  rw [List.getElem?_take] at hu
  split at hu
  · exact hu
  · cases hu

end Go.Proofs.YtipbcdjnemdciaaDoor.Js
