/- What the package-level table holds; and the contract of math/bits.TrailingZeros64 over it, walked by hand. -/
import Derived.Test.YtielkcpbojcbhaaDoorProg
import Derived.Test.YtielkcpbojcbhaaDoorWWords
import Derived.Test.YtielkcpbojcbhaaDoorWMore
import Derived.WalkKit
import Derived.KernelRfl
import Derived.Laws.Bits64b
import Derived.Lib.TrailingZeros
namespace Go.Proofs.YtielkcpbojcbhaaDoor.PSk
open Go.RowKit Go.Proofs.YtielkcpbojcbhaaDoorW.PrintWords

/-- The table of math/bits lies in its variable. -/
def Glob (w : World) : Prop := ∀ j, j < Lib.deBruijn64tab.length → w.cell? ⟨0, j, none⟩ = some (.int .u8 (Lib.deBruijn64tab.getD j 0))
theorem Glob.below {w w' : World} (h : Glob w) (hb : Below w.heap.size w w') : Glob w' := fun j hj => pw_cell_below hb (h j hj)
theorem Glob.drewN {w : World} (h : Glob w) (n : Nat) : Glob (w.drewN n) := h.below (pw_below_drewN (Below.refl _ _) n)
theorem Glob.drew {w : World} (h : Glob w) : Glob w.drew := h.below (below_drew (Below.refl _ _))

theorem wrap_u64' (n : Int) : IntKind.u64.wrap n = n % 18446744073709551616 := IntKind.wrap_u64 n
theorem tz64_key (x a : Nat) (hx : x < 18446744073709551616) (hx0 : x ≠ 0) (hlow : x &&& (18446744073709551616 - x) = a) :
    IntKind.u64.wrap (bits BinOp.and IntKind.u64 (x : Int) (IntKind.u64.wrap (-(x : Int))) * 285870213051353865) / 288230376151711744 = ((a * 285870213051353865 % 18446744073709551616 / 288230376151711744 : Nat) : Int) := by
  have e1 : IntKind.u64.wrap (-(x : Int)) = ((18446744073709551616 - x : Nat) : Int) := by rw [IntKind.wrap_u64]; omega
  rw [e1, bits_and_u64_nat x _ hx (by omega), hlow, IntKind.wrap_u64]
  omega

set_option maxHeartbeats 1000000 in
theorem tz64_core (x k idx : Nat) (w : World) (hx0 : ((x : Int) == 0) = false)
    (key : IntKind.u64.wrap (bits BinOp.and IntKind.u64 (x : Int) (IntKind.u64.wrap (-(x : Int))) * 285870213051353865) / 288230376151711744 = (idx : Int))
    (hi : idx < 64) (hk : k < 64) (hcell : w.cell? ⟨0, idx, none⟩ = some (.int .u8 k)) :
    Calls Tryd.prog 14 #[.int .u64 x] w fun e w' => e = .returned (.int .i64 k) ∧ w' = w := by
  go_enter Tryd.func14, Tryd.ntmps14
  go_wp2_with (simp only [key])
  go_ret
  exact ⟨rfl, rfl⟩
theorem tz64_zero (w : World) :
    Calls Tryd.prog 14 #[.int .u64 0] w fun e w' => e = .returned (.int .i64 64) ∧ w' = w := by
  go_enter Tryd.func14, Tryd.ntmps14
  go_wp2
  go_ret
  exact ⟨rfl, rfl⟩

def bits_TrailingZeros64.f (a0 : Int) : Option Int := if 0 ≤ a0 ∧ a0 < 18446744073709551616 then some (Lib.ctz 64 a0.toNat : Nat) else none
theorem bits_TrailingZeros64.calls (a0 : Int) (r : Int) (w : World) (hG : Aside0 (Glob w)) (h : bits_TrailingZeros64.f a0 = some r) :
    Calls Tryd.prog 14 #[.int .u64 a0] w fun e w' => e = .returned (.int .i64 r) ∧ Drawn0 w w' := by
  unfold bits_TrailingZeros64.f at h
  by_cases hr : 0 ≤ a0 ∧ a0 < 18446744073709551616
  · rw [if_pos hr] at h
    obtain rfl := Option.some.inj h
    obtain ⟨x, rfl⟩ := Int.eq_ofNat_of_zero_le hr.1
    have hx : x < 18446744073709551616 := by omega
    rw [Int.toNat_natCast]
    by_cases hx0 : x = 0
    · subst hx0
      exact (tz64_zero w).mono fun e w' ⟨he, hw⟩ => ⟨he, hw ▸ Drawn0.refl _⟩
    · obtain ⟨hlow, hk⟩ := Lib.lowest_bit 64 x hx0 hx
      obtain ⟨hi, htab⟩ := Lib.deBruijn64_at _ hk
      have hcell := hG.out _ hi
      rw [htab] at hcell
      exact (tz64_core x _ _ w (by simp; omega) (tz64_key x _ hx hx0 hlow) hi hk hcell).mono fun e w' ⟨he, hw⟩ => ⟨he, hw ▸ Drawn0.refl _⟩
  · rw [if_neg hr] at h
    cases h

end Go.Proofs.YtielkcpbojcbhaaDoor.PSk
