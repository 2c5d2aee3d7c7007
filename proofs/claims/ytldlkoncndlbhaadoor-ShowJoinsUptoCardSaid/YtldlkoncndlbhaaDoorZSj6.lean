/- YtldlkoncndlbhaaDoorZSj6: texts of the seat (Print, PShx3), one behind the other, without what this claim's theorem does not rest on. -/
import Derived.Test.YtldlkoncndlbhaaDoorZSj5

set_option linter.unusedVariables false
set_option linter.unusedSimpArgs false
namespace Go.Proofs.YtldlkoncndlbhaaDoor.Wr
open Go.RowKit Go.Proofs.YtldlkoncndlbhaaDoor.Utf Go.Proofs.YtldlkoncndlbhaaDoor.Bu Go.Proofs.YtldlkoncndlbhaaDoor.Tx Go.Proofs.YtldlkoncndlbhaaDoor.PSh Go.Lib Go.Proofs.YtldlkoncndlbhaaDoorW.PrintWords Go.Proofs.YtldlkoncndlbhaaDoorW.PrintLast Go.Proofs.YtldlkoncndlbhaaDoorW.PrintMore
/-- The bytes of a text, as whole numbers. -/
def numsOf (t : List UInt8) : List Int := t.map fun b => (b.toNat : Int)
theorem bytesOf_mk (t : List UInt8) : bytesOf ⟨t.toArray⟩ = numsOf t := rfl
theorem size_mk (t : List UInt8) : (⟨t.toArray⟩ : ByteArray).size = t.length := List.size_toArray
/-- The text that Print gives. -/
def textOf (l : List S39) : List UInt8 := txt l l.length ((l.length : Int) - 1)
set_option maxHeartbeats 4000000 in
set_option maxRecDepth 100000 in
theorem print_walk (k : Nat) (l : List S39) (A : Option Addr) (cp : Nat) (r : Int) (w : World) (hG : Aside0 (Glob w)) (hr : Kd.C k39 w A l.length l) (hc : l.length ≤ cp) (hcap : l.length ≤ 1048576)
    (h : show_Check.f k l = some r) (hok : r = 0 → 0 < l.length ∧ Tree l ∧ Sized l ∧ (textOf l).length ≤ 140737488355328) :
    Calls Tryd.prog 14 #[.slice A l.length cp] w fun e w' => ∃ (A' : Option Addr) (c' : Nat) (t : List UInt8), e = .returned (.tuple #[.slice A' t.length c', .int .i64 r]) ∧ ReadsInt w' .u8 A' t.length (numsOf t) ∧ Below w.heap.size w w' ∧ t = if r = 0 then textOf l else [] := by
  have hck := show_Check.calls k A cp l r w hG hr hc h
  by_cases h0 : r = 0
  · obtain ⟨hl, ht, hs, hx⟩ := hok h0
    subst h0
    go_enter Tryd.func14, Tryd.ntmps14
    go_wp2_with (first
      | (go_at_call 11; refine hck.mono ?_; rintro e w2 ⟨rfl, hb2⟩; have hr2 := Kd.C_below hr hb2; have hG2 := hG.out.below hb2; have hS : St w2 (w2.alloc (Obj.cells #[.pointer none, .slice none 0 0] 51)) w2.heap.size [] (w2.alloc (Obj.cells #[.pointer none, .slice none 0 0] 51)) := ⟨fresh_isBuilder 51 5 w2, below_alloc (Below.refl _ _) _, OthersKept.refl _ _ _⟩)
      | (go_at_call 25; refine (write_walk l A cp w2 w2.heap.size hr2 hG2 ht hs l.length ((l.length : Int) - 1) (by omega) (by omega) (by omega) [] _ _ hS (by rw [List.length_nil, Nat.zero_add]; exact hx)).mono ?_; rintro e w3 ⟨rfl, hS3⟩; clear hS; have hS : St w2 _ w2.heap.size (textOf l) w3 := hS3; clear hS3)
      | (go_at_call 26; refine (Tryd.Builder_String_any w2.heap.size w2.heap.size (textOf l) _ hS.1 hS.2.1.size).mono ?_; rintro e w4 ⟨rfl, hb4⟩; have hcv := print_bytes (P := Tryd.prog) 9 30 5 Tryd.underlying9 Tryd.underlying30 Tryd.underlying5 ⟨(textOf l).toArray⟩ w4))
    go_ret2
    have hb24 := hS.2.1.trans hb4
    refine ⟨some ⟨w4.heap.size, 0, none⟩, grownCap w4 (textOf l).length 0 5, textOf l, ?_, ?_, ?_, rfl⟩
    · rfl
    · have := bytes_reads w4 5 ⟨(textOf l).toArray⟩ (by rw [size_mk]; omega)
      rw [size_mk, bytesOf_mk] at this
      exact this
    · exact bytes_below (hb2.trans (hb24.mono hb2.size)) (Nat.le_trans hb2.size hb24.size) _ _
  · have hn : (r != 0) = true := bne_iff_ne.2 h0
    go_enter Tryd.func14, Tryd.ntmps14
    go_wp2_with (first
      | (go_at_call 11; refine hck.mono ?_; rintro e w2 ⟨rfl, hb2⟩))
    go_ret2
    exact ⟨none, 0, [], rfl, ⟨rfl, by simp, fun h => absurd h (Nat.lt_irrefl 0)⟩, hb2, by simp [h0]⟩
end Go.Proofs.YtldlkoncndlbhaaDoor.Wr
-- Laid by wip/mk/mk.py of this session (the kit's printer with this session's contracts for library functions).
namespace Go.Proofs.YtldlkoncndlbhaaDoor.PSh
open Go.RowKit Go.Proofs.YtldlkoncndlbhaaDoorW.PrintWords Go.Proofs.YtldlkoncndlbhaaDoorW.PrintLast Go.Proofs.YtldlkoncndlbhaaDoorW.PrintMore
attribute [local go_sem] max2_int min2_int max_two min_two max_three min_three max_four min_four   -- for this text's walks alone
set_option linter.unusedVariables false
set_option linter.unusedSimpArgs false
/-! ### haulierref01_Fits: function 40 -/
def haulierref01_Fits.f (a0 : Int) : Option (Bool) := if a0 ≥ (-4611686018427387903) then (some (decide (a0 ≤ 4611686018427387903))) else (some false)
set_option maxHeartbeats 8000000 in
set_option maxRecDepth 100000 in
theorem haulierref01_Fits.calls (a0 : Int) (r : Bool) (w : World) (hG : Aside0 (Glob w)) (h : haulierref01_Fits.f a0 = some r) :
    Calls Tryd.prog 40 #[.int .i64 a0] w fun e w' => e = .returned (.bool r) ∧ Drawn0 w w' := by
  have H : (if a0 ≥ (-4611686018427387903) then (some (decide (a0 ≤ 4611686018427387903))) else (some false)) = some r := h
  clear h
  by_cases c2 : a0 ≥ (-4611686018427387903)
  · rw [if_pos c2] at H
    have c2b0 : decide ((-4611686018427387903) ≤ a0) = true := decide_eq_true c2
    clear c2
    obtain rfl := Option.some.inj H
    go_enter Tryd.func40, Tryd.ntmps40
    go_wp2
    go_ret
    exact ⟨by first | rfl | (simp; done) | (simp [*]; done), by repeat (first | exact Drawn0.refl _ | apply Drawn0.step)⟩
  · rw [if_neg c2] at H
    have c2b0 : decide ((-4611686018427387903) ≤ a0) = false := decide_eq_false c2
    clear c2
    obtain rfl := Option.some.inj H
    go_enter Tryd.func40, Tryd.ntmps40
    go_wp2
    go_ret
    exact ⟨by first | rfl | (simp; done) | (simp [*]; done), by repeat (first | exact Drawn0.refl _ | apply Drawn0.step)⟩
end Go.Proofs.YtldlkoncndlbhaaDoor.PSh
