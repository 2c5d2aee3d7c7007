/- ShowChecks, the walk: of any tree of a size that can be read, the law answers true. -/
import Derived.Test.YtldlkoncndlbhaaDoorAwake
import Derived.Test.YtldlkoncndlbhaaDoorCopied
namespace Go.Proofs.YtldlkoncndlbhaaDoor.Pure
open Go.RowKit Go.Proofs.YtldlkoncndlbhaaDoor.PSh Go.Proofs.YtldlkoncndlbhaaDoor.Cp Go.Proofs.YtldlkoncndlbhaaDoor.Aw Go.Proofs.YtldlkoncndlbhaaDoorW.PrintWords Go.Proofs.YtldlkoncndlbhaaDoorW.PrintLast Go.Proofs.YtldlkoncndlbhaaDoorW.PrintMore
set_option linter.unusedSimpArgs false
set_option linter.unusedVariables false

set_option maxHeartbeats 4000000 in
set_option maxRecDepth 100000 in
theorem showChecks_walk (A : Option Addr) (c : Nat) (l : List S39) (w : World) (hG : Aside0 (Glob w)) (hr : Kd.C k39 w A l.length l) (hc : l.length ≤ c) (hz : Sz l)
    (hs : ∀ a : Int, 0 ≤ a → a < l.length → (rd_T39 l a).f4.length * 16 ≤ 140737488355328 ∧ (rd_T39 l a).f5.length * 8 ≤ 140737488355328) :
    Calls Tryd.prog 3 #[.slice A l.length c] w fun e w' => e = .returned (.bool true) ∧ Below w.heap.size w w' := by
  obtain ⟨K1, hK1⟩ := check_tells l hz
  have h1 : show_Check.f K1 l = some (checkOf l) := hK1 K1 (Nat.le_refl _)
  obtain ⟨K2, hK2⟩ := refcheck_tells l hz
  have h2 : haulierref03_Check.f K2 l = some (checkOf l) := hK2 K2 (Nat.le_refl _)
  clear hK1 hK2
  by_cases hbig : 9000 < l.length
  · have hb1 : ((l.length : Int) > 9000) = True := eq_true (by omega)
    have hb2 : decide ((9000 : Int) < (l.length : Int)) = true := decide_eq_true (by omega)
    have hb3 : decide (9000 < l.length) = true := decide_eq_true hbig
    go_enter Tryd.func3, Tryd.ntmps3
    go_wp2_with (go_at_call 10; refine (awake_walk w hG).mono ?_; rintro e w2 ⟨rfl, hb⟩)
    go_ret
    exact ⟨rfl, hb⟩
  · have hb2 : decide ((9000 : Int) < (l.length : Int)) = false := decide_eq_false (by omega)
    have hb3 : decide (9000 < l.length) = false := decide_eq_false hbig
    go_enter Tryd.func3, Tryd.ntmps3
    go_wp2_with (first
      | (go_at_call 10; refine (awake_walk w hG).mono ?_; rintro e w2 ⟨rfl, hb⟩; have hr2 := Kd.C_below hr hb; have hG2 := hG.out.below hb)
      | (go_at_call 12; refine (copied_walk l A c w2 hr2 hc (by omega) hs).mono ?_; rintro e w3 ⟨v, rfl, hN, hb3⟩; obtain ⟨A3, c3, rfl, hc3, hr3⟩ := Kd.N_reads hN; have hB3 := hb.trans (hb3.mono hb.size); have hG3 := hG.out.below hB3)
      | (go_at_call 11; refine (show_Check.calls K1 A3 c3 l (checkOf l) w3 ⟨hG3⟩ hr3 hc3 h1).mono ?_; rintro e w4 ⟨rfl, hb4⟩; have hB4 := hB3.trans (hb4.mono hB3.size); have hr4 := Kd.C_below hr hB4; have hG4 := hG.out.below hB4)
      | (go_at_call 13; refine (haulierref03_Check.calls K2 A c l (checkOf l) w4 ⟨hG4⟩ hr4 hc h2).mono ?_; rintro e w5 ⟨rfl, hb5⟩))
    go_ret
    exact ⟨rfl, hB4.trans (hb5.mono hB4.size)⟩

end Go.Proofs.YtldlkoncndlbhaaDoor.Pure
