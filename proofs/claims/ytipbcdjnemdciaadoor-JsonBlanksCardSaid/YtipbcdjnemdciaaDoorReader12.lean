/- value, list and object together: by the fuel. -/
import Derived.Test.YtipbcdjnemdciaaDoorReader11
set_option linter.unusedVariables false
namespace Go.Proofs.YtipbcdjnemdciaaDoor.Js
open Go.RowKit Go.Lib Go.Proofs.YtipbcdjnemdciaaDoor.PSh Go.Proofs.YtipbcdjnemdciaaDoor.Np Go.Proofs.YtipbcdjnemdciaaDoorW.PrintWords

theorem value_below (w0 : World) (b : Nat) (s : ByteArray) (hG : Aside0 (Glob w0)) (hGN : Aside0 (GlobN w0)) (hs : s.size ≤ 65536) : ∀ f g, g < f → VT w0 b s g
  | 0, g, h => absurd h (Nat.not_lt_zero _)
  | f + 1, 0, _ => fun _ _ _ _ _ _ _ _ hf => absurd hf (Nat.not_lt_zero _)
  | f + 1, g + 1, h => value_step w0 b s g hG hGN hs
      (list_step w0 b s g hs (fun k hk => value_below w0 b s hG hGN hs f k (by omega)))
      (object_step w0 b s g hG hs (fun k hk => value_below w0 b s hG hGN hs f k (by omega)))
theorem value_walk (w0 : World) (b : Nat) (s : ByteArray) (hG : Aside0 (Glob w0)) (hGN : Aside0 (GlobN w0)) (hs : s.size ≤ 65536) (f : Nat) : VT w0 b s f := value_below w0 b s hG hGN hs (f + 1) f (Nat.lt_succ_self f)

end Go.Proofs.YtipbcdjnemdciaaDoor.Js
