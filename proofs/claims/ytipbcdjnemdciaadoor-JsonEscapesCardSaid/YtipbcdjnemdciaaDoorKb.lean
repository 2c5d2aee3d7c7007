/- json.Parse of a text that has just been turned into bytes. -/
import Derived.Test.YtipbcdjnemdciaaDoorNests
set_option linter.unusedVariables false
set_option linter.unusedSimpArgs false
namespace Go.Proofs.YtipbcdjnemdciaaDoor.Js
open Go.RowKit Go.Lib Go.Proofs.YtipbcdjnemdciaaDoor.PSh Go.Proofs.YtipbcdjnemdciaaDoor.Np Go.Proofs.YtipbcdjnemdciaaDoorW.PrintWords Go.Proofs.YtipbcdjnemdciaaDoorW.PrintLast Go.Proofs.YtipbcdjnemdciaaDoorW.PrintMore

/-- json.Parse of a text that has just been turned into bytes. -/
theorem parse_text (X : List UInt8) (w : World) (hG : Glob w) (hGN : GlobN w) (hl : X.length ≤ 65536) (cp : Nat) :
    Calls Tryd.prog 10 #[.slice (some ⟨w.heap.size, 0, none⟩) (str X).size cp] (bytesWorld w 5 (str X)) fun e w' => ParseEnds (bytesWorld w 5 (str X)) (parse X) e w' ∧ Below w.heap.size w w' := by
  have hbb := bytes_below (Below.refl w.heap.size w) (Nat.le_refl _) 5 (str X)
  refine (parse_walk (bytesWorld w 5 (str X)) (some ⟨w.heap.size, 0, none⟩) cp (str X) (hG.below hbb) (hGN.below hbb) (by rw [str_size]; exact hl) (bytes_reads _ _ _ (by rw [str_size]; omega))).mono fun e w' h => ⟨h, hbb.trans (h.1.mono hbb.size)⟩
theorem kb (X : List UInt8) (w : World) : (convert 9 22 (.string (str X))).run Tryd.prog w = .ok (.slice (some ⟨w.heap.size, 0, none⟩) (str X).size (grownCap w (str X).size 0 5)) (bytesWorld w 5 (str X)) :=
  print_bytes (P := Tryd.prog) 9 22 5 Tryd.underlying9 Tryd.underlying22 Tryd.underlying5 (str X) w


end Go.Proofs.YtipbcdjnemdciaaDoor.Js
