/- The layer's fixed fact, walked: chapter 2's examples. -/
import Derived.Test.YtipbcdjnemdciaaDoorJson
import Derived.Lib.SlBytesConst
set_option linter.unusedVariables false
set_option linter.unusedSimpArgs false
namespace Go.Proofs.YtipbcdjnemdciaaDoor.Js
open Go.RowKit Go.Lib Go.Proofs.YtipbcdjnemdciaaDoor.PSh Go.Proofs.YtipbcdjnemdciaaDoor.Np Go.Proofs.YtipbcdjnemdciaaDoorW.PrintWords Go.Proofs.YtipbcdjnemdciaaDoorW.PrintLast Go.Proofs.YtipbcdjnemdciaaDoorW.PrintMore

/-- A literal's block, read as a text's bytes. -/
theorem lit_reads (W : World) (t : List UInt8) (cs : Array Value) (fz : Nat × Nat) (hc : cs.toList = byteCells t) (hs : t.length ≤ 9223372036854775807) : ReadsInt (W.alloc (.cells cs 5 fz)) .u8 (some ⟨W.heap.size, 0, none⟩) t.length (bytesOf (str t)) := by
  have hb : bytesOf (str t) = t.map fun b => (b.toNat : Int) := rfl
  refine ⟨by rw [hb, List.length_map], hs, fun _ => ⟨_, rfl, fun j hj => ?_⟩⟩
  rw [Go.Proofs.YtipbcdjnemdciaaDoorW.PrintWords.add_plain, World.cell?]
  rw [show (W.alloc (.cells cs 5 fz)).heap[W.heap.size]? = some (.cells cs 5 fz) from Array.getElem?_push_size, hb]
  show cs[j]? = _
  rw [← Array.getElem?_toList, hc, byteCells, List.getElem?_map, List.getD_eq_getElem?_getD, List.getElem?_map, List.getElem?_eq_getElem hj]
  rfl

def a1 : List UInt8 := [91, 49, 44, 32, 34, 97, 34, 93]
def a2 : List UInt8 := [123, 34, 97, 34, 58, 49, 44, 34, 97, 34, 58, 50, 125]
def at1 : List S39 := [⟨3, false, 1, ⟨#[]⟩, [], []⟩, ⟨4, false, 0, ⟨#[97]⟩, [], []⟩, ⟨5, false, 0, ⟨#[]⟩, [], [0, 1]⟩]
theorem parse_a1 : parse a1 = .ok [] 0 at1 := by kernel_rfl
theorem parse_a2 : parse a2 = .no 7 28 := by kernel_rfl

set_option maxHeartbeats 4000000 in
set_option maxRecDepth 100000 in
theorem awake_walk (w : World) (hG : Aside0 (Glob w)) (hGN : Aside0 (GlobN w)) : Calls Tryd.prog 9 #[] w fun e w' => e = .returned (.bool true) ∧ Below w.heap.size w w' := by
  have hB1 := below_alloc (Below.refl w.heap.size w) (.cells #[.int .u8 91, .int .u8 49, .int .u8 44, .int .u8 32, .int .u8 34, .int .u8 97, .int .u8 34, .int .u8 93] 5 (8, 9))
  have hr1 := lit_reads w a1 #[.int .u8 91, .int .u8 49, .int .u8 44, .int .u8 32, .int .u8 34, .int .u8 97, .int .u8 34, .int .u8 93] (8, 9) rfl (by decide)
  have hp1 := parse_walk _ _ 8 (str a1) (hG.out.below hB1) (hGN.out.below hB1) (by decide) hr1
  rw [show (str a1).data.toList = a1 from rfl, parse_a1, show (str a1).size = 8 from rfl] at hp1
  have kc := fun (W : World) (C : Array Value) (n c : Nat) => Lib.run_convert_bytes_const (P := Tryd.prog) W 22 5 C n c Tryd.underlying22 Tryd.underlying5
  go_enter Tryd.func9, Tryd.ntmps9
  go_wp2_with (first
    | (go_at_call 10; (with_reducible refine hp1.mono ?_); rintro e w2 ⟨hb2, tv, rfl, hR⟩; obtain ⟨g1, c1, rfl, -, hg1, -⟩ := Kd.R_form hR (by decide); have hC := (Kd.R_reads' hR).2.2; rw [show at1.length = 3 from rfl]; have hB2 := hB1.trans (hb2.mono hB1.size); have hBx := below_alloc (Below.refl w2.heap.size w2) (.cells #[.int .u8 123, .int .u8 34, .int .u8 97, .int .u8 34, .int .u8 58, .int .u8 49, .int .u8 44, .int .u8 34, .int .u8 97, .int .u8 34, .int .u8 58, .int .u8 50, .int .u8 125] 5 (13, 14)); have hr2 := lit_reads w2 a2 #[.int .u8 123, .int .u8 34, .int .u8 97, .int .u8 34, .int .u8 58, .int .u8 49, .int .u8 44, .int .u8 34, .int .u8 97, .int .u8 34, .int .u8 58, .int .u8 50, .int .u8 125] (13, 14) rfl (by decide); have hG2 := hG.out.below hB2; have hGN2 := hGN.out.below hB2; have hp2 := parse_walk _ _ 13 (str a2) (hG2.below hBx) (hGN2.below hBx) (by decide) hr2; rw [show (str a2).data.toList = a2 from rfl, parse_a2, show (str a2).size = 13 from rfl] at hp2)
    | (go_at_call 10; refine hp2.mono ?_; rintro e w3 ⟨hb3, rfl⟩; have hB3 := hBx.trans (hb3.mono hBx.size); have hB := hB2.trans (hB3.mono hB2.size); have hC3 := Kd.C_below hC hB3; clear hC hR; obtain ⟨ad, A4, c4, A5, c5, e0, hx0, hx1, hx2, hx3, hx4, hx5, hl4, hC4, hl5, hC5⟩ := at_T39 hC3 2 (by decide) (by decide); obtain ⟨ad', A4', c4', A5', c5', e', hy0, hy1, hy2, hy3, hy4, hy5, hl4', hC4', hl5', hC5'⟩ := at_T39 hC3 1 (by decide) (by decide); obtain rfl := Option.some.inj e'; obtain rfl := Option.some.inj e0; clear hx1 hx2 hx3 hx4 hx5 hy0 hy1 hy2 hy4 hy5; replace hx0 : w3.cell? ⟨g1, 12, none⟩ = some (.int .i64 5) := hx0; replace hy3 : w3.cell? ⟨g1, 9, none⟩ = some (.string ⟨#[97]⟩) := hy3))
  go_ret
  exact ⟨rfl, hB⟩

end Go.Proofs.YtipbcdjnemdciaaDoor.Js
