/- The document's 'Put' walked, onto nothing: a rune's UTF-8. -/
import Derived.Test.YtipbcdjnemdciaaDoorEsc
set_option linter.unusedVariables false
set_option linter.unusedSimpArgs false
namespace Go.Proofs.YtipbcdjnemdciaaDoor.Js
open Go.RowKit Go.Lib Go.Proofs.YtipbcdjnemdciaaDoor.PSh Go.Proofs.YtipbcdjnemdciaaDoor.Np Go.Proofs.YtipbcdjnemdciaaDoorW.PrintWords Go.Proofs.YtipbcdjnemdciaaDoorW.PrintLast Go.Proofs.YtipbcdjnemdciaaDoorW.PrintMore

theorem wide_i64 : ∀ m : Int, 0 ≤ m → m < 2 ^ 63 → IntKind.i64.wrap m = m := fun m h0 h1 => by rw [IntKind.wrap_i64]; omega
theorem and63 (x : Int) (h0 : 0 ≤ x) (h : x < 2 ^ 62) : Go.bits .and .i64 x 63 = x % 64 := bits_mask .i64 63 (by decide) wide_i64 6 (by omega) x h0 (by omega)
theorem or128 (y : Int) (h0 : 0 ≤ y) (h1 : y < 64) : Go.bits .or .i64 128 y = 128 + y := bits_join .i64 63 (by decide) wide_i64 6 128 y (by decide) (by decide) (by decide) h0 h1 (by omega)
theorem or192 (y : Int) (h0 : 0 ≤ y) (h1 : y < 32) : Go.bits .or .i64 192 y = 192 + y := bits_join .i64 63 (by decide) wide_i64 5 192 y (by decide) (by decide) (by decide) h0 h1 (by omega)
theorem or224 (y : Int) (h0 : 0 ≤ y) (h1 : y < 16) : Go.bits .or .i64 224 y = 224 + y := bits_join .i64 63 (by decide) wide_i64 4 224 y (by decide) (by decide) (by decide) h0 h1 (by omega)
theorem or240 (y : Int) (h0 : 0 ≤ y) (h1 : y < 8) : Go.bits .or .i64 240 y = 240 + y := bits_join .i64 63 (by decide) wide_i64 3 240 y (by decide) (by decide) (by decide) h0 h1 (by omega)

theorem enc_cells (r : Int) : byteCells (encodeRune r) = (encodeRuneZ r).map fun z => Value.int .u8 z := by
  have hb := encodeRuneZ_byte r
  unfold encodeRune byteCells
  rw [List.map_map]
  refine List.map_congr_left fun z hz => ?_
  obtain ⟨h0, h1⟩ := hb z hz
  show Value.int .u8 ((z.toNat.toUInt8).toNat : Int) = .int .u8 z
  congr 1
  rw [Nat.toUInt8, UInt8.toNat_ofNat']
  omega

set_option maxHeartbeats 4000000 in
set_option maxRecDepth 100000 in
theorem put_nil_walk (x : Nat) (hx : x < 1114112) (hs : x < 55296 ∨ 57343 < x) (w : World) :
    Calls Tryd.prog 15 #[.slice none 0 0, .int .i64 (x : Int)] w fun e w' => ∃ v, e = .returned v ∧ Rw w w v (encodeRune x) w' := by
  have hS := Rw.nil w
  have he := enc_cells (x : Int)
  by_cases h1 : x < 128
  · have c1 : ((x : Int) < 128) = True := eq_true (by omega)
    have m1 : ((x : Int)) % 256 = (x : Int) := Int.emod_eq_of_lt (by omega) (by omega)
    rw [encodeRuneZ_one (by omega) (by omega)] at he
    have hlen : (encodeRune (x : Int)).length = 1 := by
      have := congrArg List.length he
      simpa [byteCells] using this
    go_enter Tryd.func15, Tryd.ntmps15
    go_wp2_with ((with_reducible refine gate_dst (N := 11) rfl ?_); refine app_lit rfl rfl (encodeRune (x : Int)) #[.int .u8 ((x : Int))] 1 hlen (by rw [he]; rfl) ?hrun (.tmp 8) (.tmp 11) rfl rfl rfl hS ?hl ?_; (case hrun => (first | (go_simp; done) | (go_simp; rfl))); (case hl => simp); intro v1 w1 hR1)
    go_ret
    exact ⟨v1, rfl, hR1⟩
  · by_cases h2 : x < 2048
    · have c1 : ((x : Int) < 128) = False := eq_false (by omega)
      have c2 : ((x : Int) < 2048) = True := eq_true (by omega)
      have a1 := or192 ((x : Int) / 64) (by omega) (by omega)
      have a4 := and63 (x : Int) (by omega) (by omega)
      have b4 := or128 ((x : Int) % 64) (by omega) (by omega)
      have m1 : (192 + (x : Int) / 64) % 256 = 192 + (x : Int) / 64 := Int.emod_eq_of_lt (by omega) (by omega)
      have m4 : (128 + (x : Int) % 64) % 256 = 128 + (x : Int) % 64 := Int.emod_eq_of_lt (by omega) (by omega)
      rw [encodeRuneZ_two (by omega) (by omega)] at he
      have hlen : (encodeRune (x : Int)).length = 2 := by
        have := congrArg List.length he
        simpa [byteCells] using this
      go_enter Tryd.func15, Tryd.ntmps15
      go_wp2_with ((with_reducible refine gate_dst (N := 25) rfl ?_); refine app_lit rfl rfl (encodeRune (x : Int)) #[.int .u8 (192 + (x : Int) / 64), .int .u8 (128 + (x : Int) % 64)] 2 hlen (by rw [he]; rfl) ?hrun (.tmp 16) (.tmp 25) rfl rfl rfl hS ?hl ?_; (case hrun => (first | (go_simp; done) | (go_simp; rfl))); (case hl => simp); intro v1 w1 hR1)
      go_ret
      exact ⟨v1, rfl, hR1⟩
    · by_cases h3 : x < 65536
      · have c1 : ((x : Int) < 128) = False := eq_false (by omega)
        have c2 : ((x : Int) < 2048) = False := eq_false (by omega)
        have c3 : ((x : Int) < 65536) = True := eq_true (by omega)
        have a1 := or224 ((x : Int) / 4096) (by omega) (by omega)
        have a3 := and63 ((x : Int) / 64) (by omega) (by omega)
        have a4 := and63 (x : Int) (by omega) (by omega)
        have b3 := or128 ((x : Int) / 64 % 64) (by omega) (by omega)
        have b4 := or128 ((x : Int) % 64) (by omega) (by omega)
        have m1 : (224 + (x : Int) / 4096) % 256 = 224 + (x : Int) / 4096 := Int.emod_eq_of_lt (by omega) (by omega)
        have m3 : (128 + (x : Int) / 64 % 64) % 256 = 128 + (x : Int) / 64 % 64 := Int.emod_eq_of_lt (by omega) (by omega)
        have m4 : (128 + (x : Int) % 64) % 256 = 128 + (x : Int) % 64 := Int.emod_eq_of_lt (by omega) (by omega)
        rw [encodeRuneZ_three (by omega)] at he
        have hlen : (encodeRune (x : Int)).length = 3 := by
          have := congrArg List.length he
          simpa [byteCells] using this
        go_enter Tryd.func15, Tryd.ntmps15
        go_wp2_with ((with_reducible refine gate_dst (N := 44) rfl ?_); refine app_lit rfl rfl (encodeRune (x : Int)) #[.int .u8 (224 + (x : Int) / 4096), .int .u8 (128 + (x : Int) / 64 % 64), .int .u8 (128 + (x : Int) % 64)] 3 hlen (by rw [he]; rfl) ?hrun (.tmp 30) (.tmp 44) rfl rfl rfl hS ?hl ?_; (case hrun => (first | (go_simp; done) | (go_simp; rfl))); (case hl => simp); intro v1 w1 hR1)
        go_ret
        exact ⟨v1, rfl, hR1⟩
      · have c1 : ((x : Int) < 128) = False := eq_false (by omega)
        have c2 : ((x : Int) < 2048) = False := eq_false (by omega)
        have c3 : ((x : Int) < 65536) = False := eq_false (by omega)
        have a1 := or240 ((x : Int) / 262144) (by omega) (by omega)
        have a2 := and63 ((x : Int) / 4096) (by omega) (by omega)
        have a3 := and63 ((x : Int) / 64) (by omega) (by omega)
        have a4 := and63 (x : Int) (by omega) (by omega)
        have b2 := or128 ((x : Int) / 4096 % 64) (by omega) (by omega)
        have b3 := or128 ((x : Int) / 64 % 64) (by omega) (by omega)
        have b4 := or128 ((x : Int) % 64) (by omega) (by omega)
        have m1 : (240 + (x : Int) / 262144) % 256 = 240 + (x : Int) / 262144 := Int.emod_eq_of_lt (by omega) (by omega)
        have m2 : (128 + (x : Int) / 4096 % 64) % 256 = 128 + (x : Int) / 4096 % 64 := Int.emod_eq_of_lt (by omega) (by omega)
        have m3 : (128 + (x : Int) / 64 % 64) % 256 = 128 + (x : Int) / 64 % 64 := Int.emod_eq_of_lt (by omega) (by omega)
        have m4 : (128 + (x : Int) % 64) % 256 = 128 + (x : Int) % 64 := Int.emod_eq_of_lt (by omega) (by omega)
        rw [encodeRuneZ_four (by omega) (by omega)] at he
        have hlen : (encodeRune (x : Int)).length = 4 := by
          have := congrArg List.length he
          simpa [byteCells] using this
        go_enter Tryd.func15, Tryd.ntmps15
        go_wp2_with ((with_reducible refine gate_dst (N := 65) rfl ?_); refine app_lit rfl rfl (encodeRune (x : Int)) #[.int .u8 (240 + (x : Int) / 262144), .int .u8 (128 + (x : Int) / 4096 % 64), .int .u8 (128 + (x : Int) / 64 % 64), .int .u8 (128 + (x : Int) % 64)] 4 hlen (by rw [he]; rfl) ?hrun (.tmp 46) (.tmp 65) rfl rfl rfl hS ?hl ?_; (case hrun => (first | (go_simp; done) | (go_simp; rfl))); (case hl => simp); intro v1 w1 hR1)
        go_ret
        exact ⟨v1, rfl, hR1⟩

end Go.Proofs.YtipbcdjnemdciaaDoor.Js
