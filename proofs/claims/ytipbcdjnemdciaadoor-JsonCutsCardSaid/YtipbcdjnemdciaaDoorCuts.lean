/- JsonCuts, walked. -/
import Derived.Test.YtipbcdjnemdciaaDoorPlS
import Derived.Test.YtipbcdjnemdciaaDoorBytesOf
import Derived.Test.YtipbcdjnemdciaaDoorNests
set_option linter.unusedVariables false
set_option linter.unusedSimpArgs false
namespace Go.Proofs.YtipbcdjnemdciaaDoor.Js
open Go.RowKit Go.Lib Go.Proofs.YtipbcdjnemdciaaDoor.PSh Go.Proofs.YtipbcdjnemdciaaDoor.Np Go.Proofs.YtipbcdjnemdciaaDoorW.PrintWords Go.Proofs.YtipbcdjnemdciaaDoorW.PrintLast Go.Proofs.YtipbcdjnemdciaaDoorW.PrintMore

theorem add0 (ad : Addr) : ad.add 0 = ad := by unfold Addr.add; cases ad; split <;> simp_all

set_option maxHeartbeats 4000000 in
set_option maxRecDepth 100000 in
theorem cuts_short (A : Option Addr) (c : Nat) (xs : List UInt8) (cut : Int) (w : World) (hG : Aside0 (Glob w)) (hGN : Aside0 (GlobN w)) (hs : xs.length < 2 ∨ 60000 < xs.length) :
    Calls Tryd.prog 4 #[.slice A xs.length c, .int .i64 cut] w fun e w' => e = .returned (.bool true) ∧ Below w.heap.size w w' := by
  rcases hs with hs | hs
  · have c1 : ((xs.length : Int) < 2) = True := eq_true (by omega)
    go_enter Tryd.func4, Tryd.ntmps4
    go_wp2_with (go_at_call 9; refine (awake_walk w hG hGN).mono ?_; rintro e w2 ⟨rfl, hb2⟩)
    go_ret
    exact ⟨rfl, hb2⟩
  · have c1 : ((xs.length : Int) < 2) = False := eq_false (by omega)
    have c2 : ((60000 : Int) < (xs.length : Int)) = True := eq_true (by omega)
    have c3 : ((xs.length : Int) > 60000) = True := eq_true (by omega)
    go_enter Tryd.func4, Tryd.ntmps4
    go_wp2_with (go_at_call 9; refine (awake_walk w hG hGN).mono ?_; rintro e w2 ⟨rfl, hb2⟩)
    go_ret
    exact ⟨rfl, hb2⟩

set_option maxHeartbeats 4000000 in
set_option maxRecDepth 100000 in
theorem cuts_other (ad : Addr) (c : Nat) (xs : List UInt8) (cut : Int) (w : World) (hG : Aside0 (Glob w)) (hGN : Aside0 (GlobN w)) (hA : Gvn w (some ad) xs c) (h2 : 2 ≤ xs.length) (h6 : xs.length ≤ 60000) (z : UInt8) (hz : xs[0]'(by omega) = z) (hz1 : z ≠ 91) (hz2 : z ≠ 123) :
    Calls Tryd.prog 4 #[.slice (some ad) xs.length c, .int .i64 cut] w fun e w' => e = .returned (.bool true) ∧ Below w.heap.size w w' := by
  have c1 : ((xs.length : Int) < 2) = False := eq_false (by omega)
  have c2 : ((60000 : Int) < (xs.length : Int)) = False := eq_false (by omega)
  have c3 : ((xs.length : Int) > 60000) = False := eq_false (by omega)
  have c4 : (0 < xs.length) = True := eq_true (by omega)
  have hx := hA.at_ 0 (by omega)
  rw [hz, add0] at hx
  have n1 : (((z.toNat : Int)) != 91) = true := bne_iff_ne.2 fun h => hz1 (UInt8.toNat_inj.1 (by show z.toNat = 91; omega))
  have n2 : (((z.toNat : Int)) != 123) = true := bne_iff_ne.2 fun h => hz2 (UInt8.toNat_inj.1 (by show z.toNat = 123; omega))
  go_enter Tryd.func4, Tryd.ntmps4
  go_wp2_with (go_at_call 9; refine (awake_walk w hG hGN).mono ?_; rintro e w2 ⟨rfl, hb2⟩; have hx2 := pw_cell_below hb2 hx)
  go_ret
  exact ⟨rfl, hb2⟩

/-! The two great cases (gen_cuts.py) -/
theorem small_nat1 (n k : Int) (hk : 0 < k) (hk1 : k ≤ 10000000) : ∃ m : Nat, wrap64 ((IntKind.u64.wrap n).tmod k) = (m : Int) ∧ m < k := by
  have h0 := wrapU_nonneg n
  generalize IntKind.u64.wrap n = a at *
  rw [Int.tmod_eq_emod_of_nonneg h0]
  have h1 := Int.emod_nonneg a (show k ≠ 0 by omega)
  have h2 := Int.emod_lt_of_pos a hk
  generalize a % k = b at *
  refine ⟨b.toNat, ?_, by omega⟩
  unfold wrap64
  omega

set_option maxHeartbeats 8000000 in
set_option maxRecDepth 100000 in
theorem cuts_list (ad : Addr) (c : Nat) (xs : List UInt8) (cut : Int) (w : World) (hG : Aside0 (Glob w)) (hGN : Aside0 (GlobN w)) (hA : Gvn w (some ad) xs c) (h2 : 2 ≤ xs.length) (h6 : xs.length ≤ 60000) (hz : xs[0]'(by omega) = 91) :
    Calls Tryd.prog 4 #[.slice (some ad) xs.length c, .int .i64 cut] w fun e w' => e = .returned (.bool true) ∧ Below w.heap.size w w' := by
  have c1 : ((xs.length : Int) < 2) = False := eq_false (by omega)
  have c2 : ((60000 : Int) < (xs.length : Int)) = False := eq_false (by omega)
  have c3 : ((xs.length : Int) > 60000) = False := eq_false (by omega)
  have c4 : (0 < xs.length) = True := eq_true (by omega)
  have hx := hA.at_ 0 (by omega)
  rw [hz, add0] at hx
  replace hx : w.cell? ad = some (.int .u8 91) := hx
  obtain ⟨r, hxs⟩ : ∃ r, xs = 91 :: r := by
    cases xs with
    | nil => simp at h2
    | cons a r => exact ⟨r, by rw [show a = 91 from hz]⟩
  rcases parse_shape xs with ⟨t, hp⟩ | ⟨p, e0, hp, he, hq⟩
  · obtain ⟨k0, hk0, hkc⟩ : ∃ (i : Nat) (hi : i < xs.length), xs[i] = 93 ∨ xs[i] = 125 := by subst hxs; exact parse_closed 91 (by decide) r hp
    have hcut := fun (n last : Nat) (hn : n ≤ last) (hl : last < xs.length) (hz : blank (xs[last]) = false) => show ∃ q e, parse (xs.take n) = .no q e ∧ q ≤ n ∧ e ≠ 0 by subst hxs; exact parse_cut 91 r (by decide) (by omega) t hp n last hn hl hz
    clear hxs
    go_enter Tryd.func4, Tryd.ntmps4
    go_wp2_with (first
      | (go_at_call 9; refine (awake_walk w hG hGN).mono ?_; rintro e w2 ⟨rfl, hb2⟩; have hG2 := hG.out.below hb2; have hGN2 := hGN.out.below hb2; have hA2 := hA.below hb2; have hx2 := pw_cell_below hb2 hx; have hS := Rw.lit w2 w2 w2 (Below.refl _ _) (OthersKept.refl _ _ _) [] #[] rfl (by decide); have hAL := hA2.below (below_alloc (Below.refl _ _) (.cells #[] 5)))
      | (at_builtin; refine app_law rfl (.tmp 36) (.tmp 37) rfl hS xs ad xs.length c rfl rfl rfl hAL.cells (by rw [List.length_nil]; omega) ?_; intro v3 w3 hR3 hg3 hat3; clear hg3 hat3; rw [List.nil_append] at hR3; have hb3 := hR3.2.1; obtain ⟨A3, c3, rfl, hr3⟩ := hR3.reads' (by omega); have hpw := parse_walk w3 A3 c3 (str xs) (hG2.below hb3) (hGN2.below hb3) (by rw [str_size]; omega) hr3; rw [show (str xs).data.toList = xs from rfl, hp] at hpw)
      | (go_at_call 10; (with_reducible refine hpw.mono ?_); rintro e w4 ⟨hb4, tv, rfl, hR⟩; obtain ⟨A4, c4, rfl, hlc, hC⟩ := Kd.R_reads hR; clear hR hC; have hB4 := hb3.trans (hb4.mono hb3.size)))
    have hx4 := hA2.below hB4
    have hBw := hb2.trans (hB4.mono hb2.size)
    clear hx hx2 hpw hR3 hr3 hAL hS hp hlc
    go_loopw [8] (fun i wr => ∃ j : Nat, k0 ≤ j ∧ j < xs.length ∧ i = .int .i64 (j : Int) ∧ wr = w4) (fun i _ => (RowKit.intOf i).toNat)
    case atStart => exact ⟨xs.length - 1, by omega, by omega, congrArg (Value.int .i64) (by omega), rfl⟩
    case round =>
      obtain ⟨j, hj0, hj1, rfl, rfl⟩ := hrel
      have d1 : (j < xs.length) = True := eq_true hj1
      have hxj := hx4.at_ j hj1
      by_cases hcl : xs[j] = 93 ∨ xs[j] = 125
      · have hbl : blank (xs[j]) = false := by rcases hcl with h | h <;> rw [h] <;> rfl
        have hu : IntKind.u64.wrap ((j : Int) + 1) = (j : Int) + 1 := by simp [IntKind.wrap, IntKind.bits, IntKind.signed]; omega
        have hne : ((j : Int) + 1 == 0) = false := beq_false_of_ne (by omega)
        have hne2 : ((j : Int) + 1 = 0) = False := eq_false (by omega)
        obtain ⟨N, hN, hNj⟩ := small_nat1 cut ((j : Int) + 1) (by omega) (by omega)
        obtain ⟨q, e, hp, hq, he⟩ := hcut N j (by omega) hj1 hbl
        have he1 : (e != 0) = true := bne_iff_ne.2 he
        have hq1 : ((q : Int) ≤ (N : Int)) = True := eq_true (by omega)
        have hNc : ((N : Int) ≤ (c : Int)) = True := eq_true (by have := hx4.1; omega)
        have hNl : (xs.take N).length = N := by rw [List.length_take]; omega
        have hS4 := fun (W : World) => Rw.lit W W W (Below.refl _ _) (OthersKept.refl _ _ _) [] #[] rfl (by decide)
        rcases hcl with hc | hc
        · rw [hc] at hxj
          replace hxj : wr.cell? (ad.add j) = some (.int .u8 93) := hxj
          go_wp2_with (first
            | (at_builtin; refine app_law rfl (.tmp 70) (.tmp 73) rfl (hS4 wr) (xs.take N) ad N c hNl rfl rfl ((hx4.below (below_alloc (Below.refl _ _) (.cells #[] 5))).take N) (by rw [List.length_nil]; omega) ?_; intro v5 w5 hR5 hg5 hat5; clear hg5 hat5; rw [List.nil_append] at hR5; have hb5 := hR5.2.1; obtain ⟨A5, c5, rfl, hr5⟩ := hR5.reads' (by omega); have hGr := hG.out.below hBw; have hGNr := hGN.out.below hBw; have hpw := parse_walk w5 A5 c5 (str (xs.take N)) (hGr.below hb5) (hGNr.below hb5) (by rw [str_size]; omega) hr5; rw [show (str (xs.take N)).data.toList = xs.take N from rfl, hp] at hpw)
            | (go_at_call 10; refine hpw.mono ?_; rintro e w6 ⟨hb6, rfl⟩; have hB := hBw.trans ((hb5.trans (hb6.mono hb5.size)).mono hBw.size)))
          go_ret
          exact ⟨rfl, hB⟩
        · rw [hc] at hxj
          replace hxj : wr.cell? (ad.add j) = some (.int .u8 125) := hxj
          go_wp2_with (first
            | (at_builtin; refine app_law rfl (.tmp 70) (.tmp 73) rfl (hS4 wr) (xs.take N) ad N c hNl rfl rfl ((hx4.below (below_alloc (Below.refl _ _) (.cells #[] 5))).take N) (by rw [List.length_nil]; omega) ?_; intro v5 w5 hR5 hg5 hat5; clear hg5 hat5; rw [List.nil_append] at hR5; have hb5 := hR5.2.1; obtain ⟨A5, c5, rfl, hr5⟩ := hR5.reads' (by omega); have hGr := hG.out.below hBw; have hGNr := hGN.out.below hBw; have hpw := parse_walk w5 A5 c5 (str (xs.take N)) (hGr.below hb5) (hGNr.below hb5) (by rw [str_size]; omega) hr5; rw [show (str (xs.take N)).data.toList = xs.take N from rfl, hp] at hpw)
            | (go_at_call 10; refine hpw.mono ?_; rintro e w6 ⟨hb6, rfl⟩; have hB := hBw.trans ((hb5.trans (hb6.mono hb5.size)).mono hBw.size)))
          go_ret
          exact ⟨rfl, hB⟩
      · have n1 : (((xs[j].toNat : Int)) != 93) = true := bne_iff_ne.2 fun h => hcl (.inl (UInt8.toNat_inj.1 (by show xs[j].toNat = 93; omega)))
        have n2 : (((xs[j].toNat : Int)) != 125) = true := bne_iff_ne.2 fun h => hcl (.inr (UInt8.toNat_inj.1 (by show xs[j].toNat = 125; omega)))
        have hjk : k0 ≠ j := by rintro rfl; exact hcl hkc
        go_wp2
        go_roundw
        case rel => exact ⟨j - 1, by omega, by omega, congrArg (Value.int .i64) (by omega), trivial⟩
        case measure => simp [RowKit.intOf]; omega
  · have he1 : (e0 != 0) = true := bne_iff_ne.2 he
    clear hxs
    go_enter Tryd.func4, Tryd.ntmps4
    go_wp2_with (first
      | (go_at_call 9; refine (awake_walk w hG hGN).mono ?_; rintro e w2 ⟨rfl, hb2⟩; have hG2 := hG.out.below hb2; have hGN2 := hGN.out.below hb2; have hA2 := hA.below hb2; have hx2 := pw_cell_below hb2 hx; have hS := Rw.lit w2 w2 w2 (Below.refl _ _) (OthersKept.refl _ _ _) [] #[] rfl (by decide); have hAL := hA2.below (below_alloc (Below.refl _ _) (.cells #[] 5)))
      | (at_builtin; refine app_law rfl (.tmp 36) (.tmp 37) rfl hS xs ad xs.length c rfl rfl rfl hAL.cells (by rw [List.length_nil]; omega) ?_; intro v3 w3 hR3 hg3 hat3; clear hg3 hat3; rw [List.nil_append] at hR3; have hb3 := hR3.2.1; obtain ⟨A3, c3, rfl, hr3⟩ := hR3.reads' (by omega); have hpw := parse_walk w3 A3 c3 (str xs) (hG2.below hb3) (hGN2.below hb3) (by rw [str_size]; omega) hr3; rw [show (str xs).data.toList = xs from rfl, hp] at hpw)
      | (go_at_call 10; refine hpw.mono ?_; rintro e w4 ⟨hb4, rfl⟩; have hB := hb2.trans ((hb3.trans (hb4.mono hb3.size)).mono hb2.size)))
    go_ret
    exact ⟨rfl, hB⟩

set_option maxHeartbeats 8000000 in
set_option maxRecDepth 100000 in
theorem cuts_object (ad : Addr) (c : Nat) (xs : List UInt8) (cut : Int) (w : World) (hG : Aside0 (Glob w)) (hGN : Aside0 (GlobN w)) (hA : Gvn w (some ad) xs c) (h2 : 2 ≤ xs.length) (h6 : xs.length ≤ 60000) (hz : xs[0]'(by omega) = 123) :
    Calls Tryd.prog 4 #[.slice (some ad) xs.length c, .int .i64 cut] w fun e w' => e = .returned (.bool true) ∧ Below w.heap.size w w' := by
  have c1 : ((xs.length : Int) < 2) = False := eq_false (by omega)
  have c2 : ((60000 : Int) < (xs.length : Int)) = False := eq_false (by omega)
  have c3 : ((xs.length : Int) > 60000) = False := eq_false (by omega)
  have c4 : (0 < xs.length) = True := eq_true (by omega)
  have hx := hA.at_ 0 (by omega)
  rw [hz, add0] at hx
  replace hx : w.cell? ad = some (.int .u8 123) := hx
  obtain ⟨r, hxs⟩ : ∃ r, xs = 123 :: r := by
    cases xs with
    | nil => simp at h2
    | cons a r => exact ⟨r, by rw [show a = 123 from hz]⟩
  rcases parse_shape xs with ⟨t, hp⟩ | ⟨p, e0, hp, he, hq⟩
  · obtain ⟨k0, hk0, hkc⟩ : ∃ (i : Nat) (hi : i < xs.length), xs[i] = 93 ∨ xs[i] = 125 := by subst hxs; exact parse_closed 123 (by decide) r hp
    have hcut := fun (n last : Nat) (hn : n ≤ last) (hl : last < xs.length) (hz : blank (xs[last]) = false) => show ∃ q e, parse (xs.take n) = .no q e ∧ q ≤ n ∧ e ≠ 0 by subst hxs; exact parse_cut 123 r (by decide) (by omega) t hp n last hn hl hz
    clear hxs
    go_enter Tryd.func4, Tryd.ntmps4
    go_wp2_with (first
      | (go_at_call 9; refine (awake_walk w hG hGN).mono ?_; rintro e w2 ⟨rfl, hb2⟩; have hG2 := hG.out.below hb2; have hGN2 := hGN.out.below hb2; have hA2 := hA.below hb2; have hx2 := pw_cell_below hb2 hx; have hS := Rw.lit w2 w2 w2 (Below.refl _ _) (OthersKept.refl _ _ _) [] #[] rfl (by decide); have hAL := hA2.below (below_alloc (Below.refl _ _) (.cells #[] 5)))
      | (at_builtin; refine app_law rfl (.tmp 36) (.tmp 37) rfl hS xs ad xs.length c rfl rfl rfl hAL.cells (by rw [List.length_nil]; omega) ?_; intro v3 w3 hR3 hg3 hat3; clear hg3 hat3; rw [List.nil_append] at hR3; have hb3 := hR3.2.1; obtain ⟨A3, c3, rfl, hr3⟩ := hR3.reads' (by omega); have hpw := parse_walk w3 A3 c3 (str xs) (hG2.below hb3) (hGN2.below hb3) (by rw [str_size]; omega) hr3; rw [show (str xs).data.toList = xs from rfl, hp] at hpw)
      | (go_at_call 10; (with_reducible refine hpw.mono ?_); rintro e w4 ⟨hb4, tv, rfl, hR⟩; obtain ⟨A4, c4, rfl, hlc, hC⟩ := Kd.R_reads hR; clear hR hC; have hB4 := hb3.trans (hb4.mono hb3.size)))
    have hx4 := hA2.below hB4
    have hBw := hb2.trans (hB4.mono hb2.size)
    clear hx hx2 hpw hR3 hr3 hAL hS hp hlc
    go_loopw [8] (fun i wr => ∃ j : Nat, k0 ≤ j ∧ j < xs.length ∧ i = .int .i64 (j : Int) ∧ wr = w4) (fun i _ => (RowKit.intOf i).toNat)
    case atStart => exact ⟨xs.length - 1, by omega, by omega, congrArg (Value.int .i64) (by omega), rfl⟩
    case round =>
      obtain ⟨j, hj0, hj1, rfl, rfl⟩ := hrel
      have d1 : (j < xs.length) = True := eq_true hj1
      have hxj := hx4.at_ j hj1
      by_cases hcl : xs[j] = 93 ∨ xs[j] = 125
      · have hbl : blank (xs[j]) = false := by rcases hcl with h | h <;> rw [h] <;> rfl
        have hu : IntKind.u64.wrap ((j : Int) + 1) = (j : Int) + 1 := by simp [IntKind.wrap, IntKind.bits, IntKind.signed]; omega
        have hne : ((j : Int) + 1 == 0) = false := beq_false_of_ne (by omega)
        have hne2 : ((j : Int) + 1 = 0) = False := eq_false (by omega)
        obtain ⟨N, hN, hNj⟩ := small_nat1 cut ((j : Int) + 1) (by omega) (by omega)
        obtain ⟨q, e, hp, hq, he⟩ := hcut N j (by omega) hj1 hbl
        have he1 : (e != 0) = true := bne_iff_ne.2 he
        have hq1 : ((q : Int) ≤ (N : Int)) = True := eq_true (by omega)
        have hNc : ((N : Int) ≤ (c : Int)) = True := eq_true (by have := hx4.1; omega)
        have hNl : (xs.take N).length = N := by rw [List.length_take]; omega
        have hS4 := fun (W : World) => Rw.lit W W W (Below.refl _ _) (OthersKept.refl _ _ _) [] #[] rfl (by decide)
        rcases hcl with hc | hc
        · rw [hc] at hxj
          replace hxj : wr.cell? (ad.add j) = some (.int .u8 93) := hxj
          go_wp2_with (first
            | (at_builtin; refine app_law rfl (.tmp 70) (.tmp 73) rfl (hS4 wr) (xs.take N) ad N c hNl rfl rfl ((hx4.below (below_alloc (Below.refl _ _) (.cells #[] 5))).take N) (by rw [List.length_nil]; omega) ?_; intro v5 w5 hR5 hg5 hat5; clear hg5 hat5; rw [List.nil_append] at hR5; have hb5 := hR5.2.1; obtain ⟨A5, c5, rfl, hr5⟩ := hR5.reads' (by omega); have hGr := hG.out.below hBw; have hGNr := hGN.out.below hBw; have hpw := parse_walk w5 A5 c5 (str (xs.take N)) (hGr.below hb5) (hGNr.below hb5) (by rw [str_size]; omega) hr5; rw [show (str (xs.take N)).data.toList = xs.take N from rfl, hp] at hpw)
            | (go_at_call 10; refine hpw.mono ?_; rintro e w6 ⟨hb6, rfl⟩; have hB := hBw.trans ((hb5.trans (hb6.mono hb5.size)).mono hBw.size)))
          go_ret
          exact ⟨rfl, hB⟩
        · rw [hc] at hxj
          replace hxj : wr.cell? (ad.add j) = some (.int .u8 125) := hxj
          go_wp2_with (first
            | (at_builtin; refine app_law rfl (.tmp 70) (.tmp 73) rfl (hS4 wr) (xs.take N) ad N c hNl rfl rfl ((hx4.below (below_alloc (Below.refl _ _) (.cells #[] 5))).take N) (by rw [List.length_nil]; omega) ?_; intro v5 w5 hR5 hg5 hat5; clear hg5 hat5; rw [List.nil_append] at hR5; have hb5 := hR5.2.1; obtain ⟨A5, c5, rfl, hr5⟩ := hR5.reads' (by omega); have hGr := hG.out.below hBw; have hGNr := hGN.out.below hBw; have hpw := parse_walk w5 A5 c5 (str (xs.take N)) (hGr.below hb5) (hGNr.below hb5) (by rw [str_size]; omega) hr5; rw [show (str (xs.take N)).data.toList = xs.take N from rfl, hp] at hpw)
            | (go_at_call 10; refine hpw.mono ?_; rintro e w6 ⟨hb6, rfl⟩; have hB := hBw.trans ((hb5.trans (hb6.mono hb5.size)).mono hBw.size)))
          go_ret
          exact ⟨rfl, hB⟩
      · have n1 : (((xs[j].toNat : Int)) != 93) = true := bne_iff_ne.2 fun h => hcl (.inl (UInt8.toNat_inj.1 (by show xs[j].toNat = 93; omega)))
        have n2 : (((xs[j].toNat : Int)) != 125) = true := bne_iff_ne.2 fun h => hcl (.inr (UInt8.toNat_inj.1 (by show xs[j].toNat = 125; omega)))
        have hjk : k0 ≠ j := by rintro rfl; exact hcl hkc
        go_wp2
        go_roundw
        case rel => exact ⟨j - 1, by omega, by omega, congrArg (Value.int .i64) (by omega), trivial⟩
        case measure => simp [RowKit.intOf]; omega
  · have he1 : (e0 != 0) = true := bne_iff_ne.2 he
    clear hxs
    go_enter Tryd.func4, Tryd.ntmps4
    go_wp2_with (first
      | (go_at_call 9; refine (awake_walk w hG hGN).mono ?_; rintro e w2 ⟨rfl, hb2⟩; have hG2 := hG.out.below hb2; have hGN2 := hGN.out.below hb2; have hA2 := hA.below hb2; have hx2 := pw_cell_below hb2 hx; have hS := Rw.lit w2 w2 w2 (Below.refl _ _) (OthersKept.refl _ _ _) [] #[] rfl (by decide); have hAL := hA2.below (below_alloc (Below.refl _ _) (.cells #[] 5)))
      | (at_builtin; refine app_law rfl (.tmp 36) (.tmp 37) rfl hS xs ad xs.length c rfl rfl rfl hAL.cells (by rw [List.length_nil]; omega) ?_; intro v3 w3 hR3 hg3 hat3; clear hg3 hat3; rw [List.nil_append] at hR3; have hb3 := hR3.2.1; obtain ⟨A3, c3, rfl, hr3⟩ := hR3.reads' (by omega); have hpw := parse_walk w3 A3 c3 (str xs) (hG2.below hb3) (hGN2.below hb3) (by rw [str_size]; omega) hr3; rw [show (str xs).data.toList = xs from rfl, hp] at hpw)
      | (go_at_call 10; refine hpw.mono ?_; rintro e w4 ⟨hb4, rfl⟩; have hB := hb2.trans ((hb3.trans (hb4.mono hb3.size)).mono hb2.size)))
    go_ret
    exact ⟨rfl, hB⟩

theorem jsonCuts_walk (A : Option Addr) (c : Nat) (xs : List UInt8) (cut : Int) (w : World) (hG : Aside0 (Glob w)) (hGN : Aside0 (GlobN w)) (hA : Gvn w A xs c) (hn : -9223372036854775808 ≤ cut ∧ cut ≤ 9223372036854775807) :
    Calls Tryd.prog 4 #[.slice A xs.length c, .int .i64 cut] w fun e w' => e = .returned (.bool true) ∧ Below w.heap.size w w' := by
  by_cases hs : xs.length < 2 ∨ 60000 < xs.length
  · exact cuts_short A c xs cut w hG hGN hs
  · cases A with
    | none => have h1 := hA.2.2.2 rfl; have h2 := hA.1; omega
    | some ad =>
      have h2 : 2 ≤ xs.length := by omega
      have h6 : xs.length ≤ 60000 := by omega
      by_cases z1 : xs[0]'(by omega) = 91
      · exact cuts_list ad c xs cut w hG hGN hA h2 h6 z1
      · by_cases z2 : xs[0]'(by omega) = 123
        · exact cuts_object ad c xs cut w hG hGN hA h2 h6 z2
        · exact cuts_other ad c xs cut w hG hGN hA h2 h6 _ rfl z1 z2

end Go.Proofs.YtipbcdjnemdciaaDoor.Js
