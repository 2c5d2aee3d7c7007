/- The reader's escapes walked: four digits, what stands behind a backslash, one rune. -/
import Derived.Test.YtipbcdjnemdciaaDoorReader2
import Derived.Laws.BitsLemmas
set_option linter.unusedVariables false
set_option linter.unusedSimpArgs false
namespace Go.Proofs.YtipbcdjnemdciaaDoor.Js
open Go.RowKit Go.Lib Go.Proofs.YtipbcdjnemdciaaDoor.PSh Go.Proofs.YtipbcdjnemdciaaDoorW.PrintWords Go.Proofs.YtipbcdjnemdciaaDoorW.PrintLast Go.Proofs.YtipbcdjnemdciaaDoorW.PrintMore

theorem or_four (x d : Int) (h0 : 0 ≤ x) (h1 : x < 65536) (h2 : 0 ≤ d) (h3 : d < 16) : Go.bits .or .i32 (x * 16) d = x * 16 + d := by
  have hk : ∀ m : Int, 0 ≤ m → m < 2 ^ 31 → IntKind.i32.wrap m = m := fun m h0 h1 => by rw [IntKind.wrap_i32]; omega
  exact bits_join .i32 31 (by decide) hk 4 (x * 16) d (by omega) (by omega) (by omega) h2 (by omega) (by omega)
theorem hex_zero (l : List UInt8) (p fr n : Nat) : hex 0 l p fr n = .ok l p n := rfl
theorem hex_end (k p fr n : Nat) : hex (k + 1) [] p fr n = .no p 21 := rfl
theorem hex_bad (k : Nat) (c : UInt8) (r : List UInt8) (p fr n : Nat) (h : digit c = none) : hex (k + 1) (c :: r) p fr n = .no fr 24 := by
  unfold hex; rw [h]
theorem hex_good (k : Nat) (c : UInt8) (r : List UInt8) (p fr n d : Nat) (h : digit c = some d) : hex (k + 1) (c :: r) p fr n = hex k r (p + 1) fr (16 * n + d) := by
  rw [show hex (k + 1) (c :: r) p fr n = (match digit c with | none => .no fr 24 | some d => hex k r (p + 1) fr (16 * n + d)) from rfl, h]
theorem pow16 (k : Nat) (h : k < 4) : 16 ^ (k + 1) ≤ 65536 := by
  match k, h with
  | 0, _ => decide
  | 1, _ => decide
  | 2, _ => decide
  | 3, _ => decide

set_option maxHeartbeats 8000000 in
set_option maxRecDepth 100000 in
theorem hex_walk (w0 w : World) (b : Nat) (s : ByteArray) (p fr : Nat) (tv : Value) (hA : At w0 b s (p : Int) tv w) (hp : p ≤ s.size) (hs : s.size ≤ 65536) :
    Calls Tryd.prog 39 #[.pointer (some ⟨b, 0, none⟩), .int .i64 (fr : Int)] w (Ret w0 b s tv w (hex 4 (s.data.toList.drop p) p fr 0) (fun n => .int .i32 (n : Int))) := by
  obtain ⟨res, hres⟩ : ∃ r, hex 4 (s.data.toList.drop p) p fr 0 = r := ⟨_, rfl⟩
  rw [hres]
  have HRes := Aside0.mk hres
  clear hres
  have hk0 := KeepBut.refl w b none
  obtain ⟨zf, hzf⟩ : ∃ z : Int, z = fr := ⟨_, rfl⟩
  rw [← hzf]
  have HF := Aside0.mk hzf
  clear hzf
  go_enter Tryd.func39, Tryd.ntmps39
  go_wp2
  go_loopw [5, 6, 7] (fun k5 _ k7 wr => ∃ (k n q : Nat) (zk zn z : Int), Aside0 (zk = k ∧ zn = n ∧ z = q ∧ k ≤ 4 ∧ q ≤ s.size ∧ n < 16 ^ k ∧ hex (4 - k) (s.data.toList.drop q) q fr n = res) ∧ k7 = .int .i64 zk ∧ k5 = .int .i32 zn ∧ 0 ≤ zk ∧ zk ≤ 4 ∧ 0 ≤ zn ∧ zn ≤ 65536 ∧ At w0 b s z tv wr ∧ KeepBut w wr b none) (fun _ _ k7 _ => 4 - (RowKit.intOf k7).toNat)
  case atStart => exact ⟨0, 0, p, 0, 0, (p : Int), ⟨rfl, rfl, rfl, by omega, hp, by decide, HRes.out⟩, rfl, rfl, by omega, by omega, by omega, by omega, hA, hk0⟩
  case round =>
    clear hA hk0 HRes
    obtain ⟨k, n, q, zk, zn, z, HZ, rfl, rfl, hzk0, hzk1, hzn0, hzn1, hA, hk⟩ := hrel
    have hc0 := hA.c0
    have hc1 := hA.c1
    have hf1 := hA.fr 1
    obtain ⟨l, hl⟩ : ∃ l, s.data.toList.drop q = l := ⟨_, rfl⟩
    have hw := HZ.out.2.2.2.2.2.2
    rw [hl] at hw
    have HW := Aside0.mk hw
    clear hw
    have p4 : (0 ≤ z) = True := eq_true (by have := HZ.out.2.2.1; omega)
    by_cases hk4 : k = 4
    · have c2 : decide (zk < 4) = false := decide_eq_false (by have h1 := HZ.out; omega)
      have HL := Aside0.mk hl
      have HK4 := Aside0.mk hk4
      clear hl hk4
      go_wp2
      go_ret
      have h1 := HW.out
      rw [HK4.out, Nat.sub_self, hex_zero] at h1
      rw [← h1]
      exact ⟨congrArg (fun x => Ending.returned (Value.int .i32 x)) HZ.out.2.1, HL.out.symm, HZ.out.2.2.2.2.1, by rw [← HZ.out.2.2.1]; exact hA, hk⟩
    · have c2 : decide (zk < 4) = true := decide_eq_true (by have h1 := HZ.out; omega)
      have hk3 : k < 4 := by have h1 := HZ.out; omega
      have hzk3 : zk < 4 := by have h1 := HZ.out; omega
      have h4k : 4 - k = (3 - k) + 1 := by omega
      have H4 := Aside0.mk h4k
      clear h4k hk4
      cases l with
      | nil =>
        have c3 : decide ((s.size : Int) ≤ z) = true := decide_eq_true (by have h1 := HZ.out; have h2 := drop_end (by omega) hl; omega)
        clear hl
        go_wp2
        go_quiet (fail)
        go_wp2_with (go_at_call 19; refine (fail_walk _ _ _).mono ?_; rintro e w2 ⟨rfl, rfl⟩)
        have h1 := HW.out
        rw [H4.out, hex_end] at h1
        rw [← h1]
        exact ⟨rfl, by rw [← HZ.out.2.2.1], (hA.drewN _).2.1⟩
      | cons c l =>
        obtain ⟨hlt, hbt, hl1⟩ := bt_head hl
        have c3 : decide ((s.size : Int) ≤ z) = false := decide_eq_false (by have h1 := HZ.out; omega)
        have q4 : (z < (s.size : Int)) = True := eq_true (by have h1 := HZ.out; omega)
        have hx := bt_at s z
        rw [← HZ.out.2.2.1] at hbt
        have hv0 : 0 ≤ bt s z ∧ bt s z < 256 := by have := c.toNat_lt; omega
        generalize bt s z = v at *
        have HB := Aside0.mk hbt
        have HN := Aside0.mk hl1
        clear hbt hl hl1
        obtain ⟨hv1, hv2⟩ := hv0
        have hz1 : 0 ≤ z := by have := HZ.out.2.2.1; omega
        have hz2 : z < 65536 := by have := HZ.out; omega
        have hpw := pow16 k hk3
        have hzn2 : zn * 16 < 65536 := by have h1 := HZ.out; rw [Nat.pow_succ] at hpw; omega
        have hcase : (48 ≤ v ∧ v ≤ 57) ∨ (97 ≤ v ∧ v ≤ 102) ∨ (65 ≤ v ∧ v ≤ 70) ∨ (v < 48) ∨ (57 < v ∧ v < 65) ∨ (70 < v ∧ v < 97) ∨ (102 < v) := by omega
        rcases hcase with h | h | h | h | h | h | h
        · have e48 : decide (48 ≤ v) = true := decide_eq_true (by omega)
          have e57 : decide (v ≤ 57) = true := decide_eq_true (by omega)
          have hd0 : 48 ≤ v := by omega
          have hd1 : v ≤ 57 := by omega
          have HD : Aside0 (digit c = some (v - 48).toNat) := ⟨by have := HB.out; unfold digit; rw [if_pos (by omega)]; congr 1; omega⟩
          clear h
          go_wp2
          go_quiet (fail)
          go_wp2
          go_quiet (fail)
          go_wp2
          go_roundw
          case rel =>
            have h1 := HW.out
            have h2 := HZ.out
            rw [H4.out, hex_good _ _ _ _ _ _ _ HD.out] at h1
            exact ⟨k + 1, 16 * n + (v - 48).toNat, q + 1, zk + 1, zn * 16 + (v - 48), z + 1, ⟨by omega, by omega, by omega, hk3, hlt, by rw [Nat.pow_succ]; omega, by rw [HN.out, show 4 - (k + 1) = 3 - k by omega]; exact h1⟩, rfl, congrArg (Value.int .i32) ((or_four zn (v - 48) hzn0 (by omega) (by omega) (by omega)).trans (by omega)), by omega, by omega, by omega, by omega, (hA.drewN _).set1 _, (keep_drewN hk _).set_ _ _⟩
          case measure => simp [RowKit.intOf]; omega
        · have e48 : decide (48 ≤ v) = true := decide_eq_true (by omega)
          have e57 : decide (v ≤ 57) = false := decide_eq_false (by omega)
          have e97 : decide (97 ≤ v) = true := decide_eq_true (by omega)
          have e102 : decide (v ≤ 102) = true := decide_eq_true (by omega)
          have hd0 : 97 ≤ v := by omega
          have hd1 : v ≤ 102 := by omega
          have HD : Aside0 (digit c = some (v - 87).toNat) := ⟨by have := HB.out; unfold digit; rw [if_neg (by omega), if_pos (by omega)]; congr 1; omega⟩
          clear h
          go_wp2
          go_quiet (fail)
          go_wp2
          go_quiet (fail)
          go_wp2
          go_roundw
          case rel =>
            have h1 := HW.out
            have h2 := HZ.out
            rw [H4.out, hex_good _ _ _ _ _ _ _ HD.out] at h1
            exact ⟨k + 1, 16 * n + (v - 87).toNat, q + 1, zk + 1, zn * 16 + (v - 87), z + 1, ⟨by omega, by omega, by omega, hk3, hlt, by rw [Nat.pow_succ]; omega, by rw [HN.out, show 4 - (k + 1) = 3 - k by omega]; exact h1⟩, rfl, congrArg (Value.int .i32) ((or_four zn (v - 97 + 10) hzn0 (by omega) (by omega) (by omega)).trans (by omega)), by omega, by omega, by omega, by omega, (hA.drewN _).set1 _, (keep_drewN hk _).set_ _ _⟩
          case measure => simp [RowKit.intOf]; omega
        · have e48 : decide (48 ≤ v) = true := decide_eq_true (by omega)
          have e57 : decide (v ≤ 57) = false := decide_eq_false (by omega)
          have e97 : decide (97 ≤ v) = false := decide_eq_false (by omega)
          have e65 : decide (65 ≤ v) = true := decide_eq_true (by omega)
          have e70 : decide (v ≤ 70) = true := decide_eq_true (by omega)
          have hd0 : 65 ≤ v := by omega
          have hd1 : v ≤ 70 := by omega
          have HD : Aside0 (digit c = some (v - 55).toNat) := ⟨by have := HB.out; unfold digit; rw [if_neg (by omega), if_neg (by omega), if_pos (by omega)]; congr 1; omega⟩
          clear h
          go_wp2
          go_quiet (fail)
          go_wp2
          go_quiet (fail)
          go_wp2
          go_roundw
          case rel =>
            have h1 := HW.out
            have h2 := HZ.out
            rw [H4.out, hex_good _ _ _ _ _ _ _ HD.out] at h1
            exact ⟨k + 1, 16 * n + (v - 55).toNat, q + 1, zk + 1, zn * 16 + (v - 55), z + 1, ⟨by omega, by omega, by omega, hk3, hlt, by rw [Nat.pow_succ]; omega, by rw [HN.out, show 4 - (k + 1) = 3 - k by omega]; exact h1⟩, rfl, congrArg (Value.int .i32) ((or_four zn (v - 65 + 10) hzn0 (by omega) (by omega) (by omega)).trans (by omega)), by omega, by omega, by omega, by omega, (hA.drewN _).set1 _, (keep_drewN hk _).set_ _ _⟩
          case measure => simp [RowKit.intOf]; omega
        · have e48 : decide (48 ≤ v) = false := decide_eq_false (by omega)
          have e97 : decide (97 ≤ v) = false := decide_eq_false (by omega)
          have e65 : decide (65 ≤ v) = false := decide_eq_false (by omega)
          have HD : Aside0 (digit c = none) := ⟨by have := HB.out; unfold digit; rw [if_neg (by omega), if_neg (by omega), if_neg (by omega)]⟩
          clear h
          go_wp2
          go_quiet (fail)
          go_wp2
          go_quiet (fail)
          go_wp2_with (go_at_call 19; refine (fail_walk _ _ _).mono ?_; rintro e w2 ⟨rfl, rfl⟩)
          have h1 := HW.out
          rw [H4.out, hex_bad _ _ _ _ _ _ HD.out] at h1
          rw [← h1]
          exact ⟨rfl, by rw [← HF.out], (hA.drewN _).2.1⟩
        · have e48 : decide (48 ≤ v) = true := decide_eq_true (by omega)
          have e57 : decide (v ≤ 57) = false := decide_eq_false (by omega)
          have e97 : decide (97 ≤ v) = false := decide_eq_false (by omega)
          have e65 : decide (65 ≤ v) = false := decide_eq_false (by omega)
          have HD : Aside0 (digit c = none) := ⟨by have := HB.out; unfold digit; rw [if_neg (by omega), if_neg (by omega), if_neg (by omega)]⟩
          clear h
          go_wp2
          go_quiet (fail)
          go_wp2
          go_quiet (fail)
          go_wp2_with (go_at_call 19; refine (fail_walk _ _ _).mono ?_; rintro e w2 ⟨rfl, rfl⟩)
          have h1 := HW.out
          rw [H4.out, hex_bad _ _ _ _ _ _ HD.out] at h1
          rw [← h1]
          exact ⟨rfl, by rw [← HF.out], (hA.drewN _).2.1⟩
        · have e48 : decide (48 ≤ v) = true := decide_eq_true (by omega)
          have e57 : decide (v ≤ 57) = false := decide_eq_false (by omega)
          have e97 : decide (97 ≤ v) = false := decide_eq_false (by omega)
          have e65 : decide (65 ≤ v) = true := decide_eq_true (by omega)
          have e70 : decide (v ≤ 70) = false := decide_eq_false (by omega)
          have HD : Aside0 (digit c = none) := ⟨by have := HB.out; unfold digit; rw [if_neg (by omega), if_neg (by omega), if_neg (by omega)]⟩
          clear h
          go_wp2
          go_quiet (fail)
          go_wp2
          go_quiet (fail)
          go_wp2_with (go_at_call 19; refine (fail_walk _ _ _).mono ?_; rintro e w2 ⟨rfl, rfl⟩)
          have h1 := HW.out
          rw [H4.out, hex_bad _ _ _ _ _ _ HD.out] at h1
          rw [← h1]
          exact ⟨rfl, by rw [← HF.out], (hA.drewN _).2.1⟩
        · have e48 : decide (48 ≤ v) = true := decide_eq_true (by omega)
          have e57 : decide (v ≤ 57) = false := decide_eq_false (by omega)
          have e97 : decide (97 ≤ v) = true := decide_eq_true (by omega)
          have e102 : decide (v ≤ 102) = false := decide_eq_false (by omega)
          have e65 : decide (65 ≤ v) = true := decide_eq_true (by omega)
          have e70 : decide (v ≤ 70) = false := decide_eq_false (by omega)
          have HD : Aside0 (digit c = none) := ⟨by have := HB.out; unfold digit; rw [if_neg (by omega), if_neg (by omega), if_neg (by omega)]⟩
          clear h
          go_wp2
          go_quiet (fail)
          go_wp2
          go_quiet (fail)
          go_wp2_with (go_at_call 19; refine (fail_walk _ _ _).mono ?_; rintro e w2 ⟨rfl, rfl⟩)
          have h1 := HW.out
          rw [H4.out, hex_bad _ _ _ _ _ _ HD.out] at h1
          rw [← h1]
          exact ⟨rfl, by rw [← HF.out], (hA.drewN _).2.1⟩

end Go.Proofs.YtipbcdjnemdciaaDoor.Js
