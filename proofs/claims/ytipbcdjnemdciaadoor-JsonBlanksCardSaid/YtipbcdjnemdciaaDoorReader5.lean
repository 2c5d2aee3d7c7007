/- The reader's 'half' walked: what stands behind a backslash. -/
import Derived.Test.YtipbcdjnemdciaaDoorReader4
set_option linter.unusedVariables false
set_option linter.unusedSimpArgs false
namespace Go.Proofs.YtipbcdjnemdciaaDoor.Js
open Go.RowKit Go.Lib Go.Proofs.YtipbcdjnemdciaaDoor.PSh Go.Proofs.YtipbcdjnemdciaaDoorW.PrintWords Go.Proofs.YtipbcdjnemdciaaDoorW.PrintLast Go.Proofs.YtipbcdjnemdciaaDoorW.PrintMore

theorem At.cast {w0 w : World} {b : Nat} {s : ByteArray} {z z' : Int} {tv : Value} (h : At w0 b s z tv w) (e : z = z') : At w0 b s z' tv w := e ▸ h
theorem half_two (x c : UInt8) (r : List UInt8) (p fr n : Nat) (h : mark c = some n) : half (x :: c :: r) p fr = .ok r (p + 2) n := by
  rw [show half (x :: c :: r) p fr = (match mark c with | some n => .ok r (p + 2) n | none => if c = 117 then hex 4 r (p + 2) fr 0 else .no fr 24) from rfl, h]
theorem half_none (x c : UInt8) (r : List UInt8) (p fr : Nat) (h : mark c = none) : half (x :: c :: r) p fr = if c = 117 then hex 4 r (p + 2) fr 0 else .no fr 24 := by
  rw [show half (x :: c :: r) p fr = (match mark c with | some n => .ok r (p + 2) n | none => if c = 117 then hex 4 r (p + 2) fr 0 else .no fr 24) from rfl, h]
theorem byte_is (c : UInt8) (n : Nat) (hn : n < 256) (h : c.toNat = n) : c = UInt8.ofNat n := UInt8.toNat.inj (by rw [h]; simp; omega)

set_option maxHeartbeats 16000000 in
set_option maxRecDepth 100000 in
theorem half_walk (w0 w : World) (b : Nat) (s : ByteArray) (p fr : Nat) (tv : Value) (hA : At w0 b s (p : Int) tv w) (hp : p ≤ s.size) (hs : s.size ≤ 65536) :
    Calls Tryd.prog 34 #[.pointer (some ⟨b, 0, none⟩), .int .i64 (fr : Int)] w (Ret w0 b s tv w (half (s.data.toList.drop p) p fr) (fun n => .int .i32 (n : Int))) := by
  obtain ⟨res, hres⟩ : ∃ r, half (s.data.toList.drop p) p fr = r := ⟨_, rfl⟩
  rw [hres]
  have hk := KeepBut.refl w b none
  obtain ⟨z, hz⟩ : ∃ z : Int, z = p := ⟨_, rfl⟩
  replace hA := hA.cast hz.symm
  have hc0 := hA.c0
  have hc1 := hA.c1
  have hf1 := hA.fr 1
  have hz0 : 0 ≤ z := by omega
  have hz1 : z ≤ 65536 := by omega
  have p4 : (0 ≤ z) = True := eq_true hz0
  have p5 : (0 ≤ z + 1) = True := eq_true (by omega)
  have HZ := Aside0.mk hz
  obtain ⟨l, hl⟩ : ∃ l, s.data.toList.drop p = l := ⟨_, rfl⟩
  rw [hl] at hres
  have hlen : l.length = s.size - p := by rw [← hl, List.length_drop, data_length]
  match l, hres, hl, hlen with
  | [], hres, hl, hlen =>
    have c2 : decide ((s.size : Int) ≤ z + 1) = true := decide_eq_true (by simp at hlen; omega)
    have HR := Aside0.mk (show R.no s.size 21 = res by rw [← hres]; simp at hlen; rw [show s.size = p by omega]; rfl)
    clear hl hres hlen hz
    go_enter Tryd.func34, Tryd.ntmps34
    go_wp2
    go_quiet (fail)
    go_wp2_with (go_at_call 19; refine (fail_walk _ _ _).mono ?_; rintro e w2 ⟨rfl, rfl⟩)
    rw [← HR.out]
    exact ⟨rfl, rfl, (hA.drewN _).2.1⟩
  | [x], hres, hl, hlen =>
    have c2 : decide ((s.size : Int) ≤ z + 1) = true := decide_eq_true (by simp at hlen; omega)
    have HR := Aside0.mk (show R.no s.size 21 = res by rw [← hres]; simp at hlen; rw [show s.size = p + 1 by omega]; rfl)
    clear hl hres hlen hz
    go_enter Tryd.func34, Tryd.ntmps34
    go_wp2
    go_quiet (fail)
    go_wp2_with (go_at_call 19; refine (fail_walk _ _ _).mono ?_; rintro e w2 ⟨rfl, rfl⟩)
    rw [← HR.out]
    exact ⟨rfl, rfl, (hA.drewN _).2.1⟩
  | x :: c :: r, hres, hl, hlen =>
    have hl2 : s.data.toList.drop (p + 1) = c :: r := (bt_head hl).2.2
    obtain ⟨hlt, hbt, hr⟩ := bt_head hl2
    have hzz : z + 1 = ((p + 1 : Nat) : Int) := by omega
    rw [← hzz] at hbt
    have c2 : decide ((s.size : Int) ≤ z + 1) = false := decide_eq_false (by omega)
    have q5 : (z + 1 < (s.size : Int)) = True := eq_true (by omega)
    have hx := bt_at s (z + 1)
    have hv0 : 0 ≤ bt s (z + 1) ∧ bt s (z + 1) < 256 := by have := c.toNat_lt; omega
    generalize bt s (z + 1) = v at *
    obtain ⟨hv1, hv2⟩ := hv0
    have hA2 : ∀ w', At w0 b s z tv w' → At w0 b s ((p + 2 : Nat) : Int) tv (w'.setCell ⟨b, 1, none⟩ (.int .i64 (z + 2))) := fun w' h => (h.set1 _).cast (by omega)
    have HA2 := Aside0.mk hA2
    have HB := Aside0.mk hbt
    have HR := Aside0.mk hres
    have hp2 : p + 2 ≤ s.size := by omega
    have HD := Aside0.mk (show s.data.toList.drop (p + 2) = r from hr)
    clear hl hl2 hbt hr hzz hres hlen hz hA2 hlt
    have hcase : v = 34 ∨ v = 92 ∨ v = 47 ∨ v = 98 ∨ v = 102 ∨ v = 110 ∨ v = 114 ∨ v = 116 ∨ v = 117 ∨ (v ≠ 34 ∧ v ≠ 92 ∧ v ≠ 47 ∧ v ≠ 98 ∧ v ≠ 102 ∧ v ≠ 110 ∧ v ≠ 114 ∧ v ≠ 116 ∧ v ≠ 117) := by omega
    rcases hcase with h | h | h | h | h | h | h | h | h | h
    · have e34 : (v == 34) = true := beq_iff_eq.2 h
      have HM : Aside0 (mark c = some 34) := ⟨by have h1 := byte_is c 34 (by decide) (by have := HB.out; omega); rw [h1]; rfl⟩
      have HV := Aside0.mk h
      clear h
      go_enter Tryd.func34, Tryd.ntmps34
      go_wp2
      go_quiet (fail)
      go_wp2
      go_quiet (fail)
      go_wp2
      go_ret
      rw [← HR.out, half_two _ _ _ _ _ _ HM.out]
      exact ⟨congrArg (fun t => Ending.returned (Value.int .i32 t)) HV.out, HD.out.symm, hp2, HA2.out _ (hA.drewN _), (keep_drewN hk _).set_ _ _⟩
    · have e34 : (v == 34) = false := beq_eq_false_iff_ne.2 (by omega)
      have e92 : (v == 92) = true := beq_iff_eq.2 h
      have HM : Aside0 (mark c = some 92) := ⟨by have h1 := byte_is c 92 (by decide) (by have := HB.out; omega); rw [h1]; rfl⟩
      have HV := Aside0.mk h
      clear h
      go_enter Tryd.func34, Tryd.ntmps34
      go_wp2
      go_quiet (fail)
      go_wp2
      go_quiet (fail)
      go_wp2
      go_ret
      rw [← HR.out, half_two _ _ _ _ _ _ HM.out]
      exact ⟨congrArg (fun t => Ending.returned (Value.int .i32 t)) HV.out, HD.out.symm, hp2, HA2.out _ (hA.drewN _), (keep_drewN hk _).set_ _ _⟩
    · have e34 : (v == 34) = false := beq_eq_false_iff_ne.2 (by omega)
      have e92 : (v == 92) = false := beq_eq_false_iff_ne.2 (by omega)
      have e47 : (v == 47) = true := beq_iff_eq.2 h
      have HM : Aside0 (mark c = some 47) := ⟨by have h1 := byte_is c 47 (by decide) (by have := HB.out; omega); rw [h1]; rfl⟩
      have HV := Aside0.mk h
      clear h
      go_enter Tryd.func34, Tryd.ntmps34
      go_wp2
      go_quiet (fail)
      go_wp2
      go_quiet (fail)
      go_wp2
      go_ret
      rw [← HR.out, half_two _ _ _ _ _ _ HM.out]
      exact ⟨congrArg (fun t => Ending.returned (Value.int .i32 t)) HV.out, HD.out.symm, hp2, HA2.out _ (hA.drewN _), (keep_drewN hk _).set_ _ _⟩
    · have e34 : (v == 34) = false := beq_eq_false_iff_ne.2 (by omega)
      have e92 : (v == 92) = false := beq_eq_false_iff_ne.2 (by omega)
      have e47 : (v == 47) = false := beq_eq_false_iff_ne.2 (by omega)
      have e98 : (v == 98) = true := beq_iff_eq.2 h
      have HM : Aside0 (mark c = some 8) := ⟨by have h1 := byte_is c 98 (by decide) (by have := HB.out; omega); rw [h1]; rfl⟩
      clear h
      go_enter Tryd.func34, Tryd.ntmps34
      go_wp2
      go_quiet (fail)
      go_wp2
      go_quiet (fail)
      go_wp2
      go_ret
      rw [← HR.out, half_two _ _ _ _ _ _ HM.out]
      exact ⟨rfl, HD.out.symm, hp2, HA2.out _ (hA.drewN _), (keep_drewN hk _).set_ _ _⟩
    · have e34 : (v == 34) = false := beq_eq_false_iff_ne.2 (by omega)
      have e92 : (v == 92) = false := beq_eq_false_iff_ne.2 (by omega)
      have e47 : (v == 47) = false := beq_eq_false_iff_ne.2 (by omega)
      have e98 : (v == 98) = false := beq_eq_false_iff_ne.2 (by omega)
      have e102 : (v == 102) = true := beq_iff_eq.2 h
      have HM : Aside0 (mark c = some 12) := ⟨by have h1 := byte_is c 102 (by decide) (by have := HB.out; omega); rw [h1]; rfl⟩
      clear h
      go_enter Tryd.func34, Tryd.ntmps34
      go_wp2
      go_quiet (fail)
      go_wp2
      go_quiet (fail)
      go_wp2
      go_ret
      rw [← HR.out, half_two _ _ _ _ _ _ HM.out]
      exact ⟨rfl, HD.out.symm, hp2, HA2.out _ (hA.drewN _), (keep_drewN hk _).set_ _ _⟩
    · have e34 : (v == 34) = false := beq_eq_false_iff_ne.2 (by omega)
      have e92 : (v == 92) = false := beq_eq_false_iff_ne.2 (by omega)
      have e47 : (v == 47) = false := beq_eq_false_iff_ne.2 (by omega)
      have e98 : (v == 98) = false := beq_eq_false_iff_ne.2 (by omega)
      have e102 : (v == 102) = false := beq_eq_false_iff_ne.2 (by omega)
      have e110 : (v == 110) = true := beq_iff_eq.2 h
      have HM : Aside0 (mark c = some 10) := ⟨by have h1 := byte_is c 110 (by decide) (by have := HB.out; omega); rw [h1]; rfl⟩
      clear h
      go_enter Tryd.func34, Tryd.ntmps34
      go_wp2
      go_quiet (fail)
      go_wp2
      go_quiet (fail)
      go_wp2
      go_ret
      rw [← HR.out, half_two _ _ _ _ _ _ HM.out]
      exact ⟨rfl, HD.out.symm, hp2, HA2.out _ (hA.drewN _), (keep_drewN hk _).set_ _ _⟩
    · have e34 : (v == 34) = false := beq_eq_false_iff_ne.2 (by omega)
      have e92 : (v == 92) = false := beq_eq_false_iff_ne.2 (by omega)
      have e47 : (v == 47) = false := beq_eq_false_iff_ne.2 (by omega)
      have e98 : (v == 98) = false := beq_eq_false_iff_ne.2 (by omega)
      have e102 : (v == 102) = false := beq_eq_false_iff_ne.2 (by omega)
      have e110 : (v == 110) = false := beq_eq_false_iff_ne.2 (by omega)
      have e114 : (v == 114) = true := beq_iff_eq.2 h
      have HM : Aside0 (mark c = some 13) := ⟨by have h1 := byte_is c 114 (by decide) (by have := HB.out; omega); rw [h1]; rfl⟩
      clear h
      go_enter Tryd.func34, Tryd.ntmps34
      go_wp2
      go_quiet (fail)
      go_wp2
      go_quiet (fail)
      go_wp2
      go_ret
      rw [← HR.out, half_two _ _ _ _ _ _ HM.out]
      exact ⟨rfl, HD.out.symm, hp2, HA2.out _ (hA.drewN _), (keep_drewN hk _).set_ _ _⟩
    · have e34 : (v == 34) = false := beq_eq_false_iff_ne.2 (by omega)
      have e92 : (v == 92) = false := beq_eq_false_iff_ne.2 (by omega)
      have e47 : (v == 47) = false := beq_eq_false_iff_ne.2 (by omega)
      have e98 : (v == 98) = false := beq_eq_false_iff_ne.2 (by omega)
      have e102 : (v == 102) = false := beq_eq_false_iff_ne.2 (by omega)
      have e110 : (v == 110) = false := beq_eq_false_iff_ne.2 (by omega)
      have e114 : (v == 114) = false := beq_eq_false_iff_ne.2 (by omega)
      have e116 : (v == 116) = true := beq_iff_eq.2 h
      have HM : Aside0 (mark c = some 9) := ⟨by have h1 := byte_is c 116 (by decide) (by have := HB.out; omega); rw [h1]; rfl⟩
      clear h
      go_enter Tryd.func34, Tryd.ntmps34
      go_wp2
      go_quiet (fail)
      go_wp2
      go_quiet (fail)
      go_wp2
      go_ret
      rw [← HR.out, half_two _ _ _ _ _ _ HM.out]
      exact ⟨rfl, HD.out.symm, hp2, HA2.out _ (hA.drewN _), (keep_drewN hk _).set_ _ _⟩
    · have e34 : (v == 34) = false := beq_eq_false_iff_ne.2 (by omega)
      have e92 : (v == 92) = false := beq_eq_false_iff_ne.2 (by omega)
      have e47 : (v == 47) = false := beq_eq_false_iff_ne.2 (by omega)
      have e98 : (v == 98) = false := beq_eq_false_iff_ne.2 (by omega)
      have e102 : (v == 102) = false := beq_eq_false_iff_ne.2 (by omega)
      have e110 : (v == 110) = false := beq_eq_false_iff_ne.2 (by omega)
      have e114 : (v == 114) = false := beq_eq_false_iff_ne.2 (by omega)
      have e116 : (v == 116) = false := beq_eq_false_iff_ne.2 (by omega)
      have e117 : (v == 117) = true := beq_iff_eq.2 h
      have h1 : c = 117 := byte_is c 117 (by decide) (by have := HB.out; omega)
      have HM := Aside0.mk (show hex 4 (s.data.toList.drop (p + 2)) (p + 2) fr 0 = res by rw [← HR.out, half_none _ _ _ _ _ (by rw [h1]; rfl), if_pos h1, HD.out])
      clear h h1
      have hxw := fun (w' : World) (h : At w0 b s z tv w') => hex_walk w0 (w'.setCell ⟨b, 1, none⟩ (.int .i64 (z + 2))) b s (p + 2) fr tv (HA2.out w' h) hp2 hs
      rw [HM.out] at hxw
      have HX := Aside0.mk hxw
      clear hxw
      cases res with
      | no pp ee =>
        go_enter Tryd.func34, Tryd.ntmps34
        go_wp2
        go_quiet (fail)
        go_wp2
        go_quiet (fail)
        go_wp2_with (go_at_call 39; refine (HX.out _ (hA.drewN _)).mono ?_; rintro e w2 ⟨rfl, hb2⟩)
        exact ⟨rfl, rfl, hb2⟩
      | ok l2 p2 n =>
        go_enter Tryd.func34, Tryd.ntmps34
        go_wp2
        go_quiet (fail)
        go_wp2
        go_quiet (fail)
        go_wp2_with (go_at_call 39; refine (HX.out _ (hA.drewN _)).mono ?_; rintro e w2 ⟨rfl, hl2, hp3, hA3, hk3⟩; have HL := Aside0.mk hl2; clear hl2)
        go_ret
        exact ⟨rfl, HL.out, hp3, hA3, ((keep_drewN hk _).set_ 1 _).trans hk3 (.inl rfl)⟩
    · obtain ⟨h0, h1, h2, h3, h4, h5, h6, h7, h8⟩ := h
      have e34 : (v == 34) = false := beq_eq_false_iff_ne.2 (by omega)
      have e92 : (v == 92) = false := beq_eq_false_iff_ne.2 (by omega)
      have e47 : (v == 47) = false := beq_eq_false_iff_ne.2 (by omega)
      have e98 : (v == 98) = false := beq_eq_false_iff_ne.2 (by omega)
      have e102 : (v == 102) = false := beq_eq_false_iff_ne.2 (by omega)
      have e110 : (v == 110) = false := beq_eq_false_iff_ne.2 (by omega)
      have e114 : (v == 114) = false := beq_eq_false_iff_ne.2 (by omega)
      have e116 : (v == 116) = false := beq_eq_false_iff_ne.2 (by omega)
      have e117 : (v == 117) = false := beq_eq_false_iff_ne.2 (by omega)
      have HM := Aside0.mk (show R.no fr 24 = res by rw [← HR.out, half_none _ _ _ _ _ (by unfold mark; have := HB.out; rw [if_neg, if_neg, if_neg, if_neg, if_neg, if_neg] <;> (first | (rintro (h | h | h) <;> (rw [h] at this; revert this; simp; omega)) | (intro h; rw [h] at this; revert this; simp; omega))), if_neg (fun h => by have := HB.out; rw [h] at this; revert this; simp; omega)])
      clear h0 h1 h2 h3 h4 h5 h6 h7 h8
      go_enter Tryd.func34, Tryd.ntmps34
      go_wp2
      go_quiet (fail)
      go_wp2
      go_quiet (fail)
      go_wp2_with (go_at_call 19; refine (fail_walk _ _ _).mono ?_; rintro e w2 ⟨rfl, rfl⟩)
      rw [← HM.out]
      exact ⟨rfl, rfl, ((hA.drewN _).set1 _).2.1⟩

end Go.Proofs.YtipbcdjnemdciaaDoor.Js
