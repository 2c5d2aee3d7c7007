-- Laid by wip/mk/mk.py of this session (the kit's printer with this session's contracts for library functions).
import Derived.Test.YtcnhnjajfkgkjaaDoorPNux0
import Derived.Test.YtcnhnjajfkgkjaaDoorPNux1
import Derived.Test.YtcnhnjajfkgkjaaDoorPNux2
namespace Go.Proofs.YtcnhnjajfkgkjaaDoor.PNu
open Go.RowKit Go.Proofs.YtcnhnjajfkgkjaaDoorW.PrintWords Go.Proofs.YtcnhnjajfkgkjaaDoorW.PrintLast Go.Proofs.YtcnhnjajfkgkjaaDoorW.PrintMore
attribute [local go_sem] max2_int min2_int max_two min_two max_three min_three max_four min_four   -- for this text's walks alone
set_option linter.unusedVariables false
set_option linter.unusedSimpArgs false

/-! ### haulierlaw01_NumReckons: function 5 -/
def haulierlaw01_NumReckons.f (k : Nat) (a0 : Int) (a1 : Int) : Option (Bool) := (haulierlaw01_Awake.f).bind fun t137 => (if t137 = true then ((num_Add.f a0 a1).bind fun bt138 => ((haulierref01_Add.f a0 a1).bind fun bt140 => ((num_Mul.f a0 a1).bind fun bt142 => ((haulierref01_Mul.f k a0 a1).bind fun bt144 => ((num_Fits.f a0).bind fun t146 => ((haulierref01_Fits.f a0).bind fun t147 => (if (t146 == t147) = true then (if bt138.1 = bt140.1 then (if bt138.2 = bt140.2 then (if bt142.1 = bt144.1 then (some (bt142.2 == bt144.2)) else (some false)) else (some false)) else (some false)) else (some false)))))))) else (some false))
theorem haulierlaw01_NumReckons.mono : ∀ a0 a1 k, LeO (haulierlaw01_NumReckons.f k a0 a1) (haulierlaw01_NumReckons.f (k + 1) a0 a1) := by
  intro a0 a1 k
  unfold haulierlaw01_NumReckons.f
  repeat' first
      | (with_reducible exact haulierref01_Mul.mono _ _ _)
      | (with_reducible exact LeO.refl _)
      | (with_reducible exact LeO.none _)
      | (with_reducible refine LeO.ite ?_ ?_)
      | (with_reducible refine LeO.bind ?_ (fun _ => ?_))
      | exact haulierref01_Mul.mono _ _ _
      | exact LeO.none _
      | refine LeO.ite ?_ ?_
      | refine LeO.bind ?_ (fun _ => ?_)
set_option maxHeartbeats 8000000 in
set_option maxRecDepth 100000 in
theorem haulierlaw01_NumReckons.calls (k : Nat) (a0 : Int) (a1 : Int) (r : Bool) (w : World) (hG : Aside0 (Glob w)) (h : haulierlaw01_NumReckons.f k a0 a1 = some r) :
    Calls Tryd.prog 5 #[.int .i64 a0, .int .i64 a1] w fun e w' => e = .returned (.bool r) ∧ Below w.heap.size w w' := by
  have HB := Aside0.mk (Below.refl w.heap.size w)
  have H : ((haulierlaw01_Awake.f).bind fun t137 => (if t137 = true then ((num_Add.f a0 a1).bind fun bt138 => ((haulierref01_Add.f a0 a1).bind fun bt140 => ((num_Mul.f a0 a1).bind fun bt142 => ((haulierref01_Mul.f k a0 a1).bind fun bt144 => ((num_Fits.f a0).bind fun t146 => ((haulierref01_Fits.f a0).bind fun t147 => (if (t146 == t147) = true then (if bt138.1 = bt140.1 then (if bt138.2 = bt140.2 then (if bt142.1 = bt144.1 then (some (bt142.2 == bt144.2)) else (some false)) else (some false)) else (some false)) else (some false)))))))) else (some false))) = some r := h
  clear h
  replace H := Option.bind_eq_some_iff.mp H
  obtain ⟨t137, A30, H⟩ := H
  replace H : (if t137 = true then ((num_Add.f a0 a1).bind fun bt138 => ((haulierref01_Add.f a0 a1).bind fun bt140 => ((num_Mul.f a0 a1).bind fun bt142 => ((haulierref01_Mul.f k a0 a1).bind fun bt144 => ((num_Fits.f a0).bind fun t146 => ((haulierref01_Fits.f a0).bind fun t147 => (if (t146 == t147) = true then (if bt138.1 = bt140.1 then (if bt138.2 = bt140.2 then (if bt142.1 = bt144.1 then (some (bt142.2 == bt144.2)) else (some false)) else (some false)) else (some false)) else (some false)))))))) else (some false)) = some r := H
  have A3 := Aside0.mk A30
  clear A30
  by_cases c4 : t137 = true
  · subst c4
    have H1 : ((num_Add.f a0 a1).bind fun bt138 => ((haulierref01_Add.f a0 a1).bind fun bt140 => ((num_Mul.f a0 a1).bind fun bt142 => ((haulierref01_Mul.f k a0 a1).bind fun bt144 => ((num_Fits.f a0).bind fun t146 => ((haulierref01_Fits.f a0).bind fun t147 => (if (t146 == t147) = true then (if bt138.1 = bt140.1 then (if bt138.2 = bt140.2 then (if bt142.1 = bt144.1 then (some (bt142.2 == bt144.2)) else (some false)) else (some false)) else (some false)) else (some false)))))))) = some r := by rw [if_pos rfl] at H; exact H
    clear H
    have H := H1
    clear H1
    replace H := Option.bind_eq_some_iff.mp H
    obtain ⟨⟨t138, t139⟩, A50, H⟩ := H
    replace H : ((haulierref01_Add.f a0 a1).bind fun bt140 => ((num_Mul.f a0 a1).bind fun bt142 => ((haulierref01_Mul.f k a0 a1).bind fun bt144 => ((num_Fits.f a0).bind fun t146 => ((haulierref01_Fits.f a0).bind fun t147 => (if (t146 == t147) = true then (if t138 = bt140.1 then (if t139 = bt140.2 then (if bt142.1 = bt144.1 then (some (bt142.2 == bt144.2)) else (some false)) else (some false)) else (some false)) else (some false))))))) = some r := H
    have A5 := Aside0.mk A50
    clear A50
    replace H := Option.bind_eq_some_iff.mp H
    obtain ⟨⟨t140, t141⟩, A60, H⟩ := H
    replace H : ((num_Mul.f a0 a1).bind fun bt142 => ((haulierref01_Mul.f k a0 a1).bind fun bt144 => ((num_Fits.f a0).bind fun t146 => ((haulierref01_Fits.f a0).bind fun t147 => (if (t146 == t147) = true then (if t138 = t140 then (if t139 = t141 then (if bt142.1 = bt144.1 then (some (bt142.2 == bt144.2)) else (some false)) else (some false)) else (some false)) else (some false)))))) = some r := H
    have A6 := Aside0.mk A60
    clear A60
    replace H := Option.bind_eq_some_iff.mp H
    obtain ⟨⟨t142, t143⟩, A70, H⟩ := H
    replace H : ((haulierref01_Mul.f k a0 a1).bind fun bt144 => ((num_Fits.f a0).bind fun t146 => ((haulierref01_Fits.f a0).bind fun t147 => (if (t146 == t147) = true then (if t138 = t140 then (if t139 = t141 then (if t142 = bt144.1 then (some (t143 == bt144.2)) else (some false)) else (some false)) else (some false)) else (some false))))) = some r := H
    have A7 := Aside0.mk A70
    clear A70
    replace H := Option.bind_eq_some_iff.mp H
    obtain ⟨⟨t144, t145⟩, A80, H⟩ := H
    replace H : ((num_Fits.f a0).bind fun t146 => ((haulierref01_Fits.f a0).bind fun t147 => (if (t146 == t147) = true then (if t138 = t140 then (if t139 = t141 then (if t142 = t144 then (some (t143 == t145)) else (some false)) else (some false)) else (some false)) else (some false)))) = some r := H
    have A8 := Aside0.mk A80
    clear A80
    replace H := Option.bind_eq_some_iff.mp H
    obtain ⟨t146, A90, H⟩ := H
    replace H : ((haulierref01_Fits.f a0).bind fun t147 => (if (t146 == t147) = true then (if t138 = t140 then (if t139 = t141 then (if t142 = t144 then (some (t143 == t145)) else (some false)) else (some false)) else (some false)) else (some false))) = some r := H
    have A9 := Aside0.mk A90
    clear A90
    replace H := Option.bind_eq_some_iff.mp H
    obtain ⟨t147, A100, H⟩ := H
    replace H : (if (t146 == t147) = true then (if t138 = t140 then (if t139 = t141 then (if t142 = t144 then (some (t143 == t145)) else (some false)) else (some false)) else (some false)) else (some false)) = some r := H
    have A10 := Aside0.mk A100
    clear A100
    by_cases c11 : (t146 == t147) = true
    · rw [if_pos c11] at H
      have c11b0 : (t146 == t147) = true := c11
      (try (have c11b1 : decide (t146 = t147) = true := by simpa using c11))
      (try (have c11b2 : (t146 == t147) = true := by simpa using c11))
      clear c11
      by_cases c12 : t138 = t140
      · rw [if_pos c12] at H
        have c12b0 : (t138 == t140) = true := beq_iff_eq.mpr c12
        have c12b1 : (t138 != t140) = false := bne_eq_false_iff_eq.mpr c12
        clear c12
        by_cases c13 : t139 = t141
        · rw [if_pos c13] at H
          have c13b0 : (t139 == t141) = true := beq_iff_eq.mpr c13
          have c13b1 : (t139 != t141) = false := bne_eq_false_iff_eq.mpr c13
          clear c13
          by_cases c14 : t142 = t144
          · rw [if_pos c14] at H
            have c14b0 : (t142 == t144) = true := beq_iff_eq.mpr c14
            have c14b1 : (t142 != t144) = false := bne_eq_false_iff_eq.mpr c14
            clear c14
            obtain rfl := Option.some.inj H
            go_enter Tryd.func5, Tryd.ntmps5
            go_wp2_with (first | ((with_reducible refine gate_callee (f := 10) rfl ?_); refine goesL_ (some 13) rfl rfl Tryd.func10 (by kernel_rfl) rfl #[] rfl (by (try simp only [List.map_toArray, List.map_cons, List.map_nil]); first | done | rfl | (simp only [List.length_drop, List.length_take]; rfl)) ?_; (with_reducible refine (haulierlaw01_Awake.calls  true _ ⟨by repeat (first | exact hG.out | exact hG.out.below (by repeat (first | (with_reducible first | exact HB.out | apply below_alloc | apply pw_below_drewN | apply below_drew1) | exact HB.out | exact Below.refl _ _)) | apply Glob.drewN | apply Glob.drew)⟩ A3.out).mono ?_); rintro e w15 ⟨rfl, hb⟩; refine ⟨_, rfl, ?_⟩; have n0_ := Aside0.mk (below_step (by repeat (first | (with_reducible first | exact HB.out | apply below_alloc | apply pw_below_drewN | apply below_drew1) | exact HB.out)) hb); clear HB; have HB := n0_; clear n0_; (try clear hb); (try clear hb2); (try clear hk); (try clear hi)) | ((with_reducible refine gate_callee (f := 16) rfl ?_); refine goesL_ (some 18) rfl rfl Tryd.func16 (by kernel_rfl) rfl #[.int .i64 a0, .int .i64 a1] rfl (by (try simp only [List.map_toArray, List.map_cons, List.map_nil]); first | done | rfl | (simp only [List.length_drop, List.length_take]; rfl)) ?_; (with_reducible refine (num_Add.calls a0 a1 t138 t139 _ ⟨by repeat (first | exact hG.out | exact hG.out.below (by repeat (first | (with_reducible first | exact HB.out | apply below_alloc | apply pw_below_drewN | apply below_drew1) | exact HB.out | exact Below.refl _ _)) | apply Glob.drewN | apply Glob.drew)⟩ A5.out).mono ?_); rintro e w' ⟨rfl, ⟨nd, rfl⟩⟩; refine ⟨_, rfl, ?_⟩) | ((with_reducible refine gate_callee (f := 17) rfl ?_); refine goesL_ (some 24) rfl rfl Tryd.func17 (by kernel_rfl) rfl #[.int .i64 a0, .int .i64 a1] rfl (by (try simp only [List.map_toArray, List.map_cons, List.map_nil]); first | done | rfl | (simp only [List.length_drop, List.length_take]; rfl)) ?_; (with_reducible refine (haulierref01_Add.calls a0 a1 t140 t141 _ ⟨by repeat (first | exact hG.out | exact hG.out.below (by repeat (first | (with_reducible first | exact HB.out | apply below_alloc | apply pw_below_drewN | apply below_drew1) | exact HB.out | exact Below.refl _ _)) | apply Glob.drewN | apply Glob.drew)⟩ A6.out).mono ?_); rintro e w' ⟨rfl, ⟨nd, rfl⟩⟩; refine ⟨_, rfl, ?_⟩) | ((with_reducible refine gate_callee (f := 18) rfl ?_); refine goesL_ (some 30) rfl rfl Tryd.func18 (by kernel_rfl) rfl #[.int .i64 a0, .int .i64 a1] rfl (by (try simp only [List.map_toArray, List.map_cons, List.map_nil]); first | done | rfl | (simp only [List.length_drop, List.length_take]; rfl)) ?_; (with_reducible refine (num_Mul.calls a0 a1 t142 t143 _ ⟨by repeat (first | exact hG.out | exact hG.out.below (by repeat (first | (with_reducible first | exact HB.out | apply below_alloc | apply pw_below_drewN | apply below_drew1) | exact HB.out | exact Below.refl _ _)) | apply Glob.drewN | apply Glob.drew)⟩ A7.out).mono ?_); rintro e w' ⟨rfl, ⟨nd, rfl⟩⟩; refine ⟨_, rfl, ?_⟩) | ((with_reducible refine gate_callee (f := 19) rfl ?_); refine goesL_ (some 36) rfl rfl Tryd.func19 (by kernel_rfl) rfl #[.int .i64 a0, .int .i64 a1] rfl (by (try simp only [List.map_toArray, List.map_cons, List.map_nil]); first | done | rfl | (simp only [List.length_drop, List.length_take]; rfl)) ?_; (with_reducible refine (haulierref01_Mul.calls k a0 a1 t144 t145 _ ⟨by repeat (first | exact hG.out | exact hG.out.below (by repeat (first | (with_reducible first | exact HB.out | apply below_alloc | apply pw_below_drewN | apply below_drew1) | exact HB.out | exact Below.refl _ _)) | apply Glob.drewN | apply Glob.drew)⟩ A8.out).mono ?_); rintro e w' ⟨rfl, ⟨nd, rfl⟩⟩; refine ⟨_, rfl, ?_⟩) | ((with_reducible refine gate_callee (f := 20) rfl ?_); refine goesL_ (some 40) rfl rfl Tryd.func20 (by kernel_rfl) rfl #[.int .i64 a0] rfl (by (try simp only [List.map_toArray, List.map_cons, List.map_nil]); first | done | rfl | (simp only [List.length_drop, List.length_take]; rfl)) ?_; (with_reducible refine (num_Fits.calls a0 t146 _ ⟨by repeat (first | exact hG.out | exact hG.out.below (by repeat (first | (with_reducible first | exact HB.out | apply below_alloc | apply pw_below_drewN | apply below_drew1) | exact HB.out | exact Below.refl _ _)) | apply Glob.drewN | apply Glob.drew)⟩ A9.out).mono ?_); rintro e w' ⟨rfl, ⟨nd, rfl⟩⟩; refine ⟨_, rfl, ?_⟩) | ((with_reducible refine gate_callee (f := 15) rfl ?_); refine goesL_ (some 42) rfl rfl Tryd.func15 (by kernel_rfl) rfl #[.int .i64 a0] rfl (by (try simp only [List.map_toArray, List.map_cons, List.map_nil]); first | done | rfl | (simp only [List.length_drop, List.length_take]; rfl)) ?_; (with_reducible refine (haulierref01_Fits.calls a0 t147 _ ⟨by repeat (first | exact hG.out | exact hG.out.below (by repeat (first | (with_reducible first | exact HB.out | apply below_alloc | apply pw_below_drewN | apply below_drew1) | exact HB.out | exact Below.refl _ _)) | apply Glob.drewN | apply Glob.drew)⟩ A10.out).mono ?_); rintro e w' ⟨rfl, ⟨nd, rfl⟩⟩; refine ⟨_, rfl, ?_⟩))
            go_ret
            exact ⟨by first | rfl | (simp [errW_none, errW_some] <;> rfl) | (simp [*, errW_none, errW_some] <;> rfl), by repeat (first | (with_reducible first | exact HB.out | apply below_alloc | apply pw_below_drewN | apply below_drew1) | exact HB.out)⟩
          · rw [if_neg c14] at H
            have c14b0 : (t142 == t144) = false := beq_eq_false_iff_ne.mpr c14
            have c14b1 : (t142 != t144) = true := bne_iff_ne.mpr c14
            obtain rfl := Option.some.inj H
            go_enter Tryd.func5, Tryd.ntmps5
            go_wp2_with (first | ((with_reducible refine gate_callee (f := 10) rfl ?_); refine goesL_ (some 13) rfl rfl Tryd.func10 (by kernel_rfl) rfl #[] rfl (by (try simp only [List.map_toArray, List.map_cons, List.map_nil]); first | done | rfl | (simp only [List.length_drop, List.length_take]; rfl)) ?_; (with_reducible refine (haulierlaw01_Awake.calls  true _ ⟨by repeat (first | exact hG.out | exact hG.out.below (by repeat (first | (with_reducible first | exact HB.out | apply below_alloc | apply pw_below_drewN | apply below_drew1) | exact HB.out | exact Below.refl _ _)) | apply Glob.drewN | apply Glob.drew)⟩ A3.out).mono ?_); rintro e w16 ⟨rfl, hb⟩; refine ⟨_, rfl, ?_⟩; have n0_ := Aside0.mk (below_step (by repeat (first | (with_reducible first | exact HB.out | apply below_alloc | apply pw_below_drewN | apply below_drew1) | exact HB.out)) hb); clear HB; have HB := n0_; clear n0_; (try clear hb); (try clear hb2); (try clear hk); (try clear hi)) | ((with_reducible refine gate_callee (f := 16) rfl ?_); refine goesL_ (some 18) rfl rfl Tryd.func16 (by kernel_rfl) rfl #[.int .i64 a0, .int .i64 a1] rfl (by (try simp only [List.map_toArray, List.map_cons, List.map_nil]); first | done | rfl | (simp only [List.length_drop, List.length_take]; rfl)) ?_; (with_reducible refine (num_Add.calls a0 a1 t138 t139 _ ⟨by repeat (first | exact hG.out | exact hG.out.below (by repeat (first | (with_reducible first | exact HB.out | apply below_alloc | apply pw_below_drewN | apply below_drew1) | exact HB.out | exact Below.refl _ _)) | apply Glob.drewN | apply Glob.drew)⟩ A5.out).mono ?_); rintro e w' ⟨rfl, ⟨nd, rfl⟩⟩; refine ⟨_, rfl, ?_⟩) | ((with_reducible refine gate_callee (f := 17) rfl ?_); refine goesL_ (some 24) rfl rfl Tryd.func17 (by kernel_rfl) rfl #[.int .i64 a0, .int .i64 a1] rfl (by (try simp only [List.map_toArray, List.map_cons, List.map_nil]); first | done | rfl | (simp only [List.length_drop, List.length_take]; rfl)) ?_; (with_reducible refine (haulierref01_Add.calls a0 a1 t140 t141 _ ⟨by repeat (first | exact hG.out | exact hG.out.below (by repeat (first | (with_reducible first | exact HB.out | apply below_alloc | apply pw_below_drewN | apply below_drew1) | exact HB.out | exact Below.refl _ _)) | apply Glob.drewN | apply Glob.drew)⟩ A6.out).mono ?_); rintro e w' ⟨rfl, ⟨nd, rfl⟩⟩; refine ⟨_, rfl, ?_⟩) | ((with_reducible refine gate_callee (f := 18) rfl ?_); refine goesL_ (some 30) rfl rfl Tryd.func18 (by kernel_rfl) rfl #[.int .i64 a0, .int .i64 a1] rfl (by (try simp only [List.map_toArray, List.map_cons, List.map_nil]); first | done | rfl | (simp only [List.length_drop, List.length_take]; rfl)) ?_; (with_reducible refine (num_Mul.calls a0 a1 t142 t143 _ ⟨by repeat (first | exact hG.out | exact hG.out.below (by repeat (first | (with_reducible first | exact HB.out | apply below_alloc | apply pw_below_drewN | apply below_drew1) | exact HB.out | exact Below.refl _ _)) | apply Glob.drewN | apply Glob.drew)⟩ A7.out).mono ?_); rintro e w' ⟨rfl, ⟨nd, rfl⟩⟩; refine ⟨_, rfl, ?_⟩) | ((with_reducible refine gate_callee (f := 19) rfl ?_); refine goesL_ (some 36) rfl rfl Tryd.func19 (by kernel_rfl) rfl #[.int .i64 a0, .int .i64 a1] rfl (by (try simp only [List.map_toArray, List.map_cons, List.map_nil]); first | done | rfl | (simp only [List.length_drop, List.length_take]; rfl)) ?_; (with_reducible refine (haulierref01_Mul.calls k a0 a1 t144 t145 _ ⟨by repeat (first | exact hG.out | exact hG.out.below (by repeat (first | (with_reducible first | exact HB.out | apply below_alloc | apply pw_below_drewN | apply below_drew1) | exact HB.out | exact Below.refl _ _)) | apply Glob.drewN | apply Glob.drew)⟩ A8.out).mono ?_); rintro e w' ⟨rfl, ⟨nd, rfl⟩⟩; refine ⟨_, rfl, ?_⟩) | ((with_reducible refine gate_callee (f := 20) rfl ?_); refine goesL_ (some 40) rfl rfl Tryd.func20 (by kernel_rfl) rfl #[.int .i64 a0] rfl (by (try simp only [List.map_toArray, List.map_cons, List.map_nil]); first | done | rfl | (simp only [List.length_drop, List.length_take]; rfl)) ?_; (with_reducible refine (num_Fits.calls a0 t146 _ ⟨by repeat (first | exact hG.out | exact hG.out.below (by repeat (first | (with_reducible first | exact HB.out | apply below_alloc | apply pw_below_drewN | apply below_drew1) | exact HB.out | exact Below.refl _ _)) | apply Glob.drewN | apply Glob.drew)⟩ A9.out).mono ?_); rintro e w' ⟨rfl, ⟨nd, rfl⟩⟩; refine ⟨_, rfl, ?_⟩) | ((with_reducible refine gate_callee (f := 15) rfl ?_); refine goesL_ (some 42) rfl rfl Tryd.func15 (by kernel_rfl) rfl #[.int .i64 a0] rfl (by (try simp only [List.map_toArray, List.map_cons, List.map_nil]); first | done | rfl | (simp only [List.length_drop, List.length_take]; rfl)) ?_; (with_reducible refine (haulierref01_Fits.calls a0 t147 _ ⟨by repeat (first | exact hG.out | exact hG.out.below (by repeat (first | (with_reducible first | exact HB.out | apply below_alloc | apply pw_below_drewN | apply below_drew1) | exact HB.out | exact Below.refl _ _)) | apply Glob.drewN | apply Glob.drew)⟩ A10.out).mono ?_); rintro e w' ⟨rfl, ⟨nd, rfl⟩⟩; refine ⟨_, rfl, ?_⟩))
            go_ret
            exact ⟨by first | rfl | (simp [errW_none, errW_some] <;> rfl) | (simp [*, errW_none, errW_some] <;> rfl), by repeat (first | (with_reducible first | exact HB.out | apply below_alloc | apply pw_below_drewN | apply below_drew1) | exact HB.out)⟩
        · rw [if_neg c13] at H
          have c13b0 : (t139 == t141) = false := beq_eq_false_iff_ne.mpr c13
          have c13b1 : (t139 != t141) = true := bne_iff_ne.mpr c13
          obtain rfl := Option.some.inj H
          go_enter Tryd.func5, Tryd.ntmps5
          go_wp2_with (first | ((with_reducible refine gate_callee (f := 10) rfl ?_); refine goesL_ (some 13) rfl rfl Tryd.func10 (by kernel_rfl) rfl #[] rfl (by (try simp only [List.map_toArray, List.map_cons, List.map_nil]); first | done | rfl | (simp only [List.length_drop, List.length_take]; rfl)) ?_; (with_reducible refine (haulierlaw01_Awake.calls  true _ ⟨by repeat (first | exact hG.out | exact hG.out.below (by repeat (first | (with_reducible first | exact HB.out | apply below_alloc | apply pw_below_drewN | apply below_drew1) | exact HB.out | exact Below.refl _ _)) | apply Glob.drewN | apply Glob.drew)⟩ A3.out).mono ?_); rintro e w17 ⟨rfl, hb⟩; refine ⟨_, rfl, ?_⟩; have n0_ := Aside0.mk (below_step (by repeat (first | (with_reducible first | exact HB.out | apply below_alloc | apply pw_below_drewN | apply below_drew1) | exact HB.out)) hb); clear HB; have HB := n0_; clear n0_; (try clear hb); (try clear hb2); (try clear hk); (try clear hi)) | ((with_reducible refine gate_callee (f := 16) rfl ?_); refine goesL_ (some 18) rfl rfl Tryd.func16 (by kernel_rfl) rfl #[.int .i64 a0, .int .i64 a1] rfl (by (try simp only [List.map_toArray, List.map_cons, List.map_nil]); first | done | rfl | (simp only [List.length_drop, List.length_take]; rfl)) ?_; (with_reducible refine (num_Add.calls a0 a1 t138 t139 _ ⟨by repeat (first | exact hG.out | exact hG.out.below (by repeat (first | (with_reducible first | exact HB.out | apply below_alloc | apply pw_below_drewN | apply below_drew1) | exact HB.out | exact Below.refl _ _)) | apply Glob.drewN | apply Glob.drew)⟩ A5.out).mono ?_); rintro e w' ⟨rfl, ⟨nd, rfl⟩⟩; refine ⟨_, rfl, ?_⟩) | ((with_reducible refine gate_callee (f := 17) rfl ?_); refine goesL_ (some 24) rfl rfl Tryd.func17 (by kernel_rfl) rfl #[.int .i64 a0, .int .i64 a1] rfl (by (try simp only [List.map_toArray, List.map_cons, List.map_nil]); first | done | rfl | (simp only [List.length_drop, List.length_take]; rfl)) ?_; (with_reducible refine (haulierref01_Add.calls a0 a1 t140 t141 _ ⟨by repeat (first | exact hG.out | exact hG.out.below (by repeat (first | (with_reducible first | exact HB.out | apply below_alloc | apply pw_below_drewN | apply below_drew1) | exact HB.out | exact Below.refl _ _)) | apply Glob.drewN | apply Glob.drew)⟩ A6.out).mono ?_); rintro e w' ⟨rfl, ⟨nd, rfl⟩⟩; refine ⟨_, rfl, ?_⟩) | ((with_reducible refine gate_callee (f := 18) rfl ?_); refine goesL_ (some 30) rfl rfl Tryd.func18 (by kernel_rfl) rfl #[.int .i64 a0, .int .i64 a1] rfl (by (try simp only [List.map_toArray, List.map_cons, List.map_nil]); first | done | rfl | (simp only [List.length_drop, List.length_take]; rfl)) ?_; (with_reducible refine (num_Mul.calls a0 a1 t142 t143 _ ⟨by repeat (first | exact hG.out | exact hG.out.below (by repeat (first | (with_reducible first | exact HB.out | apply below_alloc | apply pw_below_drewN | apply below_drew1) | exact HB.out | exact Below.refl _ _)) | apply Glob.drewN | apply Glob.drew)⟩ A7.out).mono ?_); rintro e w' ⟨rfl, ⟨nd, rfl⟩⟩; refine ⟨_, rfl, ?_⟩) | ((with_reducible refine gate_callee (f := 19) rfl ?_); refine goesL_ (some 36) rfl rfl Tryd.func19 (by kernel_rfl) rfl #[.int .i64 a0, .int .i64 a1] rfl (by (try simp only [List.map_toArray, List.map_cons, List.map_nil]); first | done | rfl | (simp only [List.length_drop, List.length_take]; rfl)) ?_; (with_reducible refine (haulierref01_Mul.calls k a0 a1 t144 t145 _ ⟨by repeat (first | exact hG.out | exact hG.out.below (by repeat (first | (with_reducible first | exact HB.out | apply below_alloc | apply pw_below_drewN | apply below_drew1) | exact HB.out | exact Below.refl _ _)) | apply Glob.drewN | apply Glob.drew)⟩ A8.out).mono ?_); rintro e w' ⟨rfl, ⟨nd, rfl⟩⟩; refine ⟨_, rfl, ?_⟩) | ((with_reducible refine gate_callee (f := 20) rfl ?_); refine goesL_ (some 40) rfl rfl Tryd.func20 (by kernel_rfl) rfl #[.int .i64 a0] rfl (by (try simp only [List.map_toArray, List.map_cons, List.map_nil]); first | done | rfl | (simp only [List.length_drop, List.length_take]; rfl)) ?_; (with_reducible refine (num_Fits.calls a0 t146 _ ⟨by repeat (first | exact hG.out | exact hG.out.below (by repeat (first | (with_reducible first | exact HB.out | apply below_alloc | apply pw_below_drewN | apply below_drew1) | exact HB.out | exact Below.refl _ _)) | apply Glob.drewN | apply Glob.drew)⟩ A9.out).mono ?_); rintro e w' ⟨rfl, ⟨nd, rfl⟩⟩; refine ⟨_, rfl, ?_⟩) | ((with_reducible refine gate_callee (f := 15) rfl ?_); refine goesL_ (some 42) rfl rfl Tryd.func15 (by kernel_rfl) rfl #[.int .i64 a0] rfl (by (try simp only [List.map_toArray, List.map_cons, List.map_nil]); first | done | rfl | (simp only [List.length_drop, List.length_take]; rfl)) ?_; (with_reducible refine (haulierref01_Fits.calls a0 t147 _ ⟨by repeat (first | exact hG.out | exact hG.out.below (by repeat (first | (with_reducible first | exact HB.out | apply below_alloc | apply pw_below_drewN | apply below_drew1) | exact HB.out | exact Below.refl _ _)) | apply Glob.drewN | apply Glob.drew)⟩ A10.out).mono ?_); rintro e w' ⟨rfl, ⟨nd, rfl⟩⟩; refine ⟨_, rfl, ?_⟩))
          go_ret
          exact ⟨by first | rfl | (simp [errW_none, errW_some] <;> rfl) | (simp [*, errW_none, errW_some] <;> rfl), by repeat (first | (with_reducible first | exact HB.out | apply below_alloc | apply pw_below_drewN | apply below_drew1) | exact HB.out)⟩
      · rw [if_neg c12] at H
        have c12b0 : (t138 == t140) = false := beq_eq_false_iff_ne.mpr c12
        have c12b1 : (t138 != t140) = true := bne_iff_ne.mpr c12
        obtain rfl := Option.some.inj H
        go_enter Tryd.func5, Tryd.ntmps5
        go_wp2_with (first | ((with_reducible refine gate_callee (f := 10) rfl ?_); refine goesL_ (some 13) rfl rfl Tryd.func10 (by kernel_rfl) rfl #[] rfl (by (try simp only [List.map_toArray, List.map_cons, List.map_nil]); first | done | rfl | (simp only [List.length_drop, List.length_take]; rfl)) ?_; (with_reducible refine (haulierlaw01_Awake.calls  true _ ⟨by repeat (first | exact hG.out | exact hG.out.below (by repeat (first | (with_reducible first | exact HB.out | apply below_alloc | apply pw_below_drewN | apply below_drew1) | exact HB.out | exact Below.refl _ _)) | apply Glob.drewN | apply Glob.drew)⟩ A3.out).mono ?_); rintro e w18 ⟨rfl, hb⟩; refine ⟨_, rfl, ?_⟩; have n0_ := Aside0.mk (below_step (by repeat (first | (with_reducible first | exact HB.out | apply below_alloc | apply pw_below_drewN | apply below_drew1) | exact HB.out)) hb); clear HB; have HB := n0_; clear n0_; (try clear hb); (try clear hb2); (try clear hk); (try clear hi)) | ((with_reducible refine gate_callee (f := 16) rfl ?_); refine goesL_ (some 18) rfl rfl Tryd.func16 (by kernel_rfl) rfl #[.int .i64 a0, .int .i64 a1] rfl (by (try simp only [List.map_toArray, List.map_cons, List.map_nil]); first | done | rfl | (simp only [List.length_drop, List.length_take]; rfl)) ?_; (with_reducible refine (num_Add.calls a0 a1 t138 t139 _ ⟨by repeat (first | exact hG.out | exact hG.out.below (by repeat (first | (with_reducible first | exact HB.out | apply below_alloc | apply pw_below_drewN | apply below_drew1) | exact HB.out | exact Below.refl _ _)) | apply Glob.drewN | apply Glob.drew)⟩ A5.out).mono ?_); rintro e w' ⟨rfl, ⟨nd, rfl⟩⟩; refine ⟨_, rfl, ?_⟩) | ((with_reducible refine gate_callee (f := 17) rfl ?_); refine goesL_ (some 24) rfl rfl Tryd.func17 (by kernel_rfl) rfl #[.int .i64 a0, .int .i64 a1] rfl (by (try simp only [List.map_toArray, List.map_cons, List.map_nil]); first | done | rfl | (simp only [List.length_drop, List.length_take]; rfl)) ?_; (with_reducible refine (haulierref01_Add.calls a0 a1 t140 t141 _ ⟨by repeat (first | exact hG.out | exact hG.out.below (by repeat (first | (with_reducible first | exact HB.out | apply below_alloc | apply pw_below_drewN | apply below_drew1) | exact HB.out | exact Below.refl _ _)) | apply Glob.drewN | apply Glob.drew)⟩ A6.out).mono ?_); rintro e w' ⟨rfl, ⟨nd, rfl⟩⟩; refine ⟨_, rfl, ?_⟩) | ((with_reducible refine gate_callee (f := 18) rfl ?_); refine goesL_ (some 30) rfl rfl Tryd.func18 (by kernel_rfl) rfl #[.int .i64 a0, .int .i64 a1] rfl (by (try simp only [List.map_toArray, List.map_cons, List.map_nil]); first | done | rfl | (simp only [List.length_drop, List.length_take]; rfl)) ?_; (with_reducible refine (num_Mul.calls a0 a1 t142 t143 _ ⟨by repeat (first | exact hG.out | exact hG.out.below (by repeat (first | (with_reducible first | exact HB.out | apply below_alloc | apply pw_below_drewN | apply below_drew1) | exact HB.out | exact Below.refl _ _)) | apply Glob.drewN | apply Glob.drew)⟩ A7.out).mono ?_); rintro e w' ⟨rfl, ⟨nd, rfl⟩⟩; refine ⟨_, rfl, ?_⟩) | ((with_reducible refine gate_callee (f := 19) rfl ?_); refine goesL_ (some 36) rfl rfl Tryd.func19 (by kernel_rfl) rfl #[.int .i64 a0, .int .i64 a1] rfl (by (try simp only [List.map_toArray, List.map_cons, List.map_nil]); first | done | rfl | (simp only [List.length_drop, List.length_take]; rfl)) ?_; (with_reducible refine (haulierref01_Mul.calls k a0 a1 t144 t145 _ ⟨by repeat (first | exact hG.out | exact hG.out.below (by repeat (first | (with_reducible first | exact HB.out | apply below_alloc | apply pw_below_drewN | apply below_drew1) | exact HB.out | exact Below.refl _ _)) | apply Glob.drewN | apply Glob.drew)⟩ A8.out).mono ?_); rintro e w' ⟨rfl, ⟨nd, rfl⟩⟩; refine ⟨_, rfl, ?_⟩) | ((with_reducible refine gate_callee (f := 20) rfl ?_); refine goesL_ (some 40) rfl rfl Tryd.func20 (by kernel_rfl) rfl #[.int .i64 a0] rfl (by (try simp only [List.map_toArray, List.map_cons, List.map_nil]); first | done | rfl | (simp only [List.length_drop, List.length_take]; rfl)) ?_; (with_reducible refine (num_Fits.calls a0 t146 _ ⟨by repeat (first | exact hG.out | exact hG.out.below (by repeat (first | (with_reducible first | exact HB.out | apply below_alloc | apply pw_below_drewN | apply below_drew1) | exact HB.out | exact Below.refl _ _)) | apply Glob.drewN | apply Glob.drew)⟩ A9.out).mono ?_); rintro e w' ⟨rfl, ⟨nd, rfl⟩⟩; refine ⟨_, rfl, ?_⟩) | ((with_reducible refine gate_callee (f := 15) rfl ?_); refine goesL_ (some 42) rfl rfl Tryd.func15 (by kernel_rfl) rfl #[.int .i64 a0] rfl (by (try simp only [List.map_toArray, List.map_cons, List.map_nil]); first | done | rfl | (simp only [List.length_drop, List.length_take]; rfl)) ?_; (with_reducible refine (haulierref01_Fits.calls a0 t147 _ ⟨by repeat (first | exact hG.out | exact hG.out.below (by repeat (first | (with_reducible first | exact HB.out | apply below_alloc | apply pw_below_drewN | apply below_drew1) | exact HB.out | exact Below.refl _ _)) | apply Glob.drewN | apply Glob.drew)⟩ A10.out).mono ?_); rintro e w' ⟨rfl, ⟨nd, rfl⟩⟩; refine ⟨_, rfl, ?_⟩))
        go_ret
        exact ⟨by first | rfl | (simp [errW_none, errW_some] <;> rfl) | (simp [*, errW_none, errW_some] <;> rfl), by repeat (first | (with_reducible first | exact HB.out | apply below_alloc | apply pw_below_drewN | apply below_drew1) | exact HB.out)⟩
    · rw [if_neg c11] at H
      have c11b0 : (t146 == t147) = false := by simpa using c11
      (try (have c11b1 : decide (t146 = t147) = false := by simpa using c11))
      (try (have c11b2 : (t146 == t147) = false := by simpa using c11))
      (try (have c11b3 : ¬ (t146 = t147) := by simpa using c11))
      clear c11
      obtain rfl := Option.some.inj H
      go_enter Tryd.func5, Tryd.ntmps5
      go_wp2_with (first | ((with_reducible refine gate_callee (f := 10) rfl ?_); refine goesL_ (some 13) rfl rfl Tryd.func10 (by kernel_rfl) rfl #[] rfl (by (try simp only [List.map_toArray, List.map_cons, List.map_nil]); first | done | rfl | (simp only [List.length_drop, List.length_take]; rfl)) ?_; (with_reducible refine (haulierlaw01_Awake.calls  true _ ⟨by repeat (first | exact hG.out | exact hG.out.below (by repeat (first | (with_reducible first | exact HB.out | apply below_alloc | apply pw_below_drewN | apply below_drew1) | exact HB.out | exact Below.refl _ _)) | apply Glob.drewN | apply Glob.drew)⟩ A3.out).mono ?_); rintro e w19 ⟨rfl, hb⟩; refine ⟨_, rfl, ?_⟩; have n0_ := Aside0.mk (below_step (by repeat (first | (with_reducible first | exact HB.out | apply below_alloc | apply pw_below_drewN | apply below_drew1) | exact HB.out)) hb); clear HB; have HB := n0_; clear n0_; (try clear hb); (try clear hb2); (try clear hk); (try clear hi)) | ((with_reducible refine gate_callee (f := 16) rfl ?_); refine goesL_ (some 18) rfl rfl Tryd.func16 (by kernel_rfl) rfl #[.int .i64 a0, .int .i64 a1] rfl (by (try simp only [List.map_toArray, List.map_cons, List.map_nil]); first | done | rfl | (simp only [List.length_drop, List.length_take]; rfl)) ?_; (with_reducible refine (num_Add.calls a0 a1 t138 t139 _ ⟨by repeat (first | exact hG.out | exact hG.out.below (by repeat (first | (with_reducible first | exact HB.out | apply below_alloc | apply pw_below_drewN | apply below_drew1) | exact HB.out | exact Below.refl _ _)) | apply Glob.drewN | apply Glob.drew)⟩ A5.out).mono ?_); rintro e w' ⟨rfl, ⟨nd, rfl⟩⟩; refine ⟨_, rfl, ?_⟩) | ((with_reducible refine gate_callee (f := 17) rfl ?_); refine goesL_ (some 24) rfl rfl Tryd.func17 (by kernel_rfl) rfl #[.int .i64 a0, .int .i64 a1] rfl (by (try simp only [List.map_toArray, List.map_cons, List.map_nil]); first | done | rfl | (simp only [List.length_drop, List.length_take]; rfl)) ?_; (with_reducible refine (haulierref01_Add.calls a0 a1 t140 t141 _ ⟨by repeat (first | exact hG.out | exact hG.out.below (by repeat (first | (with_reducible first | exact HB.out | apply below_alloc | apply pw_below_drewN | apply below_drew1) | exact HB.out | exact Below.refl _ _)) | apply Glob.drewN | apply Glob.drew)⟩ A6.out).mono ?_); rintro e w' ⟨rfl, ⟨nd, rfl⟩⟩; refine ⟨_, rfl, ?_⟩) | ((with_reducible refine gate_callee (f := 18) rfl ?_); refine goesL_ (some 30) rfl rfl Tryd.func18 (by kernel_rfl) rfl #[.int .i64 a0, .int .i64 a1] rfl (by (try simp only [List.map_toArray, List.map_cons, List.map_nil]); first | done | rfl | (simp only [List.length_drop, List.length_take]; rfl)) ?_; (with_reducible refine (num_Mul.calls a0 a1 t142 t143 _ ⟨by repeat (first | exact hG.out | exact hG.out.below (by repeat (first | (with_reducible first | exact HB.out | apply below_alloc | apply pw_below_drewN | apply below_drew1) | exact HB.out | exact Below.refl _ _)) | apply Glob.drewN | apply Glob.drew)⟩ A7.out).mono ?_); rintro e w' ⟨rfl, ⟨nd, rfl⟩⟩; refine ⟨_, rfl, ?_⟩) | ((with_reducible refine gate_callee (f := 19) rfl ?_); refine goesL_ (some 36) rfl rfl Tryd.func19 (by kernel_rfl) rfl #[.int .i64 a0, .int .i64 a1] rfl (by (try simp only [List.map_toArray, List.map_cons, List.map_nil]); first | done | rfl | (simp only [List.length_drop, List.length_take]; rfl)) ?_; (with_reducible refine (haulierref01_Mul.calls k a0 a1 t144 t145 _ ⟨by repeat (first | exact hG.out | exact hG.out.below (by repeat (first | (with_reducible first | exact HB.out | apply below_alloc | apply pw_below_drewN | apply below_drew1) | exact HB.out | exact Below.refl _ _)) | apply Glob.drewN | apply Glob.drew)⟩ A8.out).mono ?_); rintro e w' ⟨rfl, ⟨nd, rfl⟩⟩; refine ⟨_, rfl, ?_⟩) | ((with_reducible refine gate_callee (f := 20) rfl ?_); refine goesL_ (some 40) rfl rfl Tryd.func20 (by kernel_rfl) rfl #[.int .i64 a0] rfl (by (try simp only [List.map_toArray, List.map_cons, List.map_nil]); first | done | rfl | (simp only [List.length_drop, List.length_take]; rfl)) ?_; (with_reducible refine (num_Fits.calls a0 t146 _ ⟨by repeat (first | exact hG.out | exact hG.out.below (by repeat (first | (with_reducible first | exact HB.out | apply below_alloc | apply pw_below_drewN | apply below_drew1) | exact HB.out | exact Below.refl _ _)) | apply Glob.drewN | apply Glob.drew)⟩ A9.out).mono ?_); rintro e w' ⟨rfl, ⟨nd, rfl⟩⟩; refine ⟨_, rfl, ?_⟩) | ((with_reducible refine gate_callee (f := 15) rfl ?_); refine goesL_ (some 42) rfl rfl Tryd.func15 (by kernel_rfl) rfl #[.int .i64 a0] rfl (by (try simp only [List.map_toArray, List.map_cons, List.map_nil]); first | done | rfl | (simp only [List.length_drop, List.length_take]; rfl)) ?_; (with_reducible refine (haulierref01_Fits.calls a0 t147 _ ⟨by repeat (first | exact hG.out | exact hG.out.below (by repeat (first | (with_reducible first | exact HB.out | apply below_alloc | apply pw_below_drewN | apply below_drew1) | exact HB.out | exact Below.refl _ _)) | apply Glob.drewN | apply Glob.drew)⟩ A10.out).mono ?_); rintro e w' ⟨rfl, ⟨nd, rfl⟩⟩; refine ⟨_, rfl, ?_⟩))
      go_ret
      exact ⟨by first | rfl | (simp [errW_none, errW_some] <;> rfl) | (simp [*, errW_none, errW_some] <;> rfl), by repeat (first | (with_reducible first | exact HB.out | apply below_alloc | apply pw_below_drewN | apply below_drew1) | exact HB.out)⟩
  · replace c4 := Bool.eq_false_iff.mpr c4
    subst c4
    have H1 : (some false) = some r := by rw [if_neg (show ¬ (false = true) by decide)] at H; exact H
    clear H
    have H := H1
    clear H1
    obtain rfl := Option.some.inj H
    go_enter Tryd.func5, Tryd.ntmps5
    go_wp2_with (first | ((with_reducible refine gate_callee (f := 10) rfl ?_); refine goesL_ (some 13) rfl rfl Tryd.func10 (by kernel_rfl) rfl #[] rfl (by (try simp only [List.map_toArray, List.map_cons, List.map_nil]); first | done | rfl | (simp only [List.length_drop, List.length_take]; rfl)) ?_; (with_reducible refine (haulierlaw01_Awake.calls  false _ ⟨by repeat (first | exact hG.out | exact hG.out.below (by repeat (first | (with_reducible first | exact HB.out | apply below_alloc | apply pw_below_drewN | apply below_drew1) | exact HB.out | exact Below.refl _ _)) | apply Glob.drewN | apply Glob.drew)⟩ A3.out).mono ?_); rintro e w20 ⟨rfl, hb⟩; refine ⟨_, rfl, ?_⟩; have n0_ := Aside0.mk (below_step (by repeat (first | (with_reducible first | exact HB.out | apply below_alloc | apply pw_below_drewN | apply below_drew1) | exact HB.out)) hb); clear HB; have HB := n0_; clear n0_; (try clear hb); (try clear hb2); (try clear hk); (try clear hi)))
    go_ret
    exact ⟨by first | rfl | (simp [errW_none, errW_some] <;> rfl) | (simp [*, errW_none, errW_some] <;> rfl), by repeat (first | (with_reducible first | exact HB.out | apply below_alloc | apply pw_below_drewN | apply below_drew1) | exact HB.out)⟩

/-- THE ONE PURE STATEMENT of haulierlaw01_NumReckons: yours. -/
def haulierlaw01_NumReckons.Pure : Prop := ∀ (a0 : Int) (a1 : Int), (Lit.int .i64 a0).wf = true → (Lit.int .i64 a1).wf = true → ∃ k, haulierlaw01_NumReckons.f k a0 a1 = some true
theorem haulierlaw01_NumReckons.walk (P : haulierlaw01_NumReckons.Pure) (a0 : Int) (a1 : Int) (w : World) (hG : Aside0 (Glob w)) (w0 : (Lit.int .i64 a0).wf = true) (w1 : (Lit.int .i64 a1).wf = true) :
    Calls Tryd.prog 5 #[.int .i64 a0, .int .i64 a1] w fun e w' => e = .returned (.bool true) ∧ Below w.heap.size w w' := by
  obtain ⟨k, h⟩ := P a0 a1 w0 w1
  refine (haulierlaw01_NumReckons.calls k a0 a1 true w ⟨by repeat (first | exact hG.out | exact hG.out.below (by repeat (first | (with_reducible first | exact HB.out | apply below_alloc | apply pw_below_drewN | apply below_drew1) | exact HB.out | exact Below.refl _ _)) | apply Glob.drewN | apply Glob.drew)⟩ h).mono ?_
  rintro e w' ⟨rfl, hd⟩
  exact ⟨rfl, hd⟩

/-! ### haulierlaw01_NumOrders: function 6 -/
mutual
def haulierlaw01_NumOrders.j0 : Nat → Int → Int → Int → Int → Bool → Option (Bool)
  | 0, _, _, _, _, _ => none
  | k + 1, x0, x1, x9, x10, x62 => if x62 = true then (some false) else ((haulierref01_Fits.f x0).bind fun t157 => (if t157 = true then (if x1 < 0 then (haulierlaw01_NumOrders.j1 k x0 x1 x9 x10 true) else (haulierlaw01_NumOrders.j1 k x0 x1 x9 x10 (decide (x1 ≥ 4611686018427387903)))) else (haulierlaw01_NumOrders.j1 k x0 x1 x9 x10 true)))
def haulierlaw01_NumOrders.j1 : Nat → Int → Int → Int → Int → Bool → Option (Bool)
  | 0, _, _, _, _, _ => none
  | k + 1, x0, x1, x9, x10, x73 => if x73 = true then (some true) else ((num_Add.f x0 (wrap64 (-x0))).bind fun bt158 => ((num_Mul.f x0 (wrap64 (x1 + 1))).bind fun bt160 => (if bt158.2 = 0 then (if bt158.1 = 0 then (if x10 = 0 then (haulierlaw01_NumOrders.j2 k x0 x9 bt160.1 bt160.2 false) else (haulierlaw01_NumOrders.j2 k x0 x9 bt160.1 bt160.2 (bt160.2 == 0))) else (haulierlaw01_NumOrders.j2 k x0 x9 bt160.1 bt160.2 true)) else (haulierlaw01_NumOrders.j2 k x0 x9 bt160.1 bt160.2 true))))
def haulierlaw01_NumOrders.j2 : Nat → Int → Int → Int → Int → Bool → Option (Bool)
  | 0, _, _, _, _, _ => none
  | k + 1, x0, x9, x15, x16, x101 => if x101 = true then (some false) else (if x16 = 0 then ((num_Add.f x9 x0).bind fun bt162 => (if bt162.2 = 0 then (some (bt162.1 == x15)) else (some false))) else (some true))
end
def haulierlaw01_NumOrders.f (k : Nat) (a0 : Int) (a1 : Int) : Option (Bool) := (haulierlaw01_Awake.f).bind fun t148 => (if t148 = true then ((num_Add.f a0 a1).bind fun bt149 => ((num_Add.f a1 a0).bind fun bt151 => ((num_Mul.f a0 a1).bind fun bt153 => ((num_Mul.f a1 a0).bind fun bt155 => (if bt149.1 = bt151.1 then (if bt149.2 = bt151.2 then (if bt153.1 = bt155.1 then (haulierlaw01_NumOrders.j0 k a0 a1 bt153.1 bt153.2 (bt153.2 != bt155.2)) else (haulierlaw01_NumOrders.j0 k a0 a1 bt153.1 bt153.2 true)) else (haulierlaw01_NumOrders.j0 k a0 a1 bt153.1 bt153.2 true)) else (haulierlaw01_NumOrders.j0 k a0 a1 bt153.1 bt153.2 true)))))) else (some false))
theorem haulierlaw01_NumOrders.mono_l : ∀ k, (∀ y0 y1 y2 y3 y4, LeO (haulierlaw01_NumOrders.j0 k y0 y1 y2 y3 y4) (haulierlaw01_NumOrders.j0 (k + 1) y0 y1 y2 y3 y4)) ∧ (∀ y0 y1 y2 y3 y4, LeO (haulierlaw01_NumOrders.j1 k y0 y1 y2 y3 y4) (haulierlaw01_NumOrders.j1 (k + 1) y0 y1 y2 y3 y4)) ∧ (∀ y0 y1 y2 y3 y4, LeO (haulierlaw01_NumOrders.j2 k y0 y1 y2 y3 y4) (haulierlaw01_NumOrders.j2 (k + 1) y0 y1 y2 y3 y4))
  | 0 => ⟨fun _ _ _ _ _ r h => by simp [haulierlaw01_NumOrders.j0] at h, fun _ _ _ _ _ r h => by simp [haulierlaw01_NumOrders.j1] at h, fun _ _ _ _ _ r h => by simp [haulierlaw01_NumOrders.j2] at h⟩
  | k + 1 => by
    obtain ⟨ih0, ih1, ih2⟩ := haulierlaw01_NumOrders.mono_l k
    refine ⟨?_, ?_, ?_⟩
    · intro y0 y1 y2 y3 y4
      unfold haulierlaw01_NumOrders.j0
      repeat' first
      | (with_reducible exact ih0 _ _ _ _ _)
      | (with_reducible exact ih1 _ _ _ _ _)
      | (with_reducible exact ih2 _ _ _ _ _)
      | (with_reducible exact LeO.refl _)
      | (with_reducible exact LeO.none _)
      | (with_reducible refine LeO.ite ?_ ?_)
      | (with_reducible refine LeO.bind ?_ (fun _ => ?_))
      | exact ih0 _ _ _ _ _
      | exact ih1 _ _ _ _ _
      | exact ih2 _ _ _ _ _
      | exact LeO.none _
      | refine LeO.ite ?_ ?_
      | refine LeO.bind ?_ (fun _ => ?_)
    · intro y0 y1 y2 y3 y4
      unfold haulierlaw01_NumOrders.j1
      repeat' first
      | (with_reducible exact ih0 _ _ _ _ _)
      | (with_reducible exact ih1 _ _ _ _ _)
      | (with_reducible exact ih2 _ _ _ _ _)
      | (with_reducible exact LeO.refl _)
      | (with_reducible exact LeO.none _)
      | (with_reducible refine LeO.ite ?_ ?_)
      | (with_reducible refine LeO.bind ?_ (fun _ => ?_))
      | exact ih0 _ _ _ _ _
      | exact ih1 _ _ _ _ _
      | exact ih2 _ _ _ _ _
      | exact LeO.none _
      | refine LeO.ite ?_ ?_
      | refine LeO.bind ?_ (fun _ => ?_)
    · intro y0 y1 y2 y3 y4
      unfold haulierlaw01_NumOrders.j2
      repeat' first
      | (with_reducible exact ih0 _ _ _ _ _)
      | (with_reducible exact ih1 _ _ _ _ _)
      | (with_reducible exact ih2 _ _ _ _ _)
      | (with_reducible exact LeO.refl _)
      | (with_reducible exact LeO.none _)
      | (with_reducible refine LeO.ite ?_ ?_)
      | (with_reducible refine LeO.bind ?_ (fun _ => ?_))
      | exact ih0 _ _ _ _ _
      | exact ih1 _ _ _ _ _
      | exact ih2 _ _ _ _ _
      | exact LeO.none _
      | refine LeO.ite ?_ ?_
      | refine LeO.bind ?_ (fun _ => ?_)
theorem haulierlaw01_NumOrders.mono : ∀ a0 a1 k, LeO (haulierlaw01_NumOrders.f k a0 a1) (haulierlaw01_NumOrders.f (k + 1) a0 a1) := by
  intro a0 a1 k
  obtain ⟨ih0, ih1, ih2⟩ := haulierlaw01_NumOrders.mono_l k
  unfold haulierlaw01_NumOrders.f
  repeat' first
      | (with_reducible exact ih0 _ _ _ _ _)
      | (with_reducible exact ih1 _ _ _ _ _)
      | (with_reducible exact ih2 _ _ _ _ _)
      | (with_reducible exact LeO.refl _)
      | (with_reducible exact LeO.none _)
      | (with_reducible refine LeO.ite ?_ ?_)
      | (with_reducible refine LeO.bind ?_ (fun _ => ?_))
      | exact ih0 _ _ _ _ _
      | exact ih1 _ _ _ _ _
      | exact ih2 _ _ _ _ _
      | exact LeO.none _
      | refine LeO.ite ?_ ?_
      | refine LeO.bind ?_ (fun _ => ?_)
set_option maxHeartbeats 8000000 in
set_option maxRecDepth 100000 in
theorem haulierlaw01_NumOrders.calls (k : Nat) (a0 : Int) (a1 : Int) (r : Bool) (w : World) (hG : Aside0 (Glob w)) (h : haulierlaw01_NumOrders.f k a0 a1 = some r) :
    Calls Tryd.prog 6 #[.int .i64 a0, .int .i64 a1] w fun e w' => e = .returned (.bool r) ∧ Below w.heap.size w w' := by
  have HB := Aside0.mk (Below.refl w.heap.size w)
  have H : ((haulierlaw01_Awake.f).bind fun t148 => (if t148 = true then ((num_Add.f a0 a1).bind fun bt149 => ((num_Add.f a1 a0).bind fun bt151 => ((num_Mul.f a0 a1).bind fun bt153 => ((num_Mul.f a1 a0).bind fun bt155 => (if bt149.1 = bt151.1 then (if bt149.2 = bt151.2 then (if bt153.1 = bt155.1 then (haulierlaw01_NumOrders.j0 k a0 a1 bt153.1 bt153.2 (bt153.2 != bt155.2)) else (haulierlaw01_NumOrders.j0 k a0 a1 bt153.1 bt153.2 true)) else (haulierlaw01_NumOrders.j0 k a0 a1 bt153.1 bt153.2 true)) else (haulierlaw01_NumOrders.j0 k a0 a1 bt153.1 bt153.2 true)))))) else (some false))) = some r := h
  clear h
  replace H := Option.bind_eq_some_iff.mp H
  obtain ⟨t148, A30, H⟩ := H
  replace H : (if t148 = true then ((num_Add.f a0 a1).bind fun bt149 => ((num_Add.f a1 a0).bind fun bt151 => ((num_Mul.f a0 a1).bind fun bt153 => ((num_Mul.f a1 a0).bind fun bt155 => (if bt149.1 = bt151.1 then (if bt149.2 = bt151.2 then (if bt153.1 = bt155.1 then (haulierlaw01_NumOrders.j0 k a0 a1 bt153.1 bt153.2 (bt153.2 != bt155.2)) else (haulierlaw01_NumOrders.j0 k a0 a1 bt153.1 bt153.2 true)) else (haulierlaw01_NumOrders.j0 k a0 a1 bt153.1 bt153.2 true)) else (haulierlaw01_NumOrders.j0 k a0 a1 bt153.1 bt153.2 true)))))) else (some false)) = some r := H
  have A3 := Aside0.mk A30
  clear A30
  by_cases c4 : t148 = true
  · subst c4
    have H1 : ((num_Add.f a0 a1).bind fun bt149 => ((num_Add.f a1 a0).bind fun bt151 => ((num_Mul.f a0 a1).bind fun bt153 => ((num_Mul.f a1 a0).bind fun bt155 => (if bt149.1 = bt151.1 then (if bt149.2 = bt151.2 then (if bt153.1 = bt155.1 then (haulierlaw01_NumOrders.j0 k a0 a1 bt153.1 bt153.2 (bt153.2 != bt155.2)) else (haulierlaw01_NumOrders.j0 k a0 a1 bt153.1 bt153.2 true)) else (haulierlaw01_NumOrders.j0 k a0 a1 bt153.1 bt153.2 true)) else (haulierlaw01_NumOrders.j0 k a0 a1 bt153.1 bt153.2 true)))))) = some r := by rw [if_pos rfl] at H; exact H
    clear H
    have H := H1
    clear H1
    replace H := Option.bind_eq_some_iff.mp H
    obtain ⟨⟨t149, t150⟩, A50, H⟩ := H
    replace H : ((num_Add.f a1 a0).bind fun bt151 => ((num_Mul.f a0 a1).bind fun bt153 => ((num_Mul.f a1 a0).bind fun bt155 => (if t149 = bt151.1 then (if t150 = bt151.2 then (if bt153.1 = bt155.1 then (haulierlaw01_NumOrders.j0 k a0 a1 bt153.1 bt153.2 (bt153.2 != bt155.2)) else (haulierlaw01_NumOrders.j0 k a0 a1 bt153.1 bt153.2 true)) else (haulierlaw01_NumOrders.j0 k a0 a1 bt153.1 bt153.2 true)) else (haulierlaw01_NumOrders.j0 k a0 a1 bt153.1 bt153.2 true))))) = some r := H
    have A5 := Aside0.mk A50
    clear A50
    replace H := Option.bind_eq_some_iff.mp H
    obtain ⟨⟨t151, t152⟩, A60, H⟩ := H
    replace H : ((num_Mul.f a0 a1).bind fun bt153 => ((num_Mul.f a1 a0).bind fun bt155 => (if t149 = t151 then (if t150 = t152 then (if bt153.1 = bt155.1 then (haulierlaw01_NumOrders.j0 k a0 a1 bt153.1 bt153.2 (bt153.2 != bt155.2)) else (haulierlaw01_NumOrders.j0 k a0 a1 bt153.1 bt153.2 true)) else (haulierlaw01_NumOrders.j0 k a0 a1 bt153.1 bt153.2 true)) else (haulierlaw01_NumOrders.j0 k a0 a1 bt153.1 bt153.2 true)))) = some r := H
    have A6 := Aside0.mk A60
    clear A60
    replace H := Option.bind_eq_some_iff.mp H
    obtain ⟨⟨t153, t154⟩, A70, H⟩ := H
    replace H : ((num_Mul.f a1 a0).bind fun bt155 => (if t149 = t151 then (if t150 = t152 then (if t153 = bt155.1 then (haulierlaw01_NumOrders.j0 k a0 a1 t153 t154 (t154 != bt155.2)) else (haulierlaw01_NumOrders.j0 k a0 a1 t153 t154 true)) else (haulierlaw01_NumOrders.j0 k a0 a1 t153 t154 true)) else (haulierlaw01_NumOrders.j0 k a0 a1 t153 t154 true))) = some r := H
    have A7 := Aside0.mk A70
    clear A70
    replace H := Option.bind_eq_some_iff.mp H
    obtain ⟨⟨t155, t156⟩, A80, H⟩ := H
    replace H : (if t149 = t151 then (if t150 = t152 then (if t153 = t155 then (haulierlaw01_NumOrders.j0 k a0 a1 t153 t154 (t154 != t156)) else (haulierlaw01_NumOrders.j0 k a0 a1 t153 t154 true)) else (haulierlaw01_NumOrders.j0 k a0 a1 t153 t154 true)) else (haulierlaw01_NumOrders.j0 k a0 a1 t153 t154 true)) = some r := H
    have A8 := Aside0.mk A80
    clear A80
    have HC9 := Aside0.mk H
    clear H
    go_enter Tryd.func6, Tryd.ntmps6
    go_upto_region 7 with (first | ((with_reducible refine gate_callee (f := 10) rfl ?_); refine goesL_ (some 19) rfl rfl Tryd.func10 (by kernel_rfl) rfl #[] rfl (by (try simp only [List.map_toArray, List.map_cons, List.map_nil]); first | done | rfl | (simp only [List.length_drop, List.length_take]; rfl)) ?_; (with_reducible refine (haulierlaw01_Awake.calls  true _ ⟨by repeat (first | exact hG.out | exact hG.out.below (by repeat (first | (with_reducible first | exact HB.out | apply below_alloc | apply pw_below_drewN | apply below_drew1) | exact HB.out | exact Below.refl _ _)) | apply Glob.drewN | apply Glob.drew)⟩ A3.out).mono ?_); rintro e w10 ⟨rfl, hb⟩; refine ⟨_, rfl, ?_⟩; have n0_ := Aside0.mk (below_step (by repeat (first | (with_reducible first | exact HB.out | apply below_alloc | apply pw_below_drewN | apply below_drew1) | exact HB.out)) hb); clear HB; have HB := n0_; clear n0_; (try clear hb); (try clear hb2); (try clear hk); (try clear hi)) | ((with_reducible refine gate_callee (f := 16) rfl ?_); refine goesL_ (some 24) rfl rfl Tryd.func16 (by kernel_rfl) rfl #[.int .i64 a0, .int .i64 a1] rfl (by (try simp only [List.map_toArray, List.map_cons, List.map_nil]); first | done | rfl | (simp only [List.length_drop, List.length_take]; rfl)) ?_; (with_reducible refine (num_Add.calls a0 a1 t149 t150 _ ⟨by repeat (first | exact hG.out | exact hG.out.below (by repeat (first | (with_reducible first | exact HB.out | apply below_alloc | apply pw_below_drewN | apply below_drew1) | exact HB.out | exact Below.refl _ _)) | apply Glob.drewN | apply Glob.drew)⟩ A5.out).mono ?_); rintro e w' ⟨rfl, ⟨nd, rfl⟩⟩; refine ⟨_, rfl, ?_⟩) | ((with_reducible refine gate_callee (f := 16) rfl ?_); refine goesL_ (some 30) rfl rfl Tryd.func16 (by kernel_rfl) rfl #[.int .i64 a1, .int .i64 a0] rfl (by (try simp only [List.map_toArray, List.map_cons, List.map_nil]); first | done | rfl | (simp only [List.length_drop, List.length_take]; rfl)) ?_; (with_reducible refine (num_Add.calls a1 a0 t151 t152 _ ⟨by repeat (first | exact hG.out | exact hG.out.below (by repeat (first | (with_reducible first | exact HB.out | apply below_alloc | apply pw_below_drewN | apply below_drew1) | exact HB.out | exact Below.refl _ _)) | apply Glob.drewN | apply Glob.drew)⟩ A6.out).mono ?_); rintro e w' ⟨rfl, ⟨nd, rfl⟩⟩; refine ⟨_, rfl, ?_⟩) | ((with_reducible refine gate_callee (f := 18) rfl ?_); refine goesL_ (some 36) rfl rfl Tryd.func18 (by kernel_rfl) rfl #[.int .i64 a0, .int .i64 a1] rfl (by (try simp only [List.map_toArray, List.map_cons, List.map_nil]); first | done | rfl | (simp only [List.length_drop, List.length_take]; rfl)) ?_; (with_reducible refine (num_Mul.calls a0 a1 t153 t154 _ ⟨by repeat (first | exact hG.out | exact hG.out.below (by repeat (first | (with_reducible first | exact HB.out | apply below_alloc | apply pw_below_drewN | apply below_drew1) | exact HB.out | exact Below.refl _ _)) | apply Glob.drewN | apply Glob.drew)⟩ A7.out).mono ?_); rintro e w' ⟨rfl, ⟨nd, rfl⟩⟩; refine ⟨_, rfl, ?_⟩) | ((with_reducible refine gate_callee (f := 18) rfl ?_); refine goesL_ (some 42) rfl rfl Tryd.func18 (by kernel_rfl) rfl #[.int .i64 a1, .int .i64 a0] rfl (by (try simp only [List.map_toArray, List.map_cons, List.map_nil]); first | done | rfl | (simp only [List.length_drop, List.length_take]; rfl)) ?_; (with_reducible refine (num_Mul.calls a1 a0 t155 t156 _ ⟨by repeat (first | exact hG.out | exact hG.out.below (by repeat (first | (with_reducible first | exact HB.out | apply below_alloc | apply pw_below_drewN | apply below_drew1) | exact HB.out | exact Below.refl _ _)) | apply Glob.drewN | apply Glob.drew)⟩ A8.out).mono ?_); rintro e w' ⟨rfl, ⟨nd, rfl⟩⟩; refine ⟨_, rfl, ?_⟩))
    (try simp only [Act.put, List.setIfInBounds_toArray, List.set_cons_zero, List.set_cons_succ])
    go_cut [62] (fun v62 wc => ∃ (kq : Nat) (x62_8 : Bool), v62 = .bool x62_8 ∧ Aside0 (haulierlaw01_NumOrders.j0 kq a0 a1 t153 t154 x62_8 = some r) ∧ Aside0 (kq ≤ k) ∧ Aside0 (Below w.heap.size w wc))
    case first =>
      have H := HC9.out
      clear HC9
      by_cases c11 : t149 = t151
      · rw [if_pos c11] at H
        have c11b0 : (t149 == t151) = true := beq_iff_eq.mpr c11
        have c11b1 : (t149 != t151) = false := bne_eq_false_iff_eq.mpr c11
        clear c11
        (first | rw [c11b0] | (simp only [i64_w, i32_w]; rw [c11b0]) | skip)
        by_cases c12 : t150 = t152
        · rw [if_pos c12] at H
          have c12b0 : (t150 == t152) = true := beq_iff_eq.mpr c12
          have c12b1 : (t150 != t152) = false := bne_eq_false_iff_eq.mpr c12
          clear c12
          by_cases c13 : t153 = t155
          · rw [if_pos c13] at H
            have c13b0 : (t153 == t155) = true := beq_iff_eq.mpr c13
            have c13b1 : (t153 != t155) = false := bne_eq_false_iff_eq.mpr c13
            clear c13
            have H' := Aside0.mk H
            clear H
            go_wp2
            go_meet
            case rel => exact ⟨_, ((t154 != t156)), (by first | rfl | (simp; done) | (simp [*]; done)), H', ⟨by first | omega | exact Nat.le_refl _⟩, ⟨by repeat (first | (with_reducible first | exact HB.out | apply below_alloc | apply pw_below_drewN | apply below_drew1) | exact HB.out)⟩⟩
          · rw [if_neg c13] at H
            have c13b0 : (t153 == t155) = false := beq_eq_false_iff_ne.mpr c13
            have c13b1 : (t153 != t155) = true := bne_iff_ne.mpr c13
            have H' := Aside0.mk H
            clear H
            go_wp2
            go_meet
            case rel => exact ⟨_, (true), (by first | rfl | (simp; done) | (simp [*]; done)), H', ⟨by first | omega | exact Nat.le_refl _⟩, ⟨by repeat (first | (with_reducible first | exact HB.out | apply below_alloc | apply pw_below_drewN | apply below_drew1) | exact HB.out)⟩⟩
        · rw [if_neg c12] at H
          have c12b0 : (t150 == t152) = false := beq_eq_false_iff_ne.mpr c12
          have c12b1 : (t150 != t152) = true := bne_iff_ne.mpr c12
          have H' := Aside0.mk H
          clear H
          go_wp2
          go_meet
          case rel => exact ⟨_, (true), (by first | rfl | (simp; done) | (simp [*]; done)), H', ⟨by first | omega | exact Nat.le_refl _⟩, ⟨by repeat (first | (with_reducible first | exact HB.out | apply below_alloc | apply pw_below_drewN | apply below_drew1) | exact HB.out)⟩⟩
      · rw [if_neg c11] at H
        have c11b0 : (t149 == t151) = false := beq_eq_false_iff_ne.mpr c11
        have c11b1 : (t149 != t151) = true := bne_iff_ne.mpr c11
        (first | rw [c11b0] | (simp only [i64_w, i32_w]; rw [c11b0]) | skip)
        have H' := Aside0.mk H
        clear H
        go_wp2
        go_meet
        case rel => exact ⟨_, (true), (by first | rfl | (simp; done) | (simp [*]; done)), H', ⟨by first | omega | exact Nat.le_refl _⟩, ⟨by repeat (first | (with_reducible first | exact HB.out | apply below_alloc | apply pw_below_drewN | apply below_drew1) | exact HB.out)⟩⟩
    case rest =>
      clear HC9
      try clear c1
      try clear p2
      try clear c4
      try clear c6
      try clear c10
      try clear c11
      try clear c11b0
      try clear c11b1
      try clear c12
      try clear c12b0
      try clear c12b1
      try clear c13
      try clear c13b0
      try clear c13b1
      obtain ⟨kq, x62_8, rfl, HA, HJ8, HB⟩ := hcut
      cases kq with
      | zero => exact absurd HA.out (by simp [haulierlaw01_NumOrders.j0])
      | succ kj8 =>
        have H := HA.out
        clear HA
        simp only [haulierlaw01_NumOrders.j0] at H
        by_cases c14 : x62_8 = true
        · subst c14
          have H1 : (some false) = some r := by rw [if_pos rfl] at H; exact H
          clear H
          have H := H1
          clear H1
          obtain rfl := Option.some.inj H
          go_wp2
          go_ret
          exact ⟨by first | rfl | (simp [errW_none, errW_some] <;> rfl) | (simp [*, errW_none, errW_some] <;> rfl), by repeat (first | (with_reducible first | exact HB.out | apply below_alloc | apply pw_below_drewN | apply below_drew1) | exact HB.out)⟩
        · replace c14 := Bool.eq_false_iff.mpr c14
          subst c14
          have H1 : ((haulierref01_Fits.f a0).bind fun t157 => (if t157 = true then (if a1 < 0 then (haulierlaw01_NumOrders.j1 kj8 a0 a1 t153 t154 true) else (haulierlaw01_NumOrders.j1 kj8 a0 a1 t153 t154 (decide (a1 ≥ 4611686018427387903)))) else (haulierlaw01_NumOrders.j1 kj8 a0 a1 t153 t154 true))) = some r := by rw [if_neg (show ¬ (false = true) by decide)] at H; exact H
          clear H
          have H := H1
          clear H1
          have HC15 := Aside0.mk H
          clear H
          go_upto_region 9 with (fail)
          go_cut [73] (fun v73 wc => ∃ (kq : Nat) (x73_14 : Bool), v73 = .bool x73_14 ∧ Aside0 (haulierlaw01_NumOrders.j1 kq a0 a1 t153 t154 x73_14 = some r) ∧ Aside0 (kq ≤ kj8) ∧ Aside0 (Below w.heap.size w wc))
          case first =>
            have H := HC15.out
            clear HC15
            replace H := Option.bind_eq_some_iff.mp H
            obtain ⟨t157, A160, H⟩ := H
            replace H : (if t157 = true then (if a1 < 0 then (haulierlaw01_NumOrders.j1 kj8 a0 a1 t153 t154 true) else (haulierlaw01_NumOrders.j1 kj8 a0 a1 t153 t154 (decide (a1 ≥ 4611686018427387903)))) else (haulierlaw01_NumOrders.j1 kj8 a0 a1 t153 t154 true)) = some r := H
            have A16 := Aside0.mk A160
            clear A160
            by_cases c17 : t157 = true
            · subst c17
              have H1 : (if a1 < 0 then (haulierlaw01_NumOrders.j1 kj8 a0 a1 t153 t154 true) else (haulierlaw01_NumOrders.j1 kj8 a0 a1 t153 t154 (decide (a1 ≥ 4611686018427387903)))) = some r := by rw [if_pos rfl] at H; exact H
              clear H
              have H := H1
              clear H1
              by_cases c18 : a1 < 0
              · rw [if_pos c18] at H
                have c18b0 : decide (a1 < 0) = true := decide_eq_true c18
                clear c18
                (first | rw [c18b0] | (simp only [i64_w, i32_w]; rw [c18b0]) | skip)
                have H' := Aside0.mk H
                clear H
                go_wp2_with (first | ((with_reducible refine gate_callee (f := 15) rfl ?_); refine goesL_ (some 64) rfl rfl Tryd.func15 (by kernel_rfl) rfl #[.int .i64 a0] rfl (by (try simp only [List.map_toArray, List.map_cons, List.map_nil]); first | done | rfl | (simp only [List.length_drop, List.length_take]; rfl)) ?_; (with_reducible refine (haulierref01_Fits.calls a0 true _ ⟨by repeat (first | exact hG.out | exact hG.out.below (by repeat (first | (with_reducible first | exact HB.out | apply below_alloc | apply pw_below_drewN | apply below_drew1) | exact HB.out | exact Below.refl _ _)) | apply Glob.drewN | apply Glob.drew)⟩ A16.out).mono ?_); rintro e w' ⟨rfl, ⟨nd, rfl⟩⟩; refine ⟨_, rfl, ?_⟩))
                go_meet
                case rel => exact ⟨_, (true), (by first | rfl | (simp; done) | (simp [*]; done)), H', ⟨by have := HJ8.out; first | omega | exact Nat.le_refl _⟩, ⟨by repeat (first | (with_reducible first | exact HB.out | apply below_alloc | apply pw_below_drewN | apply below_drew1) | exact HB.out)⟩⟩
              · rw [if_neg c18] at H
                have c18b0 : decide (a1 < 0) = false := decide_eq_false c18
                clear c18
                (first | rw [c18b0] | (simp only [i64_w, i32_w]; rw [c18b0]) | skip)
                have H' := Aside0.mk H
                clear H
                go_wp2_with (first | ((with_reducible refine gate_callee (f := 15) rfl ?_); refine goesL_ (some 64) rfl rfl Tryd.func15 (by kernel_rfl) rfl #[.int .i64 a0] rfl (by (try simp only [List.map_toArray, List.map_cons, List.map_nil]); first | done | rfl | (simp only [List.length_drop, List.length_take]; rfl)) ?_; (with_reducible refine (haulierref01_Fits.calls a0 true _ ⟨by repeat (first | exact hG.out | exact hG.out.below (by repeat (first | (with_reducible first | exact HB.out | apply below_alloc | apply pw_below_drewN | apply below_drew1) | exact HB.out | exact Below.refl _ _)) | apply Glob.drewN | apply Glob.drew)⟩ A16.out).mono ?_); rintro e w' ⟨rfl, ⟨nd, rfl⟩⟩; refine ⟨_, rfl, ?_⟩))
                go_meet
                case rel => exact ⟨_, (decide (a1 ≥ 4611686018427387903)), (by first | rfl | (simp; done) | (simp [*]; done)), H', ⟨by have := HJ8.out; first | omega | exact Nat.le_refl _⟩, ⟨by repeat (first | (with_reducible first | exact HB.out | apply below_alloc | apply pw_below_drewN | apply below_drew1) | exact HB.out)⟩⟩
            · replace c17 := Bool.eq_false_iff.mpr c17
              subst c17
              have H1 : (haulierlaw01_NumOrders.j1 kj8 a0 a1 t153 t154 true) = some r := by rw [if_neg (show ¬ (false = true) by decide)] at H; exact H
              clear H
              have H := H1
              clear H1
              have H' := Aside0.mk H
              clear H
              go_wp2_with (first | ((with_reducible refine gate_callee (f := 15) rfl ?_); refine goesL_ (some 64) rfl rfl Tryd.func15 (by kernel_rfl) rfl #[.int .i64 a0] rfl (by (try simp only [List.map_toArray, List.map_cons, List.map_nil]); first | done | rfl | (simp only [List.length_drop, List.length_take]; rfl)) ?_; (with_reducible refine (haulierref01_Fits.calls a0 false _ ⟨by repeat (first | exact hG.out | exact hG.out.below (by repeat (first | (with_reducible first | exact HB.out | apply below_alloc | apply pw_below_drewN | apply below_drew1) | exact HB.out | exact Below.refl _ _)) | apply Glob.drewN | apply Glob.drew)⟩ A16.out).mono ?_); rintro e w' ⟨rfl, ⟨nd, rfl⟩⟩; refine ⟨_, rfl, ?_⟩))
              go_meet
              case rel => exact ⟨_, (true), (by first | rfl | (simp; done) | (simp [*]; done)), H', ⟨by have := HJ8.out; first | omega | exact Nat.le_refl _⟩, ⟨by repeat (first | (with_reducible first | exact HB.out | apply below_alloc | apply pw_below_drewN | apply below_drew1) | exact HB.out)⟩⟩
          case rest =>
            clear HC15
            try clear c1
            try clear p2
            try clear c4
            try clear c6
            try clear c10
            try clear c11
            try clear c11b0
            try clear c11b1
            try clear c12
            try clear c12b0
            try clear c12b1
            try clear c13
            try clear c13b0
            try clear c13b1
            try clear c14
            try clear c15
            try clear c16
            try clear c17
            try clear c18
            try clear c18b0
            try clear p2
            obtain ⟨kq, x73_14, rfl, HA, HJ14, HB⟩ := hcut
            cases kq with
            | zero => exact absurd HA.out (by simp [haulierlaw01_NumOrders.j1])
            | succ kj14 =>
              have H := HA.out
              clear HA
              simp only [haulierlaw01_NumOrders.j1] at H
              by_cases c19 : x73_14 = true
              · subst c19
                have H1 : (some true) = some r := by rw [if_pos rfl] at H; exact H
                clear H
                have H := H1
                clear H1
                obtain rfl := Option.some.inj H
                go_wp2
                go_ret
                exact ⟨by first | rfl | (simp [errW_none, errW_some] <;> rfl) | (simp [*, errW_none, errW_some] <;> rfl), by repeat (first | (with_reducible first | exact HB.out | apply below_alloc | apply pw_below_drewN | apply below_drew1) | exact HB.out)⟩
              · replace c19 := Bool.eq_false_iff.mpr c19
                subst c19
                have H1 : ((num_Add.f a0 (wrap64 (-a0))).bind fun bt158 => ((num_Mul.f a0 (wrap64 (a1 + 1))).bind fun bt160 => (if bt158.2 = 0 then (if bt158.1 = 0 then (if t154 = 0 then (haulierlaw01_NumOrders.j2 kj14 a0 t153 bt160.1 bt160.2 false) else (haulierlaw01_NumOrders.j2 kj14 a0 t153 bt160.1 bt160.2 (bt160.2 == 0))) else (haulierlaw01_NumOrders.j2 kj14 a0 t153 bt160.1 bt160.2 true)) else (haulierlaw01_NumOrders.j2 kj14 a0 t153 bt160.1 bt160.2 true)))) = some r := by rw [if_neg (show ¬ (false = true) by decide)] at H; exact H
                clear H
                have H := H1
                clear H1
                replace H := Option.bind_eq_some_iff.mp H
                obtain ⟨⟨t158, t159⟩, A200, H⟩ := H
                replace H : ((num_Mul.f a0 (wrap64 (a1 + 1))).bind fun bt160 => (if t159 = 0 then (if t158 = 0 then (if t154 = 0 then (haulierlaw01_NumOrders.j2 kj14 a0 t153 bt160.1 bt160.2 false) else (haulierlaw01_NumOrders.j2 kj14 a0 t153 bt160.1 bt160.2 (bt160.2 == 0))) else (haulierlaw01_NumOrders.j2 kj14 a0 t153 bt160.1 bt160.2 true)) else (haulierlaw01_NumOrders.j2 kj14 a0 t153 bt160.1 bt160.2 true))) = some r := H
                have A20 := Aside0.mk A200
                clear A200
                replace H := Option.bind_eq_some_iff.mp H
                obtain ⟨⟨t160, t161⟩, A210, H⟩ := H
                replace H : (if t159 = 0 then (if t158 = 0 then (if t154 = 0 then (haulierlaw01_NumOrders.j2 kj14 a0 t153 t160 t161 false) else (haulierlaw01_NumOrders.j2 kj14 a0 t153 t160 t161 (t161 == 0))) else (haulierlaw01_NumOrders.j2 kj14 a0 t153 t160 t161 true)) else (haulierlaw01_NumOrders.j2 kj14 a0 t153 t160 t161 true)) = some r := H
                have A21 := Aside0.mk A210
                clear A210
                have HC22 := Aside0.mk H
                clear H
                go_upto_region 13 with (first | ((with_reducible refine gate_callee (f := 16) rfl ?_); refine goesL_ (some 78) rfl rfl Tryd.func16 (by kernel_rfl) rfl #[.int .i64 a0, .int .i64 (wrap64 (-a0))] rfl (by (try simp only [List.map_toArray, List.map_cons, List.map_nil]); first | done | rfl | (simp only [List.length_drop, List.length_take]; rfl)) ?_; (with_reducible refine (num_Add.calls a0 (wrap64 (-a0)) t158 t159 _ ⟨by repeat (first | exact hG.out | exact hG.out.below (by repeat (first | (with_reducible first | exact HB.out | apply below_alloc | apply pw_below_drewN | apply below_drew1) | exact HB.out | exact Below.refl _ _)) | apply Glob.drewN | apply Glob.drew)⟩ A20.out).mono ?_); rintro e w' ⟨rfl, ⟨nd, rfl⟩⟩; refine ⟨_, rfl, ?_⟩) | ((with_reducible refine gate_callee (f := 18) rfl ?_); refine goesL_ (some 85) rfl rfl Tryd.func18 (by kernel_rfl) rfl #[.int .i64 a0, .int .i64 (wrap64 (a1 + 1))] rfl (by (try simp only [List.map_toArray, List.map_cons, List.map_nil]); first | done | rfl | (simp only [List.length_drop, List.length_take]; rfl)) ?_; (with_reducible refine (num_Mul.calls a0 (wrap64 (a1 + 1)) t160 t161 _ ⟨by repeat (first | exact hG.out | exact hG.out.below (by repeat (first | (with_reducible first | exact HB.out | apply below_alloc | apply pw_below_drewN | apply below_drew1) | exact HB.out | exact Below.refl _ _)) | apply Glob.drewN | apply Glob.drew)⟩ A21.out).mono ?_); rintro e w' ⟨rfl, ⟨nd, rfl⟩⟩; refine ⟨_, rfl, ?_⟩))
                (try simp only [Act.put, List.setIfInBounds_toArray, List.set_cons_zero, List.set_cons_succ])
                go_cut [101] (fun v101 wc => ∃ (kq : Nat) (x101_21 : Bool), v101 = .bool x101_21 ∧ Aside0 (haulierlaw01_NumOrders.j2 kq a0 t153 t160 t161 x101_21 = some r) ∧ Aside0 (kq ≤ kj14) ∧ Aside0 (Below w.heap.size w wc))
                case first =>
                  have H := HC22.out
                  clear HC22
                  by_cases c23 : t159 = 0
                  · rw [if_pos c23] at H
                    have c23b0 : (t159 == 0) = true := beq_iff_eq.mpr c23
                    have c23b1 : (t159 != 0) = false := bne_eq_false_iff_eq.mpr c23
                    clear c23
                    (first | rw [c23b0] | (simp only [i64_w, i32_w]; rw [c23b0]) | skip)
                    by_cases c24 : t158 = 0
                    · rw [if_pos c24] at H
                      have c24b0 : (t158 == 0) = true := beq_iff_eq.mpr c24
                      have c24b1 : (t158 != 0) = false := bne_eq_false_iff_eq.mpr c24
                      clear c24
                      by_cases c25 : t154 = 0
                      · rw [if_pos c25] at H
                        have c25b0 : (t154 == 0) = true := beq_iff_eq.mpr c25
                        have c25b1 : (t154 != 0) = false := bne_eq_false_iff_eq.mpr c25
                        clear c25
                        have H' := Aside0.mk H
                        clear H
                        go_wp2
                        go_meet
                        case rel => exact ⟨_, (false), (by first | rfl | (simp; done) | (simp [*]; done)), H', ⟨by have := HJ8.out; have := HJ14.out; first | omega | exact Nat.le_refl _⟩, ⟨by repeat (first | (with_reducible first | exact HB.out | apply below_alloc | apply pw_below_drewN | apply below_drew1) | exact HB.out)⟩⟩
                      · rw [if_neg c25] at H
                        have c25b0 : (t154 == 0) = false := beq_eq_false_iff_ne.mpr c25
                        have c25b1 : (t154 != 0) = true := bne_iff_ne.mpr c25
                        have H' := Aside0.mk H
                        clear H
                        go_wp2
                        go_meet
                        case rel => exact ⟨_, ((t161 == 0)), (by first | rfl | (simp; done) | (simp [*]; done)), H', ⟨by have := HJ8.out; have := HJ14.out; first | omega | exact Nat.le_refl _⟩, ⟨by repeat (first | (with_reducible first | exact HB.out | apply below_alloc | apply pw_below_drewN | apply below_drew1) | exact HB.out)⟩⟩
                    · rw [if_neg c24] at H
                      have c24b0 : (t158 == 0) = false := beq_eq_false_iff_ne.mpr c24
                      have c24b1 : (t158 != 0) = true := bne_iff_ne.mpr c24
                      have H' := Aside0.mk H
                      clear H
                      go_wp2
                      go_meet
                      case rel => exact ⟨_, (true), (by first | rfl | (simp; done) | (simp [*]; done)), H', ⟨by have := HJ8.out; have := HJ14.out; first | omega | exact Nat.le_refl _⟩, ⟨by repeat (first | (with_reducible first | exact HB.out | apply below_alloc | apply pw_below_drewN | apply below_drew1) | exact HB.out)⟩⟩
                  · rw [if_neg c23] at H
                    have c23b0 : (t159 == 0) = false := beq_eq_false_iff_ne.mpr c23
                    have c23b1 : (t159 != 0) = true := bne_iff_ne.mpr c23
                    (first | rw [c23b0] | (simp only [i64_w, i32_w]; rw [c23b0]) | skip)
                    have H' := Aside0.mk H
                    clear H
                    go_wp2
                    go_meet
                    case rel => exact ⟨_, (true), (by first | rfl | (simp; done) | (simp [*]; done)), H', ⟨by have := HJ8.out; have := HJ14.out; first | omega | exact Nat.le_refl _⟩, ⟨by repeat (first | (with_reducible first | exact HB.out | apply below_alloc | apply pw_below_drewN | apply below_drew1) | exact HB.out)⟩⟩
                case rest =>
                  clear HC22
                  try clear c1
                  try clear c2
                  try clear p2
                  try clear c4
                  try clear c6
                  try clear p6
                  try clear c10
                  try clear c11
                  try clear c11b0
                  try clear c11b1
                  try clear c12
                  try clear c12b0
                  try clear c12b1
                  try clear c13
                  try clear c13b0
                  try clear c13b1
                  try clear c14
                  try clear c15
                  try clear c16
                  try clear c17
                  try clear c18
                  try clear c18b0
                  try clear c19
                  try clear c23
                  try clear c23b0
                  try clear c23b1
                  try clear c24
                  try clear c24b0
                  try clear c24b1
                  try clear c25
                  try clear c25b0
                  try clear c25b1
                  try clear p2
                  obtain ⟨kq, x101_21, rfl, HA, HJ21, HB⟩ := hcut
                  cases kq with
                  | zero => exact absurd HA.out (by simp [haulierlaw01_NumOrders.j2])
                  | succ kj21 =>
                    have H := HA.out
                    clear HA
                    simp only [haulierlaw01_NumOrders.j2] at H
                    by_cases c26 : x101_21 = true
                    · subst c26
                      have H1 : (some false) = some r := by rw [if_pos rfl] at H; exact H
                      clear H
                      have H := H1
                      clear H1
                      obtain rfl := Option.some.inj H
                      go_wp2
                      go_ret
                      exact ⟨by first | rfl | (simp [errW_none, errW_some] <;> rfl) | (simp [*, errW_none, errW_some] <;> rfl), by repeat (first | (with_reducible first | exact HB.out | apply below_alloc | apply pw_below_drewN | apply below_drew1) | exact HB.out)⟩
                    · replace c26 := Bool.eq_false_iff.mpr c26
                      subst c26
                      have H1 : (if t161 = 0 then ((num_Add.f t153 a0).bind fun bt162 => (if bt162.2 = 0 then (some (bt162.1 == t160)) else (some false))) else (some true)) = some r := by rw [if_neg (show ¬ (false = true) by decide)] at H; exact H
                      clear H
                      have H := H1
                      clear H1
                      by_cases c27 : t161 = 0
                      · rw [if_pos c27] at H
                        have c27b0 : (t161 == 0) = true := beq_iff_eq.mpr c27
                        have c27b1 : (t161 != 0) = false := bne_eq_false_iff_eq.mpr c27
                        clear c27
                        replace H := Option.bind_eq_some_iff.mp H
                        obtain ⟨⟨t162, t163⟩, A280, H⟩ := H
                        replace H : (if t163 = 0 then (some (t162 == t160)) else (some false)) = some r := H
                        have A28 := Aside0.mk A280
                        clear A280
                        by_cases c29 : t163 = 0
                        · rw [if_pos c29] at H
                          have c29b0 : (t163 == 0) = true := beq_iff_eq.mpr c29
                          have c29b1 : (t163 != 0) = false := bne_eq_false_iff_eq.mpr c29
                          clear c29
                          obtain rfl := Option.some.inj H
                          go_wp2_with (first | ((with_reducible refine gate_callee (f := 16) rfl ?_); refine goesL_ (some 107) rfl rfl Tryd.func16 (by kernel_rfl) rfl #[.int .i64 t153, .int .i64 a0] rfl (by (try simp only [List.map_toArray, List.map_cons, List.map_nil]); first | done | rfl | (simp only [List.length_drop, List.length_take]; rfl)) ?_; (with_reducible refine (num_Add.calls t153 a0 t162 t163 _ ⟨by repeat (first | exact hG.out | exact hG.out.below (by repeat (first | (with_reducible first | exact HB.out | apply below_alloc | apply pw_below_drewN | apply below_drew1) | exact HB.out | exact Below.refl _ _)) | apply Glob.drewN | apply Glob.drew)⟩ A28.out).mono ?_); rintro e w' ⟨rfl, ⟨nd, rfl⟩⟩; refine ⟨_, rfl, ?_⟩))
                          go_ret
                          exact ⟨by first | rfl | (simp [errW_none, errW_some] <;> rfl) | (simp [*, errW_none, errW_some] <;> rfl), by repeat (first | (with_reducible first | exact HB.out | apply below_alloc | apply pw_below_drewN | apply below_drew1) | exact HB.out)⟩
                        · rw [if_neg c29] at H
                          have c29b0 : (t163 == 0) = false := beq_eq_false_iff_ne.mpr c29
                          have c29b1 : (t163 != 0) = true := bne_iff_ne.mpr c29
                          obtain rfl := Option.some.inj H
                          go_wp2_with (first | ((with_reducible refine gate_callee (f := 16) rfl ?_); refine goesL_ (some 107) rfl rfl Tryd.func16 (by kernel_rfl) rfl #[.int .i64 t153, .int .i64 a0] rfl (by (try simp only [List.map_toArray, List.map_cons, List.map_nil]); first | done | rfl | (simp only [List.length_drop, List.length_take]; rfl)) ?_; (with_reducible refine (num_Add.calls t153 a0 t162 t163 _ ⟨by repeat (first | exact hG.out | exact hG.out.below (by repeat (first | (with_reducible first | exact HB.out | apply below_alloc | apply pw_below_drewN | apply below_drew1) | exact HB.out | exact Below.refl _ _)) | apply Glob.drewN | apply Glob.drew)⟩ A28.out).mono ?_); rintro e w' ⟨rfl, ⟨nd, rfl⟩⟩; refine ⟨_, rfl, ?_⟩))
                          go_ret
                          exact ⟨by first | rfl | (simp [errW_none, errW_some] <;> rfl) | (simp [*, errW_none, errW_some] <;> rfl), by repeat (first | (with_reducible first | exact HB.out | apply below_alloc | apply pw_below_drewN | apply below_drew1) | exact HB.out)⟩
                      · rw [if_neg c27] at H
                        have c27b0 : (t161 == 0) = false := beq_eq_false_iff_ne.mpr c27
                        have c27b1 : (t161 != 0) = true := bne_iff_ne.mpr c27
                        obtain rfl := Option.some.inj H
                        go_wp2
                        go_ret
                        exact ⟨by first | rfl | (simp [errW_none, errW_some] <;> rfl) | (simp [*, errW_none, errW_some] <;> rfl), by repeat (first | (with_reducible first | exact HB.out | apply below_alloc | apply pw_below_drewN | apply below_drew1) | exact HB.out)⟩
  · replace c4 := Bool.eq_false_iff.mpr c4
    subst c4
    have H1 : (some false) = some r := by rw [if_neg (show ¬ (false = true) by decide)] at H; exact H
    clear H
    have H := H1
    clear H1
    obtain rfl := Option.some.inj H
    go_enter Tryd.func6, Tryd.ntmps6
    go_wp2_with (first | ((with_reducible refine gate_callee (f := 10) rfl ?_); refine goesL_ (some 19) rfl rfl Tryd.func10 (by kernel_rfl) rfl #[] rfl (by (try simp only [List.map_toArray, List.map_cons, List.map_nil]); first | done | rfl | (simp only [List.length_drop, List.length_take]; rfl)) ?_; (with_reducible refine (haulierlaw01_Awake.calls  false _ ⟨by repeat (first | exact hG.out | exact hG.out.below (by repeat (first | (with_reducible first | exact HB.out | apply below_alloc | apply pw_below_drewN | apply below_drew1) | exact HB.out | exact Below.refl _ _)) | apply Glob.drewN | apply Glob.drew)⟩ A3.out).mono ?_); rintro e w30 ⟨rfl, hb⟩; refine ⟨_, rfl, ?_⟩; have n0_ := Aside0.mk (below_step (by repeat (first | (with_reducible first | exact HB.out | apply below_alloc | apply pw_below_drewN | apply below_drew1) | exact HB.out)) hb); clear HB; have HB := n0_; clear n0_; (try clear hb); (try clear hb2); (try clear hk); (try clear hi)))
    go_ret
    exact ⟨by first | rfl | (simp [errW_none, errW_some] <;> rfl) | (simp [*, errW_none, errW_some] <;> rfl), by repeat (first | (with_reducible first | exact HB.out | apply below_alloc | apply pw_below_drewN | apply below_drew1) | exact HB.out)⟩

/-- THE ONE PURE STATEMENT of haulierlaw01_NumOrders: yours. -/
def haulierlaw01_NumOrders.Pure : Prop := ∀ (a0 : Int) (a1 : Int), (Lit.int .i64 a0).wf = true → (Lit.int .i64 a1).wf = true → ∃ k, haulierlaw01_NumOrders.f k a0 a1 = some true
theorem haulierlaw01_NumOrders.walk (P : haulierlaw01_NumOrders.Pure) (a0 : Int) (a1 : Int) (w : World) (hG : Aside0 (Glob w)) (w0 : (Lit.int .i64 a0).wf = true) (w1 : (Lit.int .i64 a1).wf = true) :
    Calls Tryd.prog 6 #[.int .i64 a0, .int .i64 a1] w fun e w' => e = .returned (.bool true) ∧ Below w.heap.size w w' := by
  obtain ⟨k, h⟩ := P a0 a1 w0 w1
  refine (haulierlaw01_NumOrders.calls k a0 a1 true w ⟨by repeat (first | exact hG.out | exact hG.out.below (by repeat (first | (with_reducible first | exact HB.out | apply below_alloc | apply pw_below_drewN | apply below_drew1) | exact HB.out | exact Below.refl _ _)) | apply Glob.drewN | apply Glob.drew)⟩ h).mono ?_
  rintro e w' ⟨rfl, hd⟩
  exact ⟨rfl, hd⟩

/-! ### haulierlaw01_NumSigns: function 7 -/
def haulierlaw01_NumSigns.j0 : Nat → Int → Int → Bool → Option (Bool)
  | 0, _, _, _ => none
  | k + 1, x0, x1, x28 => if x28 = true then ((num_Add.f x0 x1).bind fun bt167 => ((num_Mul.f x0 x1).bind fun bt169 => (if bt167.2 = 10 then (some (bt169.2 == 10)) else (some false)))) else ((num_Add.f x0 x1).bind fun bt171 => ((num_Add.f (wrap64 (-x0)) (wrap64 (-x1))).bind fun bt173 => ((num_Mul.f x0 x1).bind fun bt175 => ((num_Mul.f (wrap64 (-x0)) (wrap64 (-x1))).bind fun bt177 => ((num_Mul.f (wrap64 (-x0)) x1).bind fun bt179 => (if bt171.1 = (wrap64 (-bt173.1)) then (if bt171.2 = bt173.2 then (if bt175.1 = bt177.1 then (if bt175.2 = bt177.2 then (if bt179.1 = (wrap64 (-bt175.1)) then (some (bt179.2 == bt175.2)) else (some false)) else (some false)) else (some false)) else (some false)) else (some false)))))))
def haulierlaw01_NumSigns.f (k : Nat) (a0 : Int) (a1 : Int) : Option (Bool) := (haulierlaw01_Awake.f).bind fun t164 => (if t164 = true then ((haulierref01_Fits.f a0).bind fun t165 => (if t165 = true then ((haulierref01_Fits.f a1).bind fun t166 => (haulierlaw01_NumSigns.j0 k a0 a1 (!t166))) else (haulierlaw01_NumSigns.j0 k a0 a1 true))) else (some false))
theorem haulierlaw01_NumSigns.mono_l : ∀ k, (∀ y0 y1 y2, LeO (haulierlaw01_NumSigns.j0 k y0 y1 y2) (haulierlaw01_NumSigns.j0 (k + 1) y0 y1 y2))
  | 0 => fun _ _ _ r h => by simp [haulierlaw01_NumSigns.j0] at h
  | k + 1 => by
    have ih0 := haulierlaw01_NumSigns.mono_l k
    · intro y0 y1 y2
      unfold haulierlaw01_NumSigns.j0
      repeat' first
      | (with_reducible exact ih0 _ _ _)
      | (with_reducible exact LeO.refl _)
      | (with_reducible exact LeO.none _)
      | (with_reducible refine LeO.ite ?_ ?_)
      | (with_reducible refine LeO.bind ?_ (fun _ => ?_))
      | exact ih0 _ _ _
      | exact LeO.none _
      | refine LeO.ite ?_ ?_
      | refine LeO.bind ?_ (fun _ => ?_)
theorem haulierlaw01_NumSigns.mono : ∀ a0 a1 k, LeO (haulierlaw01_NumSigns.f k a0 a1) (haulierlaw01_NumSigns.f (k + 1) a0 a1) := by
  intro a0 a1 k
  have ih0 := haulierlaw01_NumSigns.mono_l k
  unfold haulierlaw01_NumSigns.f
  repeat' first
      | (with_reducible exact ih0 _ _ _)
      | (with_reducible exact LeO.refl _)
      | (with_reducible exact LeO.none _)
      | (with_reducible refine LeO.ite ?_ ?_)
      | (with_reducible refine LeO.bind ?_ (fun _ => ?_))
      | exact ih0 _ _ _
      | exact LeO.none _
      | refine LeO.ite ?_ ?_
      | refine LeO.bind ?_ (fun _ => ?_)
set_option maxHeartbeats 8000000 in
set_option maxRecDepth 100000 in
theorem haulierlaw01_NumSigns.calls (k : Nat) (a0 : Int) (a1 : Int) (r : Bool) (w : World) (hG : Aside0 (Glob w)) (h : haulierlaw01_NumSigns.f k a0 a1 = some r) :
    Calls Tryd.prog 7 #[.int .i64 a0, .int .i64 a1] w fun e w' => e = .returned (.bool r) ∧ Below w.heap.size w w' := by
  have HB := Aside0.mk (Below.refl w.heap.size w)
  have H : ((haulierlaw01_Awake.f).bind fun t164 => (if t164 = true then ((haulierref01_Fits.f a0).bind fun t165 => (if t165 = true then ((haulierref01_Fits.f a1).bind fun t166 => (haulierlaw01_NumSigns.j0 k a0 a1 (!t166))) else (haulierlaw01_NumSigns.j0 k a0 a1 true))) else (some false))) = some r := h
  clear h
  replace H := Option.bind_eq_some_iff.mp H
  obtain ⟨t164, A30, H⟩ := H
  replace H : (if t164 = true then ((haulierref01_Fits.f a0).bind fun t165 => (if t165 = true then ((haulierref01_Fits.f a1).bind fun t166 => (haulierlaw01_NumSigns.j0 k a0 a1 (!t166))) else (haulierlaw01_NumSigns.j0 k a0 a1 true))) else (some false)) = some r := H
  have A3 := Aside0.mk A30
  clear A30
  by_cases c4 : t164 = true
  · subst c4
    have H1 : ((haulierref01_Fits.f a0).bind fun t165 => (if t165 = true then ((haulierref01_Fits.f a1).bind fun t166 => (haulierlaw01_NumSigns.j0 k a0 a1 (!t166))) else (haulierlaw01_NumSigns.j0 k a0 a1 true))) = some r := by rw [if_pos rfl] at H; exact H
    clear H
    have H := H1
    clear H1
    have HC5 := Aside0.mk H
    clear H
    go_enter Tryd.func7, Tryd.ntmps7
    go_upto_region 3 with (first | ((with_reducible refine gate_callee (f := 10) rfl ?_); refine goesL_ (some 19) rfl rfl Tryd.func10 (by kernel_rfl) rfl #[] rfl (by (try simp only [List.map_toArray, List.map_cons, List.map_nil]); first | done | rfl | (simp only [List.length_drop, List.length_take]; rfl)) ?_; (with_reducible refine (haulierlaw01_Awake.calls  true _ ⟨by repeat (first | exact hG.out | exact hG.out.below (by repeat (first | (with_reducible first | exact HB.out | apply below_alloc | apply pw_below_drewN | apply below_drew1) | exact HB.out | exact Below.refl _ _)) | apply Glob.drewN | apply Glob.drew)⟩ A3.out).mono ?_); rintro e w6 ⟨rfl, hb⟩; refine ⟨_, rfl, ?_⟩; have n0_ := Aside0.mk (below_step (by repeat (first | (with_reducible first | exact HB.out | apply below_alloc | apply pw_below_drewN | apply below_drew1) | exact HB.out)) hb); clear HB; have HB := n0_; clear n0_; (try clear hb); (try clear hb2); (try clear hk); (try clear hi)))
    (try simp only [Act.put, List.setIfInBounds_toArray, List.set_cons_zero, List.set_cons_succ])
    go_cut [28] (fun v28 wc => ∃ (kq : Nat) (x28_4 : Bool), v28 = .bool x28_4 ∧ Aside0 (haulierlaw01_NumSigns.j0 kq a0 a1 x28_4 = some r) ∧ Aside0 (kq ≤ k) ∧ Aside0 (Below w.heap.size w wc))
    case first =>
      have H := HC5.out
      clear HC5
      replace H := Option.bind_eq_some_iff.mp H
      obtain ⟨t165, A70, H⟩ := H
      replace H : (if t165 = true then ((haulierref01_Fits.f a1).bind fun t166 => (haulierlaw01_NumSigns.j0 k a0 a1 (!t166))) else (haulierlaw01_NumSigns.j0 k a0 a1 true)) = some r := H
      have A7 := Aside0.mk A70
      clear A70
      by_cases c8 : t165 = true
      · subst c8
        have H1 : ((haulierref01_Fits.f a1).bind fun t166 => (haulierlaw01_NumSigns.j0 k a0 a1 (!t166))) = some r := by rw [if_pos rfl] at H; exact H
        clear H
        have H := H1
        clear H1
        replace H := Option.bind_eq_some_iff.mp H
        obtain ⟨t166, A90, H⟩ := H
        replace H : (haulierlaw01_NumSigns.j0 k a0 a1 (!t166)) = some r := H
        have A9 := Aside0.mk A90
        clear A90
        have H' := Aside0.mk H
        clear H
        go_wp2_with (first | ((with_reducible refine gate_callee (f := 15) rfl ?_); refine goesL_ (some 22) rfl rfl Tryd.func15 (by kernel_rfl) rfl #[.int .i64 a0] rfl (by (try simp only [List.map_toArray, List.map_cons, List.map_nil]); first | done | rfl | (simp only [List.length_drop, List.length_take]; rfl)) ?_; (with_reducible refine (haulierref01_Fits.calls a0 true _ ⟨by repeat (first | exact hG.out | exact hG.out.below (by repeat (first | (with_reducible first | exact HB.out | apply below_alloc | apply pw_below_drewN | apply below_drew1) | exact HB.out | exact Below.refl _ _)) | apply Glob.drewN | apply Glob.drew)⟩ A7.out).mono ?_); rintro e w' ⟨rfl, ⟨nd, rfl⟩⟩; refine ⟨_, rfl, ?_⟩) | (go_at_call 15; (with_reducible refine (haulierref01_Fits.calls a1 t166 _ ⟨by repeat (first | exact hG.out | exact hG.out.below (by repeat (first | (with_reducible first | exact HB.out | apply below_alloc | apply pw_below_drewN | apply below_drew1) | exact HB.out | exact Below.refl _ _)) | apply Glob.drewN | apply Glob.drew)⟩ A9.out).mono ?_); rintro e w' ⟨rfl, ⟨nd, rfl⟩⟩))
        go_meet
        case rel => exact ⟨_, (!t166), (by first | rfl | (simp; done) | (simp [*]; done)), H', ⟨by first | omega | exact Nat.le_refl _⟩, ⟨by repeat (first | (with_reducible first | exact HB.out | apply below_alloc | apply pw_below_drewN | apply below_drew1) | exact HB.out)⟩⟩
      · replace c8 := Bool.eq_false_iff.mpr c8
        subst c8
        have H1 : (haulierlaw01_NumSigns.j0 k a0 a1 true) = some r := by rw [if_neg (show ¬ (false = true) by decide)] at H; exact H
        clear H
        have H := H1
        clear H1
        have H' := Aside0.mk H
        clear H
        go_wp2_with (first | ((with_reducible refine gate_callee (f := 15) rfl ?_); refine goesL_ (some 22) rfl rfl Tryd.func15 (by kernel_rfl) rfl #[.int .i64 a0] rfl (by (try simp only [List.map_toArray, List.map_cons, List.map_nil]); first | done | rfl | (simp only [List.length_drop, List.length_take]; rfl)) ?_; (with_reducible refine (haulierref01_Fits.calls a0 false _ ⟨by repeat (first | exact hG.out | exact hG.out.below (by repeat (first | (with_reducible first | exact HB.out | apply below_alloc | apply pw_below_drewN | apply below_drew1) | exact HB.out | exact Below.refl _ _)) | apply Glob.drewN | apply Glob.drew)⟩ A7.out).mono ?_); rintro e w' ⟨rfl, ⟨nd, rfl⟩⟩; refine ⟨_, rfl, ?_⟩))
        go_meet
        case rel => exact ⟨_, (true), (by first | rfl | (simp; done) | (simp [*]; done)), H', ⟨by first | omega | exact Nat.le_refl _⟩, ⟨by repeat (first | (with_reducible first | exact HB.out | apply below_alloc | apply pw_below_drewN | apply below_drew1) | exact HB.out)⟩⟩
    case rest =>
      clear HC5
      try clear c1
      try clear p2
      try clear c4
      try clear c7
      try clear c8
      obtain ⟨kq, x28_4, rfl, HA, HJ4, HB⟩ := hcut
      cases kq with
      | zero => exact absurd HA.out (by simp [haulierlaw01_NumSigns.j0])
      | succ kj4 =>
        have H := HA.out
        clear HA
        simp only [haulierlaw01_NumSigns.j0] at H
        by_cases c10 : x28_4 = true
        · subst c10
          have H1 : ((num_Add.f a0 a1).bind fun bt167 => ((num_Mul.f a0 a1).bind fun bt169 => (if bt167.2 = 10 then (some (bt169.2 == 10)) else (some false)))) = some r := by rw [if_pos rfl] at H; exact H
          clear H
          have H := H1
          clear H1
          replace H := Option.bind_eq_some_iff.mp H
          obtain ⟨⟨t167, t168⟩, A110, H⟩ := H
          replace H : ((num_Mul.f a0 a1).bind fun bt169 => (if t168 = 10 then (some (bt169.2 == 10)) else (some false))) = some r := H
          have A11 := Aside0.mk A110
          clear A110
          replace H := Option.bind_eq_some_iff.mp H
          obtain ⟨⟨t169, t170⟩, A120, H⟩ := H
          replace H : (if t168 = 10 then (some (t170 == 10)) else (some false)) = some r := H
          have A12 := Aside0.mk A120
          clear A120
          by_cases c13 : t168 = 10
          · rw [if_pos c13] at H
            have c13b0 : (t168 == 10) = true := beq_iff_eq.mpr c13
            have c13b1 : (t168 != 10) = false := bne_eq_false_iff_eq.mpr c13
            clear c13
            obtain rfl := Option.some.inj H
            go_wp2_with (first | ((with_reducible refine gate_callee (f := 16) rfl ?_); refine goesL_ (some 32) rfl rfl Tryd.func16 (by kernel_rfl) rfl #[.int .i64 a0, .int .i64 a1] rfl (by (try simp only [List.map_toArray, List.map_cons, List.map_nil]); first | done | rfl | (simp only [List.length_drop, List.length_take]; rfl)) ?_; (with_reducible refine (num_Add.calls a0 a1 t167 t168 _ ⟨by repeat (first | exact hG.out | exact hG.out.below (by repeat (first | (with_reducible first | exact HB.out | apply below_alloc | apply pw_below_drewN | apply below_drew1) | exact HB.out | exact Below.refl _ _)) | apply Glob.drewN | apply Glob.drew)⟩ A11.out).mono ?_); rintro e w' ⟨rfl, ⟨nd, rfl⟩⟩; refine ⟨_, rfl, ?_⟩) | ((with_reducible refine gate_callee (f := 18) rfl ?_); refine goesL_ (some 38) rfl rfl Tryd.func18 (by kernel_rfl) rfl #[.int .i64 a0, .int .i64 a1] rfl (by (try simp only [List.map_toArray, List.map_cons, List.map_nil]); first | done | rfl | (simp only [List.length_drop, List.length_take]; rfl)) ?_; (with_reducible refine (num_Mul.calls a0 a1 t169 t170 _ ⟨by repeat (first | exact hG.out | exact hG.out.below (by repeat (first | (with_reducible first | exact HB.out | apply below_alloc | apply pw_below_drewN | apply below_drew1) | exact HB.out | exact Below.refl _ _)) | apply Glob.drewN | apply Glob.drew)⟩ A12.out).mono ?_); rintro e w' ⟨rfl, ⟨nd, rfl⟩⟩; refine ⟨_, rfl, ?_⟩))
            go_ret
            exact ⟨by first | rfl | (simp [errW_none, errW_some] <;> rfl) | (simp [*, errW_none, errW_some] <;> rfl), by repeat (first | (with_reducible first | exact HB.out | apply below_alloc | apply pw_below_drewN | apply below_drew1) | exact HB.out)⟩
          · rw [if_neg c13] at H
            have c13b0 : (t168 == 10) = false := beq_eq_false_iff_ne.mpr c13
            have c13b1 : (t168 != 10) = true := bne_iff_ne.mpr c13
            obtain rfl := Option.some.inj H
            go_wp2_with (first | ((with_reducible refine gate_callee (f := 16) rfl ?_); refine goesL_ (some 32) rfl rfl Tryd.func16 (by kernel_rfl) rfl #[.int .i64 a0, .int .i64 a1] rfl (by (try simp only [List.map_toArray, List.map_cons, List.map_nil]); first | done | rfl | (simp only [List.length_drop, List.length_take]; rfl)) ?_; (with_reducible refine (num_Add.calls a0 a1 t167 t168 _ ⟨by repeat (first | exact hG.out | exact hG.out.below (by repeat (first | (with_reducible first | exact HB.out | apply below_alloc | apply pw_below_drewN | apply below_drew1) | exact HB.out | exact Below.refl _ _)) | apply Glob.drewN | apply Glob.drew)⟩ A11.out).mono ?_); rintro e w' ⟨rfl, ⟨nd, rfl⟩⟩; refine ⟨_, rfl, ?_⟩) | ((with_reducible refine gate_callee (f := 18) rfl ?_); refine goesL_ (some 38) rfl rfl Tryd.func18 (by kernel_rfl) rfl #[.int .i64 a0, .int .i64 a1] rfl (by (try simp only [List.map_toArray, List.map_cons, List.map_nil]); first | done | rfl | (simp only [List.length_drop, List.length_take]; rfl)) ?_; (with_reducible refine (num_Mul.calls a0 a1 t169 t170 _ ⟨by repeat (first | exact hG.out | exact hG.out.below (by repeat (first | (with_reducible first | exact HB.out | apply below_alloc | apply pw_below_drewN | apply below_drew1) | exact HB.out | exact Below.refl _ _)) | apply Glob.drewN | apply Glob.drew)⟩ A12.out).mono ?_); rintro e w' ⟨rfl, ⟨nd, rfl⟩⟩; refine ⟨_, rfl, ?_⟩))
            go_ret
            exact ⟨by first | rfl | (simp [errW_none, errW_some] <;> rfl) | (simp [*, errW_none, errW_some] <;> rfl), by repeat (first | (with_reducible first | exact HB.out | apply below_alloc | apply pw_below_drewN | apply below_drew1) | exact HB.out)⟩
        · replace c10 := Bool.eq_false_iff.mpr c10
          subst c10
          have H1 : ((num_Add.f a0 a1).bind fun bt171 => ((num_Add.f (wrap64 (-a0)) (wrap64 (-a1))).bind fun bt173 => ((num_Mul.f a0 a1).bind fun bt175 => ((num_Mul.f (wrap64 (-a0)) (wrap64 (-a1))).bind fun bt177 => ((num_Mul.f (wrap64 (-a0)) a1).bind fun bt179 => (if bt171.1 = (wrap64 (-bt173.1)) then (if bt171.2 = bt173.2 then (if bt175.1 = bt177.1 then (if bt175.2 = bt177.2 then (if bt179.1 = (wrap64 (-bt175.1)) then (some (bt179.2 == bt175.2)) else (some false)) else (some false)) else (some false)) else (some false)) else (some false))))))) = some r := by rw [if_neg (show ¬ (false = true) by decide)] at H; exact H
          clear H
          have H := H1
          clear H1
          replace H := Option.bind_eq_some_iff.mp H
          obtain ⟨⟨t171, t172⟩, A140, H⟩ := H
          replace H : ((num_Add.f (wrap64 (-a0)) (wrap64 (-a1))).bind fun bt173 => ((num_Mul.f a0 a1).bind fun bt175 => ((num_Mul.f (wrap64 (-a0)) (wrap64 (-a1))).bind fun bt177 => ((num_Mul.f (wrap64 (-a0)) a1).bind fun bt179 => (if t171 = (wrap64 (-bt173.1)) then (if t172 = bt173.2 then (if bt175.1 = bt177.1 then (if bt175.2 = bt177.2 then (if bt179.1 = (wrap64 (-bt175.1)) then (some (bt179.2 == bt175.2)) else (some false)) else (some false)) else (some false)) else (some false)) else (some false)))))) = some r := H
          have A14 := Aside0.mk A140
          clear A140
          replace H := Option.bind_eq_some_iff.mp H
          obtain ⟨⟨t173, t174⟩, A150, H⟩ := H
          replace H : ((num_Mul.f a0 a1).bind fun bt175 => ((num_Mul.f (wrap64 (-a0)) (wrap64 (-a1))).bind fun bt177 => ((num_Mul.f (wrap64 (-a0)) a1).bind fun bt179 => (if t171 = (wrap64 (-t173)) then (if t172 = t174 then (if bt175.1 = bt177.1 then (if bt175.2 = bt177.2 then (if bt179.1 = (wrap64 (-bt175.1)) then (some (bt179.2 == bt175.2)) else (some false)) else (some false)) else (some false)) else (some false)) else (some false))))) = some r := H
          have A15 := Aside0.mk A150
          clear A150
          replace H := Option.bind_eq_some_iff.mp H
          obtain ⟨⟨t175, t176⟩, A160, H⟩ := H
          replace H : ((num_Mul.f (wrap64 (-a0)) (wrap64 (-a1))).bind fun bt177 => ((num_Mul.f (wrap64 (-a0)) a1).bind fun bt179 => (if t171 = (wrap64 (-t173)) then (if t172 = t174 then (if t175 = bt177.1 then (if t176 = bt177.2 then (if bt179.1 = (wrap64 (-t175)) then (some (bt179.2 == t176)) else (some false)) else (some false)) else (some false)) else (some false)) else (some false)))) = some r := H
          have A16 := Aside0.mk A160
          clear A160
          replace H := Option.bind_eq_some_iff.mp H
          obtain ⟨⟨t177, t178⟩, A170, H⟩ := H
          replace H : ((num_Mul.f (wrap64 (-a0)) a1).bind fun bt179 => (if t171 = (wrap64 (-t173)) then (if t172 = t174 then (if t175 = t177 then (if t176 = t178 then (if bt179.1 = (wrap64 (-t175)) then (some (bt179.2 == t176)) else (some false)) else (some false)) else (some false)) else (some false)) else (some false))) = some r := H
          have A17 := Aside0.mk A170
          clear A170
          replace H := Option.bind_eq_some_iff.mp H
          obtain ⟨⟨t179, t180⟩, A180, H⟩ := H
          replace H : (if t171 = (wrap64 (-t173)) then (if t172 = t174 then (if t175 = t177 then (if t176 = t178 then (if t179 = (wrap64 (-t175)) then (some (t180 == t176)) else (some false)) else (some false)) else (some false)) else (some false)) else (some false)) = some r := H
          have A18 := Aside0.mk A180
          clear A180
          by_cases c19 : t171 = (wrap64 (-t173))
          · rw [if_pos c19] at H
            have c19b0 : (t171 == (wrap64 (-t173))) = true := beq_iff_eq.mpr c19
            have c19b1 : (t171 != (wrap64 (-t173))) = false := bne_eq_false_iff_eq.mpr c19
            clear c19
            by_cases c20 : t172 = t174
            · rw [if_pos c20] at H
              have c20b0 : (t172 == t174) = true := beq_iff_eq.mpr c20
              have c20b1 : (t172 != t174) = false := bne_eq_false_iff_eq.mpr c20
              clear c20
              by_cases c21 : t175 = t177
              · rw [if_pos c21] at H
                have c21b0 : (t175 == t177) = true := beq_iff_eq.mpr c21
                have c21b1 : (t175 != t177) = false := bne_eq_false_iff_eq.mpr c21
                clear c21
                by_cases c22 : t176 = t178
                · rw [if_pos c22] at H
                  have c22b0 : (t176 == t178) = true := beq_iff_eq.mpr c22
                  have c22b1 : (t176 != t178) = false := bne_eq_false_iff_eq.mpr c22
                  clear c22
                  by_cases c23 : t179 = (wrap64 (-t175))
                  · rw [if_pos c23] at H
                    have c23b0 : (t179 == (wrap64 (-t175))) = true := beq_iff_eq.mpr c23
                    have c23b1 : (t179 != (wrap64 (-t175))) = false := bne_eq_false_iff_eq.mpr c23
                    clear c23
                    obtain rfl := Option.some.inj H
                    go_wp2_with (first | ((with_reducible refine gate_callee (f := 16) rfl ?_); refine goesL_ (some 50) rfl rfl Tryd.func16 (by kernel_rfl) rfl #[.int .i64 a0, .int .i64 a1] rfl (by (try simp only [List.map_toArray, List.map_cons, List.map_nil]); first | done | rfl | (simp only [List.length_drop, List.length_take]; rfl)) ?_; (with_reducible refine (num_Add.calls a0 a1 t171 t172 _ ⟨by repeat (first | exact hG.out | exact hG.out.below (by repeat (first | (with_reducible first | exact HB.out | apply below_alloc | apply pw_below_drewN | apply below_drew1) | exact HB.out | exact Below.refl _ _)) | apply Glob.drewN | apply Glob.drew)⟩ A14.out).mono ?_); rintro e w' ⟨rfl, ⟨nd, rfl⟩⟩; refine ⟨_, rfl, ?_⟩) | ((with_reducible refine gate_callee (f := 16) rfl ?_); refine goesL_ (some 58) rfl rfl Tryd.func16 (by kernel_rfl) rfl #[.int .i64 (wrap64 (-a0)), .int .i64 (wrap64 (-a1))] rfl (by (try simp only [List.map_toArray, List.map_cons, List.map_nil]); first | done | rfl | (simp only [List.length_drop, List.length_take]; rfl)) ?_; (with_reducible refine (num_Add.calls (wrap64 (-a0)) (wrap64 (-a1)) t173 t174 _ ⟨by repeat (first | exact hG.out | exact hG.out.below (by repeat (first | (with_reducible first | exact HB.out | apply below_alloc | apply pw_below_drewN | apply below_drew1) | exact HB.out | exact Below.refl _ _)) | apply Glob.drewN | apply Glob.drew)⟩ A15.out).mono ?_); rintro e w' ⟨rfl, ⟨nd, rfl⟩⟩; refine ⟨_, rfl, ?_⟩) | ((with_reducible refine gate_callee (f := 18) rfl ?_); refine goesL_ (some 64) rfl rfl Tryd.func18 (by kernel_rfl) rfl #[.int .i64 a0, .int .i64 a1] rfl (by (try simp only [List.map_toArray, List.map_cons, List.map_nil]); first | done | rfl | (simp only [List.length_drop, List.length_take]; rfl)) ?_; (with_reducible refine (num_Mul.calls a0 a1 t175 t176 _ ⟨by repeat (first | exact hG.out | exact hG.out.below (by repeat (first | (with_reducible first | exact HB.out | apply below_alloc | apply pw_below_drewN | apply below_drew1) | exact HB.out | exact Below.refl _ _)) | apply Glob.drewN | apply Glob.drew)⟩ A16.out).mono ?_); rintro e w' ⟨rfl, ⟨nd, rfl⟩⟩; refine ⟨_, rfl, ?_⟩) | ((with_reducible refine gate_callee (f := 18) rfl ?_); refine goesL_ (some 72) rfl rfl Tryd.func18 (by kernel_rfl) rfl #[.int .i64 (wrap64 (-a0)), .int .i64 (wrap64 (-a1))] rfl (by (try simp only [List.map_toArray, List.map_cons, List.map_nil]); first | done | rfl | (simp only [List.length_drop, List.length_take]; rfl)) ?_; (with_reducible refine (num_Mul.calls (wrap64 (-a0)) (wrap64 (-a1)) t177 t178 _ ⟨by repeat (first | exact hG.out | exact hG.out.below (by repeat (first | (with_reducible first | exact HB.out | apply below_alloc | apply pw_below_drewN | apply below_drew1) | exact HB.out | exact Below.refl _ _)) | apply Glob.drewN | apply Glob.drew)⟩ A17.out).mono ?_); rintro e w' ⟨rfl, ⟨nd, rfl⟩⟩; refine ⟨_, rfl, ?_⟩) | ((with_reducible refine gate_callee (f := 18) rfl ?_); refine goesL_ (some 79) rfl rfl Tryd.func18 (by kernel_rfl) rfl #[.int .i64 (wrap64 (-a0)), .int .i64 a1] rfl (by (try simp only [List.map_toArray, List.map_cons, List.map_nil]); first | done | rfl | (simp only [List.length_drop, List.length_take]; rfl)) ?_; (with_reducible refine (num_Mul.calls (wrap64 (-a0)) a1 t179 t180 _ ⟨by repeat (first | exact hG.out | exact hG.out.below (by repeat (first | (with_reducible first | exact HB.out | apply below_alloc | apply pw_below_drewN | apply below_drew1) | exact HB.out | exact Below.refl _ _)) | apply Glob.drewN | apply Glob.drew)⟩ A18.out).mono ?_); rintro e w' ⟨rfl, ⟨nd, rfl⟩⟩; refine ⟨_, rfl, ?_⟩))
                    go_ret
                    exact ⟨by first | rfl | (simp [errW_none, errW_some] <;> rfl) | (simp [*, errW_none, errW_some] <;> rfl), by repeat (first | (with_reducible first | exact HB.out | apply below_alloc | apply pw_below_drewN | apply below_drew1) | exact HB.out)⟩
                  · rw [if_neg c23] at H
                    have c23b0 : (t179 == (wrap64 (-t175))) = false := beq_eq_false_iff_ne.mpr c23
                    have c23b1 : (t179 != (wrap64 (-t175))) = true := bne_iff_ne.mpr c23
                    obtain rfl := Option.some.inj H
                    go_wp2_with (first | ((with_reducible refine gate_callee (f := 16) rfl ?_); refine goesL_ (some 50) rfl rfl Tryd.func16 (by kernel_rfl) rfl #[.int .i64 a0, .int .i64 a1] rfl (by (try simp only [List.map_toArray, List.map_cons, List.map_nil]); first | done | rfl | (simp only [List.length_drop, List.length_take]; rfl)) ?_; (with_reducible refine (num_Add.calls a0 a1 t171 t172 _ ⟨by repeat (first | exact hG.out | exact hG.out.below (by repeat (first | (with_reducible first | exact HB.out | apply below_alloc | apply pw_below_drewN | apply below_drew1) | exact HB.out | exact Below.refl _ _)) | apply Glob.drewN | apply Glob.drew)⟩ A14.out).mono ?_); rintro e w' ⟨rfl, ⟨nd, rfl⟩⟩; refine ⟨_, rfl, ?_⟩) | ((with_reducible refine gate_callee (f := 16) rfl ?_); refine goesL_ (some 58) rfl rfl Tryd.func16 (by kernel_rfl) rfl #[.int .i64 (wrap64 (-a0)), .int .i64 (wrap64 (-a1))] rfl (by (try simp only [List.map_toArray, List.map_cons, List.map_nil]); first | done | rfl | (simp only [List.length_drop, List.length_take]; rfl)) ?_; (with_reducible refine (num_Add.calls (wrap64 (-a0)) (wrap64 (-a1)) t173 t174 _ ⟨by repeat (first | exact hG.out | exact hG.out.below (by repeat (first | (with_reducible first | exact HB.out | apply below_alloc | apply pw_below_drewN | apply below_drew1) | exact HB.out | exact Below.refl _ _)) | apply Glob.drewN | apply Glob.drew)⟩ A15.out).mono ?_); rintro e w' ⟨rfl, ⟨nd, rfl⟩⟩; refine ⟨_, rfl, ?_⟩) | ((with_reducible refine gate_callee (f := 18) rfl ?_); refine goesL_ (some 64) rfl rfl Tryd.func18 (by kernel_rfl) rfl #[.int .i64 a0, .int .i64 a1] rfl (by (try simp only [List.map_toArray, List.map_cons, List.map_nil]); first | done | rfl | (simp only [List.length_drop, List.length_take]; rfl)) ?_; (with_reducible refine (num_Mul.calls a0 a1 t175 t176 _ ⟨by repeat (first | exact hG.out | exact hG.out.below (by repeat (first | (with_reducible first | exact HB.out | apply below_alloc | apply pw_below_drewN | apply below_drew1) | exact HB.out | exact Below.refl _ _)) | apply Glob.drewN | apply Glob.drew)⟩ A16.out).mono ?_); rintro e w' ⟨rfl, ⟨nd, rfl⟩⟩; refine ⟨_, rfl, ?_⟩) | ((with_reducible refine gate_callee (f := 18) rfl ?_); refine goesL_ (some 72) rfl rfl Tryd.func18 (by kernel_rfl) rfl #[.int .i64 (wrap64 (-a0)), .int .i64 (wrap64 (-a1))] rfl (by (try simp only [List.map_toArray, List.map_cons, List.map_nil]); first | done | rfl | (simp only [List.length_drop, List.length_take]; rfl)) ?_; (with_reducible refine (num_Mul.calls (wrap64 (-a0)) (wrap64 (-a1)) t177 t178 _ ⟨by repeat (first | exact hG.out | exact hG.out.below (by repeat (first | (with_reducible first | exact HB.out | apply below_alloc | apply pw_below_drewN | apply below_drew1) | exact HB.out | exact Below.refl _ _)) | apply Glob.drewN | apply Glob.drew)⟩ A17.out).mono ?_); rintro e w' ⟨rfl, ⟨nd, rfl⟩⟩; refine ⟨_, rfl, ?_⟩) | ((with_reducible refine gate_callee (f := 18) rfl ?_); refine goesL_ (some 79) rfl rfl Tryd.func18 (by kernel_rfl) rfl #[.int .i64 (wrap64 (-a0)), .int .i64 a1] rfl (by (try simp only [List.map_toArray, List.map_cons, List.map_nil]); first | done | rfl | (simp only [List.length_drop, List.length_take]; rfl)) ?_; (with_reducible refine (num_Mul.calls (wrap64 (-a0)) a1 t179 t180 _ ⟨by repeat (first | exact hG.out | exact hG.out.below (by repeat (first | (with_reducible first | exact HB.out | apply below_alloc | apply pw_below_drewN | apply below_drew1) | exact HB.out | exact Below.refl _ _)) | apply Glob.drewN | apply Glob.drew)⟩ A18.out).mono ?_); rintro e w' ⟨rfl, ⟨nd, rfl⟩⟩; refine ⟨_, rfl, ?_⟩))
                    go_ret
                    exact ⟨by first | rfl | (simp [errW_none, errW_some] <;> rfl) | (simp [*, errW_none, errW_some] <;> rfl), by repeat (first | (with_reducible first | exact HB.out | apply below_alloc | apply pw_below_drewN | apply below_drew1) | exact HB.out)⟩
                · rw [if_neg c22] at H
                  have c22b0 : (t176 == t178) = false := beq_eq_false_iff_ne.mpr c22
                  have c22b1 : (t176 != t178) = true := bne_iff_ne.mpr c22
                  obtain rfl := Option.some.inj H
                  go_wp2_with (first | ((with_reducible refine gate_callee (f := 16) rfl ?_); refine goesL_ (some 50) rfl rfl Tryd.func16 (by kernel_rfl) rfl #[.int .i64 a0, .int .i64 a1] rfl (by (try simp only [List.map_toArray, List.map_cons, List.map_nil]); first | done | rfl | (simp only [List.length_drop, List.length_take]; rfl)) ?_; (with_reducible refine (num_Add.calls a0 a1 t171 t172 _ ⟨by repeat (first | exact hG.out | exact hG.out.below (by repeat (first | (with_reducible first | exact HB.out | apply below_alloc | apply pw_below_drewN | apply below_drew1) | exact HB.out | exact Below.refl _ _)) | apply Glob.drewN | apply Glob.drew)⟩ A14.out).mono ?_); rintro e w' ⟨rfl, ⟨nd, rfl⟩⟩; refine ⟨_, rfl, ?_⟩) | ((with_reducible refine gate_callee (f := 16) rfl ?_); refine goesL_ (some 58) rfl rfl Tryd.func16 (by kernel_rfl) rfl #[.int .i64 (wrap64 (-a0)), .int .i64 (wrap64 (-a1))] rfl (by (try simp only [List.map_toArray, List.map_cons, List.map_nil]); first | done | rfl | (simp only [List.length_drop, List.length_take]; rfl)) ?_; (with_reducible refine (num_Add.calls (wrap64 (-a0)) (wrap64 (-a1)) t173 t174 _ ⟨by repeat (first | exact hG.out | exact hG.out.below (by repeat (first | (with_reducible first | exact HB.out | apply below_alloc | apply pw_below_drewN | apply below_drew1) | exact HB.out | exact Below.refl _ _)) | apply Glob.drewN | apply Glob.drew)⟩ A15.out).mono ?_); rintro e w' ⟨rfl, ⟨nd, rfl⟩⟩; refine ⟨_, rfl, ?_⟩) | ((with_reducible refine gate_callee (f := 18) rfl ?_); refine goesL_ (some 64) rfl rfl Tryd.func18 (by kernel_rfl) rfl #[.int .i64 a0, .int .i64 a1] rfl (by (try simp only [List.map_toArray, List.map_cons, List.map_nil]); first | done | rfl | (simp only [List.length_drop, List.length_take]; rfl)) ?_; (with_reducible refine (num_Mul.calls a0 a1 t175 t176 _ ⟨by repeat (first | exact hG.out | exact hG.out.below (by repeat (first | (with_reducible first | exact HB.out | apply below_alloc | apply pw_below_drewN | apply below_drew1) | exact HB.out | exact Below.refl _ _)) | apply Glob.drewN | apply Glob.drew)⟩ A16.out).mono ?_); rintro e w' ⟨rfl, ⟨nd, rfl⟩⟩; refine ⟨_, rfl, ?_⟩) | ((with_reducible refine gate_callee (f := 18) rfl ?_); refine goesL_ (some 72) rfl rfl Tryd.func18 (by kernel_rfl) rfl #[.int .i64 (wrap64 (-a0)), .int .i64 (wrap64 (-a1))] rfl (by (try simp only [List.map_toArray, List.map_cons, List.map_nil]); first | done | rfl | (simp only [List.length_drop, List.length_take]; rfl)) ?_; (with_reducible refine (num_Mul.calls (wrap64 (-a0)) (wrap64 (-a1)) t177 t178 _ ⟨by repeat (first | exact hG.out | exact hG.out.below (by repeat (first | (with_reducible first | exact HB.out | apply below_alloc | apply pw_below_drewN | apply below_drew1) | exact HB.out | exact Below.refl _ _)) | apply Glob.drewN | apply Glob.drew)⟩ A17.out).mono ?_); rintro e w' ⟨rfl, ⟨nd, rfl⟩⟩; refine ⟨_, rfl, ?_⟩) | ((with_reducible refine gate_callee (f := 18) rfl ?_); refine goesL_ (some 79) rfl rfl Tryd.func18 (by kernel_rfl) rfl #[.int .i64 (wrap64 (-a0)), .int .i64 a1] rfl (by (try simp only [List.map_toArray, List.map_cons, List.map_nil]); first | done | rfl | (simp only [List.length_drop, List.length_take]; rfl)) ?_; (with_reducible refine (num_Mul.calls (wrap64 (-a0)) a1 t179 t180 _ ⟨by repeat (first | exact hG.out | exact hG.out.below (by repeat (first | (with_reducible first | exact HB.out | apply below_alloc | apply pw_below_drewN | apply below_drew1) | exact HB.out | exact Below.refl _ _)) | apply Glob.drewN | apply Glob.drew)⟩ A18.out).mono ?_); rintro e w' ⟨rfl, ⟨nd, rfl⟩⟩; refine ⟨_, rfl, ?_⟩))
                  go_ret
                  exact ⟨by first | rfl | (simp [errW_none, errW_some] <;> rfl) | (simp [*, errW_none, errW_some] <;> rfl), by repeat (first | (with_reducible first | exact HB.out | apply below_alloc | apply pw_below_drewN | apply below_drew1) | exact HB.out)⟩
              · rw [if_neg c21] at H
                have c21b0 : (t175 == t177) = false := beq_eq_false_iff_ne.mpr c21
                have c21b1 : (t175 != t177) = true := bne_iff_ne.mpr c21
                obtain rfl := Option.some.inj H
                go_wp2_with (first | ((with_reducible refine gate_callee (f := 16) rfl ?_); refine goesL_ (some 50) rfl rfl Tryd.func16 (by kernel_rfl) rfl #[.int .i64 a0, .int .i64 a1] rfl (by (try simp only [List.map_toArray, List.map_cons, List.map_nil]); first | done | rfl | (simp only [List.length_drop, List.length_take]; rfl)) ?_; (with_reducible refine (num_Add.calls a0 a1 t171 t172 _ ⟨by repeat (first | exact hG.out | exact hG.out.below (by repeat (first | (with_reducible first | exact HB.out | apply below_alloc | apply pw_below_drewN | apply below_drew1) | exact HB.out | exact Below.refl _ _)) | apply Glob.drewN | apply Glob.drew)⟩ A14.out).mono ?_); rintro e w' ⟨rfl, ⟨nd, rfl⟩⟩; refine ⟨_, rfl, ?_⟩) | ((with_reducible refine gate_callee (f := 16) rfl ?_); refine goesL_ (some 58) rfl rfl Tryd.func16 (by kernel_rfl) rfl #[.int .i64 (wrap64 (-a0)), .int .i64 (wrap64 (-a1))] rfl (by (try simp only [List.map_toArray, List.map_cons, List.map_nil]); first | done | rfl | (simp only [List.length_drop, List.length_take]; rfl)) ?_; (with_reducible refine (num_Add.calls (wrap64 (-a0)) (wrap64 (-a1)) t173 t174 _ ⟨by repeat (first | exact hG.out | exact hG.out.below (by repeat (first | (with_reducible first | exact HB.out | apply below_alloc | apply pw_below_drewN | apply below_drew1) | exact HB.out | exact Below.refl _ _)) | apply Glob.drewN | apply Glob.drew)⟩ A15.out).mono ?_); rintro e w' ⟨rfl, ⟨nd, rfl⟩⟩; refine ⟨_, rfl, ?_⟩) | ((with_reducible refine gate_callee (f := 18) rfl ?_); refine goesL_ (some 64) rfl rfl Tryd.func18 (by kernel_rfl) rfl #[.int .i64 a0, .int .i64 a1] rfl (by (try simp only [List.map_toArray, List.map_cons, List.map_nil]); first | done | rfl | (simp only [List.length_drop, List.length_take]; rfl)) ?_; (with_reducible refine (num_Mul.calls a0 a1 t175 t176 _ ⟨by repeat (first | exact hG.out | exact hG.out.below (by repeat (first | (with_reducible first | exact HB.out | apply below_alloc | apply pw_below_drewN | apply below_drew1) | exact HB.out | exact Below.refl _ _)) | apply Glob.drewN | apply Glob.drew)⟩ A16.out).mono ?_); rintro e w' ⟨rfl, ⟨nd, rfl⟩⟩; refine ⟨_, rfl, ?_⟩) | ((with_reducible refine gate_callee (f := 18) rfl ?_); refine goesL_ (some 72) rfl rfl Tryd.func18 (by kernel_rfl) rfl #[.int .i64 (wrap64 (-a0)), .int .i64 (wrap64 (-a1))] rfl (by (try simp only [List.map_toArray, List.map_cons, List.map_nil]); first | done | rfl | (simp only [List.length_drop, List.length_take]; rfl)) ?_; (with_reducible refine (num_Mul.calls (wrap64 (-a0)) (wrap64 (-a1)) t177 t178 _ ⟨by repeat (first | exact hG.out | exact hG.out.below (by repeat (first | (with_reducible first | exact HB.out | apply below_alloc | apply pw_below_drewN | apply below_drew1) | exact HB.out | exact Below.refl _ _)) | apply Glob.drewN | apply Glob.drew)⟩ A17.out).mono ?_); rintro e w' ⟨rfl, ⟨nd, rfl⟩⟩; refine ⟨_, rfl, ?_⟩) | ((with_reducible refine gate_callee (f := 18) rfl ?_); refine goesL_ (some 79) rfl rfl Tryd.func18 (by kernel_rfl) rfl #[.int .i64 (wrap64 (-a0)), .int .i64 a1] rfl (by (try simp only [List.map_toArray, List.map_cons, List.map_nil]); first | done | rfl | (simp only [List.length_drop, List.length_take]; rfl)) ?_; (with_reducible refine (num_Mul.calls (wrap64 (-a0)) a1 t179 t180 _ ⟨by repeat (first | exact hG.out | exact hG.out.below (by repeat (first | (with_reducible first | exact HB.out | apply below_alloc | apply pw_below_drewN | apply below_drew1) | exact HB.out | exact Below.refl _ _)) | apply Glob.drewN | apply Glob.drew)⟩ A18.out).mono ?_); rintro e w' ⟨rfl, ⟨nd, rfl⟩⟩; refine ⟨_, rfl, ?_⟩))
                go_ret
                exact ⟨by first | rfl | (simp [errW_none, errW_some] <;> rfl) | (simp [*, errW_none, errW_some] <;> rfl), by repeat (first | (with_reducible first | exact HB.out | apply below_alloc | apply pw_below_drewN | apply below_drew1) | exact HB.out)⟩
            · rw [if_neg c20] at H
              have c20b0 : (t172 == t174) = false := beq_eq_false_iff_ne.mpr c20
              have c20b1 : (t172 != t174) = true := bne_iff_ne.mpr c20
              obtain rfl := Option.some.inj H
              go_wp2_with (first | ((with_reducible refine gate_callee (f := 16) rfl ?_); refine goesL_ (some 50) rfl rfl Tryd.func16 (by kernel_rfl) rfl #[.int .i64 a0, .int .i64 a1] rfl (by (try simp only [List.map_toArray, List.map_cons, List.map_nil]); first | done | rfl | (simp only [List.length_drop, List.length_take]; rfl)) ?_; (with_reducible refine (num_Add.calls a0 a1 t171 t172 _ ⟨by repeat (first | exact hG.out | exact hG.out.below (by repeat (first | (with_reducible first | exact HB.out | apply below_alloc | apply pw_below_drewN | apply below_drew1) | exact HB.out | exact Below.refl _ _)) | apply Glob.drewN | apply Glob.drew)⟩ A14.out).mono ?_); rintro e w' ⟨rfl, ⟨nd, rfl⟩⟩; refine ⟨_, rfl, ?_⟩) | ((with_reducible refine gate_callee (f := 16) rfl ?_); refine goesL_ (some 58) rfl rfl Tryd.func16 (by kernel_rfl) rfl #[.int .i64 (wrap64 (-a0)), .int .i64 (wrap64 (-a1))] rfl (by (try simp only [List.map_toArray, List.map_cons, List.map_nil]); first | done | rfl | (simp only [List.length_drop, List.length_take]; rfl)) ?_; (with_reducible refine (num_Add.calls (wrap64 (-a0)) (wrap64 (-a1)) t173 t174 _ ⟨by repeat (first | exact hG.out | exact hG.out.below (by repeat (first | (with_reducible first | exact HB.out | apply below_alloc | apply pw_below_drewN | apply below_drew1) | exact HB.out | exact Below.refl _ _)) | apply Glob.drewN | apply Glob.drew)⟩ A15.out).mono ?_); rintro e w' ⟨rfl, ⟨nd, rfl⟩⟩; refine ⟨_, rfl, ?_⟩) | ((with_reducible refine gate_callee (f := 18) rfl ?_); refine goesL_ (some 64) rfl rfl Tryd.func18 (by kernel_rfl) rfl #[.int .i64 a0, .int .i64 a1] rfl (by (try simp only [List.map_toArray, List.map_cons, List.map_nil]); first | done | rfl | (simp only [List.length_drop, List.length_take]; rfl)) ?_; (with_reducible refine (num_Mul.calls a0 a1 t175 t176 _ ⟨by repeat (first | exact hG.out | exact hG.out.below (by repeat (first | (with_reducible first | exact HB.out | apply below_alloc | apply pw_below_drewN | apply below_drew1) | exact HB.out | exact Below.refl _ _)) | apply Glob.drewN | apply Glob.drew)⟩ A16.out).mono ?_); rintro e w' ⟨rfl, ⟨nd, rfl⟩⟩; refine ⟨_, rfl, ?_⟩) | ((with_reducible refine gate_callee (f := 18) rfl ?_); refine goesL_ (some 72) rfl rfl Tryd.func18 (by kernel_rfl) rfl #[.int .i64 (wrap64 (-a0)), .int .i64 (wrap64 (-a1))] rfl (by (try simp only [List.map_toArray, List.map_cons, List.map_nil]); first | done | rfl | (simp only [List.length_drop, List.length_take]; rfl)) ?_; (with_reducible refine (num_Mul.calls (wrap64 (-a0)) (wrap64 (-a1)) t177 t178 _ ⟨by repeat (first | exact hG.out | exact hG.out.below (by repeat (first | (with_reducible first | exact HB.out | apply below_alloc | apply pw_below_drewN | apply below_drew1) | exact HB.out | exact Below.refl _ _)) | apply Glob.drewN | apply Glob.drew)⟩ A17.out).mono ?_); rintro e w' ⟨rfl, ⟨nd, rfl⟩⟩; refine ⟨_, rfl, ?_⟩) | ((with_reducible refine gate_callee (f := 18) rfl ?_); refine goesL_ (some 79) rfl rfl Tryd.func18 (by kernel_rfl) rfl #[.int .i64 (wrap64 (-a0)), .int .i64 a1] rfl (by (try simp only [List.map_toArray, List.map_cons, List.map_nil]); first | done | rfl | (simp only [List.length_drop, List.length_take]; rfl)) ?_; (with_reducible refine (num_Mul.calls (wrap64 (-a0)) a1 t179 t180 _ ⟨by repeat (first | exact hG.out | exact hG.out.below (by repeat (first | (with_reducible first | exact HB.out | apply below_alloc | apply pw_below_drewN | apply below_drew1) | exact HB.out | exact Below.refl _ _)) | apply Glob.drewN | apply Glob.drew)⟩ A18.out).mono ?_); rintro e w' ⟨rfl, ⟨nd, rfl⟩⟩; refine ⟨_, rfl, ?_⟩))
              go_ret
              exact ⟨by first | rfl | (simp [errW_none, errW_some] <;> rfl) | (simp [*, errW_none, errW_some] <;> rfl), by repeat (first | (with_reducible first | exact HB.out | apply below_alloc | apply pw_below_drewN | apply below_drew1) | exact HB.out)⟩
          · rw [if_neg c19] at H
            have c19b0 : (t171 == (wrap64 (-t173))) = false := beq_eq_false_iff_ne.mpr c19
            have c19b1 : (t171 != (wrap64 (-t173))) = true := bne_iff_ne.mpr c19
            obtain rfl := Option.some.inj H
            go_wp2_with (first | ((with_reducible refine gate_callee (f := 16) rfl ?_); refine goesL_ (some 50) rfl rfl Tryd.func16 (by kernel_rfl) rfl #[.int .i64 a0, .int .i64 a1] rfl (by (try simp only [List.map_toArray, List.map_cons, List.map_nil]); first | done | rfl | (simp only [List.length_drop, List.length_take]; rfl)) ?_; (with_reducible refine (num_Add.calls a0 a1 t171 t172 _ ⟨by repeat (first | exact hG.out | exact hG.out.below (by repeat (first | (with_reducible first | exact HB.out | apply below_alloc | apply pw_below_drewN | apply below_drew1) | exact HB.out | exact Below.refl _ _)) | apply Glob.drewN | apply Glob.drew)⟩ A14.out).mono ?_); rintro e w' ⟨rfl, ⟨nd, rfl⟩⟩; refine ⟨_, rfl, ?_⟩) | ((with_reducible refine gate_callee (f := 16) rfl ?_); refine goesL_ (some 58) rfl rfl Tryd.func16 (by kernel_rfl) rfl #[.int .i64 (wrap64 (-a0)), .int .i64 (wrap64 (-a1))] rfl (by (try simp only [List.map_toArray, List.map_cons, List.map_nil]); first | done | rfl | (simp only [List.length_drop, List.length_take]; rfl)) ?_; (with_reducible refine (num_Add.calls (wrap64 (-a0)) (wrap64 (-a1)) t173 t174 _ ⟨by repeat (first | exact hG.out | exact hG.out.below (by repeat (first | (with_reducible first | exact HB.out | apply below_alloc | apply pw_below_drewN | apply below_drew1) | exact HB.out | exact Below.refl _ _)) | apply Glob.drewN | apply Glob.drew)⟩ A15.out).mono ?_); rintro e w' ⟨rfl, ⟨nd, rfl⟩⟩; refine ⟨_, rfl, ?_⟩) | ((with_reducible refine gate_callee (f := 18) rfl ?_); refine goesL_ (some 64) rfl rfl Tryd.func18 (by kernel_rfl) rfl #[.int .i64 a0, .int .i64 a1] rfl (by (try simp only [List.map_toArray, List.map_cons, List.map_nil]); first | done | rfl | (simp only [List.length_drop, List.length_take]; rfl)) ?_; (with_reducible refine (num_Mul.calls a0 a1 t175 t176 _ ⟨by repeat (first | exact hG.out | exact hG.out.below (by repeat (first | (with_reducible first | exact HB.out | apply below_alloc | apply pw_below_drewN | apply below_drew1) | exact HB.out | exact Below.refl _ _)) | apply Glob.drewN | apply Glob.drew)⟩ A16.out).mono ?_); rintro e w' ⟨rfl, ⟨nd, rfl⟩⟩; refine ⟨_, rfl, ?_⟩) | ((with_reducible refine gate_callee (f := 18) rfl ?_); refine goesL_ (some 72) rfl rfl Tryd.func18 (by kernel_rfl) rfl #[.int .i64 (wrap64 (-a0)), .int .i64 (wrap64 (-a1))] rfl (by (try simp only [List.map_toArray, List.map_cons, List.map_nil]); first | done | rfl | (simp only [List.length_drop, List.length_take]; rfl)) ?_; (with_reducible refine (num_Mul.calls (wrap64 (-a0)) (wrap64 (-a1)) t177 t178 _ ⟨by repeat (first | exact hG.out | exact hG.out.below (by repeat (first | (with_reducible first | exact HB.out | apply below_alloc | apply pw_below_drewN | apply below_drew1) | exact HB.out | exact Below.refl _ _)) | apply Glob.drewN | apply Glob.drew)⟩ A17.out).mono ?_); rintro e w' ⟨rfl, ⟨nd, rfl⟩⟩; refine ⟨_, rfl, ?_⟩) | ((with_reducible refine gate_callee (f := 18) rfl ?_); refine goesL_ (some 79) rfl rfl Tryd.func18 (by kernel_rfl) rfl #[.int .i64 (wrap64 (-a0)), .int .i64 a1] rfl (by (try simp only [List.map_toArray, List.map_cons, List.map_nil]); first | done | rfl | (simp only [List.length_drop, List.length_take]; rfl)) ?_; (with_reducible refine (num_Mul.calls (wrap64 (-a0)) a1 t179 t180 _ ⟨by repeat (first | exact hG.out | exact hG.out.below (by repeat (first | (with_reducible first | exact HB.out | apply below_alloc | apply pw_below_drewN | apply below_drew1) | exact HB.out | exact Below.refl _ _)) | apply Glob.drewN | apply Glob.drew)⟩ A18.out).mono ?_); rintro e w' ⟨rfl, ⟨nd, rfl⟩⟩; refine ⟨_, rfl, ?_⟩))
            go_ret
            exact ⟨by first | rfl | (simp [errW_none, errW_some] <;> rfl) | (simp [*, errW_none, errW_some] <;> rfl), by repeat (first | (with_reducible first | exact HB.out | apply below_alloc | apply pw_below_drewN | apply below_drew1) | exact HB.out)⟩
  · replace c4 := Bool.eq_false_iff.mpr c4
    subst c4
    have H1 : (some false) = some r := by rw [if_neg (show ¬ (false = true) by decide)] at H; exact H
    clear H
    have H := H1
    clear H1
    obtain rfl := Option.some.inj H
    go_enter Tryd.func7, Tryd.ntmps7
    go_wp2_with (first | ((with_reducible refine gate_callee (f := 10) rfl ?_); refine goesL_ (some 19) rfl rfl Tryd.func10 (by kernel_rfl) rfl #[] rfl (by (try simp only [List.map_toArray, List.map_cons, List.map_nil]); first | done | rfl | (simp only [List.length_drop, List.length_take]; rfl)) ?_; (with_reducible refine (haulierlaw01_Awake.calls  false _ ⟨by repeat (first | exact hG.out | exact hG.out.below (by repeat (first | (with_reducible first | exact HB.out | apply below_alloc | apply pw_below_drewN | apply below_drew1) | exact HB.out | exact Below.refl _ _)) | apply Glob.drewN | apply Glob.drew)⟩ A3.out).mono ?_); rintro e w24 ⟨rfl, hb⟩; refine ⟨_, rfl, ?_⟩; have n0_ := Aside0.mk (below_step (by repeat (first | (with_reducible first | exact HB.out | apply below_alloc | apply pw_below_drewN | apply below_drew1) | exact HB.out)) hb); clear HB; have HB := n0_; clear n0_; (try clear hb); (try clear hb2); (try clear hk); (try clear hi)))
    go_ret
    exact ⟨by first | rfl | (simp [errW_none, errW_some] <;> rfl) | (simp [*, errW_none, errW_some] <;> rfl), by repeat (first | (with_reducible first | exact HB.out | apply below_alloc | apply pw_below_drewN | apply below_drew1) | exact HB.out)⟩

/-- THE ONE PURE STATEMENT of haulierlaw01_NumSigns: yours. -/
def haulierlaw01_NumSigns.Pure : Prop := ∀ (a0 : Int) (a1 : Int), (Lit.int .i64 a0).wf = true → (Lit.int .i64 a1).wf = true → ∃ k, haulierlaw01_NumSigns.f k a0 a1 = some true
theorem haulierlaw01_NumSigns.walk (P : haulierlaw01_NumSigns.Pure) (a0 : Int) (a1 : Int) (w : World) (hG : Aside0 (Glob w)) (w0 : (Lit.int .i64 a0).wf = true) (w1 : (Lit.int .i64 a1).wf = true) :
    Calls Tryd.prog 7 #[.int .i64 a0, .int .i64 a1] w fun e w' => e = .returned (.bool true) ∧ Below w.heap.size w w' := by
  obtain ⟨k, h⟩ := P a0 a1 w0 w1
  refine (haulierlaw01_NumSigns.calls k a0 a1 true w ⟨by repeat (first | exact hG.out | exact hG.out.below (by repeat (first | (with_reducible first | exact HB.out | apply below_alloc | apply pw_below_drewN | apply below_drew1) | exact HB.out | exact Below.refl _ _)) | apply Glob.drewN | apply Glob.drew)⟩ h).mono ?_
  rintro e w' ⟨rfl, hd⟩
  exact ⟨rfl, hd⟩

end Go.Proofs.YtcnhnjajfkgkjaaDoor.PNu
