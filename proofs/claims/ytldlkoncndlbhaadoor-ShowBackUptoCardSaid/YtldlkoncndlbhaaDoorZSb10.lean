/- YtldlkoncndlbhaaDoorZSb10: texts of the seat (Reader3), one behind the other, without what this claim's theorem does not rest on. -/
import Derived.Test.YtldlkoncndlbhaaDoorZSb9

set_option linter.unusedVariables false
set_option linter.unusedSimpArgs false
namespace Go.Proofs.YtldlkoncndlbhaaDoor.Js
open Go.RowKit Go.Lib Go.Proofs.YtldlkoncndlbhaaDoor.PSh Go.Proofs.YtldlkoncndlbhaaDoor.Np Go.Proofs.YtldlkoncndlbhaaDoorW.PrintWords Go.Proofs.YtldlkoncndlbhaaDoorW.PrintLast Go.Proofs.YtldlkoncndlbhaaDoorW.PrintMore
theorem here_ok (l : List UInt8) (p : Nat) (l' : List UInt8) (q : Nat) (c : UInt8) (h : here l p = .ok l' q c) : l' = c :: l'.tail := by
  unfold here at h
  split at h
  · cases h
  · cases h
    rfl
theorem drop_tail {s : ByteArray} {q : Nat} {l : List UInt8} {c : UInt8} (h : l = c :: l.tail) (hq : l = s.data.toList.drop q) : q < s.size ∧ l.tail = s.data.toList.drop (q + 1) := by
  have h2 : s.data.toList.drop q = c :: l.tail := by rw [← hq]; exact h
  obtain ⟨h3, _, h4⟩ := bt_head h2
  exact ⟨h3, h4.symm⟩
set_option maxHeartbeats 2000000 in
set_option maxRecDepth 100000 in
theorem more_walk (w0 w : World) (b : Nat) (s : ByteArray) (p : Nat) (tv : Value) (fin : UInt8) (hA : At w0 b s (p : Int) tv w) (hp : p ≤ s.size) (hs : s.size ≤ 65536) :
    Calls Tryd.prog 59 #[.pointer (some ⟨b, 0, none⟩), .int .u8 (fin.toNat : Int)] w (Ret w0 b s tv w (more fin (s.data.toList.drop p) p) (fun d => .bool d)) := by
  have hw := here_walk w0 w b s p tv hA hp hs
  have hok := here_ok (s.data.toList.drop p) p
  unfold more
  generalize here (s.data.toList.drop p) p = r at *
  cases r with
  | no pp ee =>
    have hw2 : Calls Tryd.prog 45 #[.pointer (some ⟨b, 0, none⟩)] w fun e w' => e = halted (pp : Int) ee ∧ Below w0.heap.size w0 w' := hw
    clear hw
    show Calls _ _ _ _ fun e w' => e = halted (pp : Int) ee ∧ Below w0.heap.size w0 w'
    go_enter Tryd.func59, Tryd.ntmps59
    go_wp2_with (go_at_call 45; refine hw2.mono ?_; rintro e w1 ⟨rfl, hB1⟩)
    exact ⟨rfl, rfl, hB1⟩
  | ok l q c =>
    have hw2 : Calls Tryd.prog 45 #[.pointer (some ⟨b, 0, none⟩)] w fun e w' => e = .returned (.int .u8 (c.toNat : Int)) ∧ l = s.data.toList.drop q ∧ q ≤ s.size ∧ At w0 b s (q : Int) tv w' ∧ KeepBut w w' b none := hw
    clear hw
    rw [R.bind_ok]
    have HO := Aside0.mk (hok l q c rfl)
    clear hok
    have hfc := byte_eq c fin
    have h44 : ((c.toNat : Int) == 44) = decide (c = 44) := byte_eq c 44
    obtain ⟨z, hz⟩ : ∃ z : Int, z = q := ⟨_, rfl⟩
    rw [← hz] at hw2
    have HZ := Aside0.mk hz
    clear hz
    generalize hcn : (c.toNat : Int) = cn at *
    generalize hfn : (fin.toNat : Int) = fn at *
    clear hcn hfn
    by_cases hc : c = 44 ∨ c = fin
    · rw [if_pos hc]
      have HCF := Aside0.mk (show (cn == fn) = (c == fin) by rw [hfc]; rfl)
      show Calls _ _ _ _ fun e w' => e = .returned (.bool (c == fin)) ∧ l.tail = s.data.toList.drop (q + 1) ∧ q + 1 ≤ s.size ∧ At w0 b s ((q + 1 : Nat) : Int) tv w' ∧ KeepBut w w' b none
      rcases hc with hc | hc
      · have e1 : (cn == 44) = true := by rw [h44, decide_eq_true hc]
        have e3 : (cn != 44) = false := by rw [bne, e1]; rfl
        clear hc h44 hfc
        go_enter Tryd.func59, Tryd.ntmps59
        go_wp2_with (go_at_call 45; refine hw2.mono ?_; rintro e w1 ⟨rfl, hl1, hq1, hA1, hk1⟩; have HL := Aside0.mk hl1; clear hl1; have hc0 := hA1.c0; have hc1 := hA1.c1; have hf1 := hA1.fr 1; have hz0 : 0 ≤ z := (by have := HZ.out; omega); have hz1 : z ≤ 65536 := (by have := HZ.out; omega))
        go_ret
        obtain ⟨h1, h2⟩ := drop_tail HO.out HL.out
        exact ⟨congrArg (fun b => Ending.returned (Value.bool b)) HCF.out, h2, h1, by rw [show ((q + 1 : Nat) : Int) = z + 1 by rw [HZ.out]; rfl]; exact hA1.set1 _, hk1.set_ _ _⟩
      · have e1 : (cn == 44) = true ∨ (cn == 44) = false := by cases (cn == 44) <;> simp
        have e2 : (cn == fn) = true := by rw [hfc, decide_eq_true hc]
        have e4 : (cn != fn) = false := by rw [bne, e2]; rfl
        clear hc h44 hfc
        rcases e1 with e1 | e1
        all_goals
          have e3 : (cn != 44) = !(cn == 44) := rfl
          rw [e1] at e3
          go_enter Tryd.func59, Tryd.ntmps59
          go_wp2_with (go_at_call 45; refine hw2.mono ?_; rintro e w1 ⟨rfl, hl1, hq1, hA1, hk1⟩; have HL := Aside0.mk hl1; clear hl1; have hc0 := hA1.c0; have hc1 := hA1.c1; have hf1 := hA1.fr 1; have hz0 : 0 ≤ z := (by have := HZ.out; omega); have hz1 : z ≤ 65536 := (by have := HZ.out; omega))
          go_ret
          obtain ⟨h1, h2⟩ := drop_tail HO.out HL.out
          exact ⟨congrArg (fun b => Ending.returned (Value.bool b)) (e2.symm.trans HCF.out), h2, h1, by rw [show ((q + 1 : Nat) : Int) = z + 1 by rw [HZ.out]; rfl]; exact hA1.set1 _, hk1.set_ _ _⟩
    · rw [if_neg hc]
      have e1 : (cn == 44) = false := by rw [h44, decide_eq_false (fun e => hc (.inl e))]
      have e2 : (cn == fn) = false := by rw [hfc, decide_eq_false (fun e => hc (.inr e))]
      have e3 : (cn != 44) = true := by rw [bne, e1]; rfl
      have e4 : (cn != fn) = true := by rw [bne, e2]; rfl
      show Calls _ _ _ _ fun e w' => e = halted (q : Int) 22 ∧ Below w0.heap.size w0 w'
      clear h44 hfc
      go_enter Tryd.func59, Tryd.ntmps59
      go_wp2_with (first
        | (go_at_call 45; refine hw2.mono ?_; rintro e w1 ⟨rfl, hl1, hq1, hA1, hk1⟩; have hc0 := hA1.c0; have hc1 := hA1.c1)
        | (go_at_call 35; refine (fail_walk _ _ _).mono ?_; rintro e w2 ⟨rfl, rfl⟩))
      exact ⟨rfl, by rw [← HZ.out], hA1.2.1⟩
theorem numLen_cons (c : UInt8) (r : List UInt8) : numLen (c :: r) = if numByte c = true then numLen r + 1 else 0 := rfl
theorem numLen_le : ∀ l : List UInt8, numLen l ≤ l.length
  | [] => Nat.le_refl _
  | c :: r => by
    rw [numLen_cons]
    have := numLen_le r
    split
    · rw [List.length_cons]; omega
    · omega
theorem numByte_iff (c : UInt8) : numByte c = true ↔ (c.toNat = 45 ∨ c.toNat = 43 ∨ c.toNat = 46 ∨ c.toNat = 101 ∨ c.toNat = 69 ∨ (48 ≤ c.toNat ∧ c.toNat ≤ 57)) := by
  unfold numByte
  simp only [Bool.or_eq_true, beq_iff_eq, Bool.and_eq_true, decide_eq_true_eq, ← UInt8.toNat_inj]
  rw [or_assoc, or_assoc, or_assoc, or_assoc]
  rfl
theorem cut_data (s : ByteArray) (p q : Nat) (hq : q ≤ s.size) : (s.extract p q).data.toList = (s.data.toList.drop p).take (q - p) := by
  rw [ByteArray.data_extract, Array.toList_extract, List.extract_eq_take_drop]
theorem num_of (s : ByteArray) (p n : Nat) (hp : p ≤ s.size) (hn : n ≤ s.size - p) (hs : s.size ≤ 65536) {r1 r2 : Int} (h : parseG ((s.data.toList.drop p).take n) = (r1, r2)) : num_Parse.f (s.extract p (p + n)) = some (r1, r2) := by
  have h2 : (s.extract p (p + n)).size ≤ 140737488351232 := by rw [← data_length, cut_data s p (p + n) (by omega), List.length_take, List.length_drop, data_length]; omega
  unfold num_Parse.f
  rw [if_pos h2, cut_data s p (p + n) (by omega), Nat.add_sub_cancel_left, h]
def number.T4 : Bool × List (List Nat × List Nat) := (true, [([], []), ([0], [0]), ([1], [1]), ([2], [2]), ([], []), ([], []), ([5], [5]), ([6], [6]), ([7], [7]), ([3, 4, 8], [3, 4, 8]), ([9], [9]), ([10], [10]), ([11], [11]), ([11], [11]), ([12, 10, 0, 1, 2, 3, 4, 5, 6, 7, 8, 9, 10, 11, 12], [12]), ([13, 14, 0, 1, 2, 3, 4, 5, 6, 7, 8, 9, 10, 11, 12, 13, 14], [13])])
def number.B4 : List Nat := [0, 1, 3, 7, 0, 0, 32, 96, 224, 511, 1023, 2047, 4095, 4095, 8191, 32767]
theorem number.tab4 : rtab .any (opsOf Tryd.f49 4) = number.T4 := by kernel_rfl
theorem number.bits4 : waitsOk number.T4.2 number.B4 = true := by kernel_rfl
theorem number.lex2 : Region.lexB .any (opsOf Tryd.f49 2) = true := by kernel_rfl
set_option maxHeartbeats 16000000 in
set_option maxRecDepth 100000 in
theorem number_walk (w0 w : World) (b : Nat) (s : ByteArray) (p : Nat) (tv : Value) (hGN : Aside0 (GlobN w0)) (hA : At w0 b s (p : Int) tv w) (hp : p ≤ s.size) (hs : s.size ≤ 65536) :
    Calls Tryd.prog 49 #[.pointer (some ⟨b, 0, none⟩)] w (Ret w0 b s tv w (number (s.data.toList.drop p) p) (fun n => .int .i64 n)) := by
  obtain ⟨res, hres⟩ : ∃ r, number (s.data.toList.drop p) p = r := ⟨_, rfl⟩
  rw [hres]
  obtain ⟨r1, r2, hpr⟩ : ∃ r1 r2, parseG ((s.data.toList.drop p).take (numLen (s.data.toList.drop p))) = (r1, r2) := ⟨_, _, rfl⟩
  unfold number at hres
  rw [hpr] at hres
  have HRes := Aside0.mk hres
  have hnl := numLen_le (s.data.toList.drop p)
  rw [List.length_drop, data_length] at hnl
  have HF := Aside0.mk (num_of s p (numLen (s.data.toList.drop p)) hp hnl hs hpr)
  clear hres hpr
  have hk0 := KeepBut.refl w b none
  have hc0 := hA.c0
  have hc1 := hA.c1
  obtain ⟨zp, hzp⟩ : ∃ z : Int, z = p := ⟨_, rfl⟩
  have HP := Aside0.mk hzp
  have hA' : At w0 b s zp tv w := by rw [hzp]; exact hA
  rw [← hzp] at hc1
  have hzp0 : 0 ≤ zp := by omega
  clear hzp hA
  go_enter Tryd.func49, Tryd.ntmps49
  go_wp2
  go_loopg [] (s.size - p) (fun kq wr => ∃ (q : Nat) (z : Int), Aside0 (z = q ∧ p ≤ q ∧ kq + q = s.size ∧ p + numLen (s.data.toList.drop p) = q + numLen (s.data.toList.drop q)) ∧ At w0 b s z tv wr ∧ KeepBut w wr b none)
  case atStart => exact ⟨p, zp, ⟨HP.out, Nat.le_refl _, by omega, rfl⟩, hA', hk0⟩
  case round =>
    clear hA' hk0 hc0 hc1
    obtain ⟨q, z, HZ, hA, hk⟩ := hrel
    have hc0 := hA.c0
    have hc1 := hA.c1
    have hf1 := hA.fr 1
    obtain ⟨l, hl⟩ : ∃ l, s.data.toList.drop q = l := ⟨_, rfl⟩
    have p4 : (0 ≤ z) = True := eq_true (by have := HZ.out.1; omega)
    have hgo : ∀ n : Nat, p + n = q → s.data.toList.drop q = (s.data.toList.drop p).drop n := fun n e => by rw [List.drop_drop, e]
    have HGO := Aside0.mk hgo
    clear hgo
    cases l with
    | nil =>
      have c2 : decide (z < (s.size : Int)) = false := decide_eq_false (by have h1 := HZ.out; have h2 := drop_end (by omega) hl; omega)
      have HN : Aside0 (q = p + numLen (s.data.toList.drop p)) := ⟨by have h1 := HZ.out.2.2.2; rw [hl] at h1; exact h1.symm⟩
      clear hl
      have hz1 : 0 ≤ z := by have := HZ.out.1; omega
      have hz2 : z ≤ (s.size : Int) := by have := HZ.out; omega
      have p5 : (0 ≤ zp) = True := eq_true hzp0
      have p6 : (zp ≤ z) = True := eq_true (by have h1 := HP.out; have := HZ.out; omega)
      have p7 : (z ≤ (s.size : Int)) = True := eq_true hz2
      have HT : Aside0 (num_Parse.f (s.extract zp.toNat z.toNat) = some (r1, r2)) := ⟨by have h1 := HP.out; have h2 := HZ.out.1; have h3 := HN.out; rw [show zp.toNat = p by omega, show z.toNat = p + numLen (s.data.toList.drop p) by omega]; exact HF.out⟩
      go_wp2
      try dsimp only [List.append]
      refine wp_region_quiet_lit (by kernel_rfl) number.lex2 ?_
      repeat (go_big_quiet_step (fail))
      refine wpQuiet_nil ?_
      intro _ hw'
      obtain ⟨nq, hw''⟩ := hw'
      subst hw''
      go_wp2
      refine start_ (n := 16) (S := fun w' => w'.cell? ⟨b, 0, none⟩ = some (.string s) ∧ w'.cell? ⟨b, 1, none⟩ = some (.int .i64 z)) (ds := []) #[false, false, false, false, false, false, false, false, false, false, false, false, false, false, false, false] (by kernel_rfl) rfl rfl ⟨((hA.drewN _).drew).c0, ((hA.drewN _).drew).c1⟩ (fun hHeld => ?_)
      refine with_tabW number.tab4 number.bits4 (fun HT_ HW_ => ?_)
      refine pure_ (i := 0) (N := some 112) (v := ?_) (a' := ?_) #[true, false, false, false, false, false, false, false, false, false, false, false, false, false, false, false] rfl rfl (any_of HT_.out (by kernel_rfl)) (fun _ _ _ h => h) (Or.inl ⟨by rfl, ?_⟩) ?_ ?_
      rotate_left
      · intro w'
        go_simp
        with_reducible rfl
      rotate_left
      · simp only [Act.put, List.setIfInBounds_toArray, List.set_cons_zero, List.set_cons_succ, i64_w, i32_w]
        rfl
      refine pure_ (i := 1) (N := some 113) (v := ?_) (a' := ?_) #[true, true, false, false, false, false, false, false, false, false, false, false, false, false, false, false] rfl rfl (any_of HT_.out (by kernel_rfl)) (fun _ _ _ h => h) (Or.inl ⟨by rfl, ?_⟩) ?_ ?_
      rotate_left
      · intro w'
        go_simp
        with_reducible rfl
      rotate_left
      · simp only [Act.put, List.setIfInBounds_toArray, List.set_cons_zero, List.set_cons_succ, i64_w, i32_w]
        rfl
      refine pure_ (i := 2) (N := some 114) (v := ?_) (a' := ?_) #[true, true, true, false, false, false, false, false, false, false, false, false, false, false, false, false] rfl rfl (any_of HT_.out (by kernel_rfl)) (fun _ _ _ h => h) (Or.inl ⟨by rfl, ?_⟩) ?_ ?_
      rotate_left
      · intro w'
        go_simp
        with_reducible rfl
      rotate_left
      · simp only [Act.put, List.setIfInBounds_toArray, List.set_cons_zero, List.set_cons_succ, i64_w, i32_w]
        rfl
      refine take_ (i := 3) (N := some 115) (v := ?_) (a' := ?_) #[true, true, true, true, false, false, false, false, false, false, false, false, false, false, false, false] rfl rfl (take_ofW HT_.out HW_.out (by kernel_rfl)) (fun _ _ _ h => h) (Or.inl ⟨by rfl, ?_⟩) hHeld ?_ ?_
      rotate_left
      · rintro w' ⟨s0, s1⟩
        go_simp
        with_reducible rfl
      rotate_left
      · simp only [Act.put, List.setIfInBounds_toArray, List.set_cons_zero, List.set_cons_succ, i64_w, i32_w]
        rfl
      refine pure_ (i := 4) (N := some 116) (v := ?_) (a' := ?_) #[true, true, true, true, true, false, false, false, false, false, false, false, false, false, false, false] rfl rfl (any_of HT_.out (by kernel_rfl)) (fun _ _ _ h => h) (Or.inl ⟨by rfl, ?_⟩) ?_ ?_
      rotate_left
      · intro w'
        go_simp
        with_reducible rfl
      rotate_left
      · simp only [Act.put, List.setIfInBounds_toArray, List.set_cons_zero, List.set_cons_succ, i64_w, i32_w]
        rfl
      refine pure_ (i := 5) (N := some 117) (v := ?_) (a' := ?_) #[true, true, true, true, true, true, false, false, false, false, false, false, false, false, false, false] rfl rfl (any_of HT_.out (by kernel_rfl)) (fun _ _ _ h => h) (Or.inl ⟨by rfl, ?_⟩) ?_ ?_
      rotate_left
      · intro w'
        go_simp
        with_reducible rfl
      rotate_left
      · simp only [Act.put, List.setIfInBounds_toArray, List.set_cons_zero, List.set_cons_succ, i64_w, i32_w]
        rfl
      refine pure_ (i := 6) (N := some 118) (v := ?_) (a' := ?_) #[true, true, true, true, true, true, true, false, false, false, false, false, false, false, false, false] rfl rfl (any_of HT_.out (by kernel_rfl)) (fun _ _ _ h => h) (Or.inl ⟨by rfl, ?_⟩) ?_ ?_
      rotate_left
      · intro w'
        go_simp
        with_reducible rfl
      rotate_left
      · simp only [Act.put, List.setIfInBounds_toArray, List.set_cons_zero, List.set_cons_succ, i64_w, i32_w]
        rfl
      refine pure_ (i := 7) (N := some 119) (v := ?_) (a' := ?_) #[true, true, true, true, true, true, true, true, false, false, false, false, false, false, false, false] rfl rfl (any_of HT_.out (by kernel_rfl)) (fun _ _ _ h => h) (Or.inl ⟨by rfl, ?_⟩) ?_ ?_
      rotate_left
      · intro w'
        go_simp
        with_reducible rfl
      rotate_left
      · simp only [Act.put, List.setIfInBounds_toArray, List.set_cons_zero, List.set_cons_succ, i64_w, i32_w]
        rfl
      refine take_ (i := 8) (N := some 120) (v := ?_) (a' := ?_) #[true, true, true, true, true, true, true, true, true, false, false, false, false, false, false, false] rfl rfl (take_ofW HT_.out HW_.out (by kernel_rfl)) (fun _ _ _ h => h) (Or.inl ⟨by rfl, ?_⟩) hHeld ?_ ?_
      rotate_left
      · rintro w' ⟨s0, s1⟩
        go_simp
        with_reducible rfl
      rotate_left
      · simp only [Act.put, List.setIfInBounds_toArray, List.set_cons_zero, List.set_cons_succ, i64_w, i32_w]
        rfl
      refine pure_ (i := 9) (N := some 121) (v := ?_) (a' := ?_) #[true, true, true, true, true, true, true, true, true, true, false, false, false, false, false, false] rfl rfl (any_of HT_.out (by kernel_rfl)) (fun _ _ _ h => h) (Or.inl ⟨by rfl, ?_⟩) ?_ ?_
      rotate_left
      · intro w'
        go_simp
        with_reducible rfl
      rotate_left
      · simp only [Act.put, List.setIfInBounds_toArray, List.set_cons_zero, List.set_cons_succ, i64_w, i32_w]
        rfl
      refine one_ (i := 10) (N := some 122) #[true, true, true, true, true, true, true, true, true, true, true, false, false, false, false, false] rfl rfl (one_of HT_.out (by kernel_rfl)) (by decide) (fun K hK => ?_)
      refine goes_ Tryd.func58 (by kernel_rfl) rfl #[.string (s.extract zp.toNat z.toNat)] (by rfl) rfl rfl (by kernel_rfl) ?_
      refine (num_Parse.calls _ r1 r2 _ ⟨hGN.out.below ((hA.drewN _).drew).2.1⟩ HT.out).mono ?_
      rintro e w4 ⟨rfl, hb4⟩
      have hA4 := ((hA.drewN _).drew).below hb4
      have hk4 : KeepBut w w4 b none := (keep_drew (keep_drewN hk _)).trans (KeepBut.of_below hb4 b none) (.inl rfl)
      refine ⟨_, rfl, ?_⟩
      refine hK.out _ _ ⟨hA4.c0, hA4.c1⟩ (fun hh => ?_)
      clear hK K
      refine pure_ (i := 11) (N := some 111) (v := ?_) (a' := ?_) #[true, true, true, true, true, true, true, true, true, true, true, true, false, false, false, false] rfl rfl (any_of HT_.out (by kernel_rfl)) (fun _ _ _ h => h) (Or.inl ⟨by rfl, ?_⟩) ?_ ?_
      rotate_left
      · intro w'
        go_simp
        with_reducible rfl
      rotate_left
      · simp only [Act.put, List.setIfInBounds_toArray, List.set_cons_zero, List.set_cons_succ, i64_w, i32_w]
        rfl
      refine pure_ (i := 12) (N := some 123) (v := ?_) (a' := ?_) #[true, true, true, true, true, true, true, true, true, true, true, true, true, false, false, false] rfl rfl (any_of HT_.out (by kernel_rfl)) (fun _ _ _ h => h) (Or.inl ⟨by rfl, ?_⟩) ?_ ?_
      rotate_left
      · intro w'
        go_simp
        with_reducible rfl
      rotate_left
      · simp only [Act.put, List.setIfInBounds_toArray, List.set_cons_zero, List.set_cons_succ, i64_w, i32_w]
        rfl
      refine pure_ (i := 13) (N := some 124) (v := ?_) (a' := ?_) #[true, true, true, true, true, true, true, true, true, true, true, true, true, true, false, false] rfl rfl (any_of HT_.out (by kernel_rfl)) (fun _ _ _ h => h) (Or.inl ⟨by rfl, ?_⟩) ?_ ?_
      rotate_left
      · intro w'
        go_simp
        with_reducible rfl
      rotate_left
      · simp only [Act.put, List.setIfInBounds_toArray, List.set_cons_zero, List.set_cons_succ, i64_w, i32_w]
        rfl
      refine pure_ (i := 14) (N := some 4) (v := ?_) (a' := ?_) #[true, true, true, true, true, true, true, true, true, true, true, true, true, true, true, false] rfl rfl (any_of HT_.out (by kernel_rfl)) (fun _ _ _ h => h) (Or.inl ⟨by rfl, ?_⟩) ?_ ?_
      rotate_left
      · intro w'
        go_simp
        with_reducible rfl
      rotate_left
      · simp only [Act.put, List.setIfInBounds_toArray, List.set_cons_zero, List.set_cons_succ, i64_w, i32_w]
        rfl
      refine pure_ (i := 15) (N := some 5) (v := ?_) (a' := ?_) #[true, true, true, true, true, true, true, true, true, true, true, true, true, true, true, true] rfl rfl (any_of HT_.out (by kernel_rfl)) (fun _ _ _ h => h) (Or.inl ⟨by rfl, ?_⟩) ?_ ?_
      rotate_left
      · intro w'
        go_simp
        with_reducible rfl
      rotate_left
      · simp only [Act.put, List.setIfInBounds_toArray, List.set_cons_zero, List.set_cons_succ, i64_w, i32_w]
        rfl
      refine done_ (done_of HT_.out (by kernel_rfl)) ?_
      have e9 : (r2 != 0) = true ∨ (r2 != 0) = false := by cases (r2 != 0) <;> simp
      rcases e9 with e9 | e9
      · have hf4 := HRes.out
        rw [if_neg (bne_iff_ne.1 e9)] at hf4
        have HR4 := Aside0.mk hf4
        clear hf4
        go_wp2_with (go_at_call 35; refine (fail_walk _ _ _).mono ?_; rintro e w2 ⟨rfl, rfl⟩)
        rw [← HR4.out]
        exact ⟨rfl, by rw [← HP.out], hA4.2.1⟩
      · have hf4 := HRes.out
        rw [if_pos (by simpa using e9)] at hf4
        have HR4 := Aside0.mk hf4
        clear hf4
        go_wp2
        go_ret
        rw [← HR4.out]
        exact ⟨rfl, by rw [List.drop_drop], by have := HN.out; omega, by rw [← HN.out, ← HZ.out.1]; exact hA4, hk4⟩
    | cons c r =>
      obtain ⟨hlt, hbt, hr⟩ := bt_head hl
      have HR := Aside0.mk hr
      have hx := bt_at s z
      have q4 : (z < (s.size : Int)) = True := eq_true (by have := HZ.out.1; omega)
      have c2 : decide (z < (s.size : Int)) = true := decide_eq_true (by have := HZ.out.1; omega)
      have HL := Aside0.mk hl
      rw [← HZ.out.1] at hbt
      have hv0 : 0 ≤ bt s z ∧ bt s z < 256 := by have := c.toNat_lt; omega
      generalize bt s z = v at *
      have HB := Aside0.mk hbt
      clear hbt hl hr
      have hni := numByte_iff c
      by_cases hbl : v = 45 ∨ v = 43 ∨ v = 46 ∨ v = 101 ∨ v = 69 ∨ (48 ≤ v ∧ v ≤ 57)
      · have hg : Aside0 (numLen (c :: r) = numLen r + 1) := ⟨by rw [numLen_cons, if_pos (hni.2 (by have := HB.out; omega))]⟩
        have hgo : ∀ wr', At w0 b s (z + 1) tv wr' → KeepBut w wr' b none → ∃ (q : Nat) (z' : Int), Aside0 (z' = q ∧ p ≤ q ∧ gk - 1 + q = s.size ∧ p + numLen (s.data.toList.drop p) = q + numLen (s.data.toList.drop q)) ∧ At w0 b s z' tv wr' ∧ KeepBut w wr' b none := fun wr' h1 h2 =>
          ⟨q + 1, z + 1, ⟨by have := HZ.out.1; omega, by have := HZ.out; omega, by have := HZ.out; omega, by rw [HR.out, HZ.out.2.2.2, HL.out, hg.out]; omega⟩, h1, h2⟩
        have HGO2 := Aside0.mk hgo
        clear hgo hni
        have hz1 : 0 ≤ z := by have := HZ.out.1; omega
        have hz2 : z < 65536 := by have := HZ.out.1; omega
        rcases hbl with h | h | h | h | h | h
        · have e0 : (v == 45) = true := beq_iff_eq.2 h
          clear h
          go_wp2
          try dsimp only [List.append]
          refine wp_region_quiet_lit (by kernel_rfl) number.lex2 ?_
          repeat (go_big_quiet_step (fail))
          refine wpQuiet_nil ?_
          intro _ hw'
          obtain ⟨nq, hw''⟩ := hw'
          subst hw''
          go_wp2
          go_roundg (gk - 1)
          case measure => have := HZ.out; omega
          case rel => exact HGO2.out _ ((hA.drewN _).set1 _) ((keep_drewN hk _).set_ _ _)
        · have e0 : (v == 45) = false := beq_eq_false_iff_ne.2 (by omega)
          have e1 : (v == 43) = true := beq_iff_eq.2 h
          clear h
          go_wp2
          try dsimp only [List.append]
          refine wp_region_quiet_lit (by kernel_rfl) number.lex2 ?_
          repeat (go_big_quiet_step (fail))
          refine wpQuiet_nil ?_
          intro _ hw'
          obtain ⟨nq, hw''⟩ := hw'
          subst hw''
          go_wp2
          go_roundg (gk - 1)
          case measure => have := HZ.out; omega
          case rel => exact HGO2.out _ ((hA.drewN _).set1 _) ((keep_drewN hk _).set_ _ _)
        · have e0 : (v == 45) = false := beq_eq_false_iff_ne.2 (by omega)
          have e1 : (v == 43) = false := beq_eq_false_iff_ne.2 (by omega)
          have e2 : (v == 46) = true := beq_iff_eq.2 h
          clear h
          go_wp2
          try dsimp only [List.append]
          refine wp_region_quiet_lit (by kernel_rfl) number.lex2 ?_
          repeat (go_big_quiet_step (fail))
          refine wpQuiet_nil ?_
          intro _ hw'
          obtain ⟨nq, hw''⟩ := hw'
          subst hw''
          go_wp2
          go_roundg (gk - 1)
          case measure => have := HZ.out; omega
          case rel => exact HGO2.out _ ((hA.drewN _).set1 _) ((keep_drewN hk _).set_ _ _)
        · have e0 : (v == 45) = false := beq_eq_false_iff_ne.2 (by omega)
          have e1 : (v == 43) = false := beq_eq_false_iff_ne.2 (by omega)
          have e2 : (v == 46) = false := beq_eq_false_iff_ne.2 (by omega)
          have e3 : (v == 101) = true := beq_iff_eq.2 h
          clear h
          go_wp2
          try dsimp only [List.append]
          refine wp_region_quiet_lit (by kernel_rfl) number.lex2 ?_
          repeat (go_big_quiet_step (fail))
          refine wpQuiet_nil ?_
          intro _ hw'
          obtain ⟨nq, hw''⟩ := hw'
          subst hw''
          go_wp2
          go_roundg (gk - 1)
          case measure => have := HZ.out; omega
          case rel => exact HGO2.out _ ((hA.drewN _).set1 _) ((keep_drewN hk _).set_ _ _)
        · have e0 : (v == 45) = false := beq_eq_false_iff_ne.2 (by omega)
          have e1 : (v == 43) = false := beq_eq_false_iff_ne.2 (by omega)
          have e2 : (v == 46) = false := beq_eq_false_iff_ne.2 (by omega)
          have e3 : (v == 101) = false := beq_eq_false_iff_ne.2 (by omega)
          have e4 : (v == 69) = true := beq_iff_eq.2 h
          clear h
          go_wp2
          try dsimp only [List.append]
          refine wp_region_quiet_lit (by kernel_rfl) number.lex2 ?_
          repeat (go_big_quiet_step (fail))
          refine wpQuiet_nil ?_
          intro _ hw'
          obtain ⟨nq, hw''⟩ := hw'
          subst hw''
          go_wp2
          go_roundg (gk - 1)
          case measure => have := HZ.out; omega
          case rel => exact HGO2.out _ ((hA.drewN _).set1 _) ((keep_drewN hk _).set_ _ _)
        · have e0 : (v == 45) = false := beq_eq_false_iff_ne.2 (by omega)
          have e1 : (v == 43) = false := beq_eq_false_iff_ne.2 (by omega)
          have e2 : (v == 46) = false := beq_eq_false_iff_ne.2 (by omega)
          have e3 : (v == 101) = false := beq_eq_false_iff_ne.2 (by omega)
          have e4 : (v == 69) = false := beq_eq_false_iff_ne.2 (by omega)
          have e5 : decide (48 ≤ v) = true := decide_eq_true h.1
          have e6 : decide (v ≤ 57) = true := decide_eq_true h.2
          clear h
          go_wp2
          try dsimp only [List.append]
          refine wp_region_quiet_lit (by kernel_rfl) number.lex2 ?_
          repeat (go_big_quiet_step (fail))
          refine wpQuiet_nil ?_
          intro _ hw'
          obtain ⟨nq, hw''⟩ := hw'
          subst hw''
          go_wp2
          go_roundg (gk - 1)
          case measure => have := HZ.out; omega
          case rel => exact HGO2.out _ ((hA.drewN _).set1 _) ((keep_drewN hk _).set_ _ _)
      · have HN : Aside0 (q = p + numLen (s.data.toList.drop p)) := ⟨by
          have h1 := HZ.out.2.2.2
          rw [HL.out, numLen_cons, if_neg (fun e => by have h2 := hni.1 e; have := HB.out; omega)] at h1
          exact h1.symm⟩
        have e0 : (v == 45) = false := beq_eq_false_iff_ne.2 (by omega)
        have e1 : (v == 43) = false := beq_eq_false_iff_ne.2 (by omega)
        have e2 : (v == 46) = false := beq_eq_false_iff_ne.2 (by omega)
        have e3 : (v == 101) = false := beq_eq_false_iff_ne.2 (by omega)
        have e4 : (v == 69) = false := beq_eq_false_iff_ne.2 (by omega)
        have e7 : decide (48 ≤ v) = true ∨ decide (48 ≤ v) = false := by cases decide (48 ≤ v) <;> simp
        have e8 : decide (48 ≤ v) = true → decide (v ≤ 57) = false := fun h => decide_eq_false (by have := of_decide_eq_true h; omega)
        clear hbl hni
        rcases e7 with e7 | e7
        · have e10 := e8 e7
          clear e8
          have hz1 : 0 ≤ z := by have := HZ.out.1; omega
          have hz2 : z ≤ (s.size : Int) := by have := HZ.out; omega
          have p5 : (0 ≤ zp) = True := eq_true hzp0
          have p6 : (zp ≤ z) = True := eq_true (by have h1 := HP.out; have := HZ.out; omega)
          have p7 : (z ≤ (s.size : Int)) = True := eq_true hz2
          have HT : Aside0 (num_Parse.f (s.extract zp.toNat z.toNat) = some (r1, r2)) := ⟨by have h1 := HP.out; have h2 := HZ.out.1; have h3 := HN.out; rw [show zp.toNat = p by omega, show z.toNat = p + numLen (s.data.toList.drop p) by omega]; exact HF.out⟩
          go_wp2
          try dsimp only [List.append]
          refine wp_region_quiet_lit (by kernel_rfl) number.lex2 ?_
          repeat (go_big_quiet_step (fail))
          refine wpQuiet_nil ?_
          intro _ hw'
          obtain ⟨nq, hw''⟩ := hw'
          subst hw''
          go_wp2
          refine start_ (n := 16) (S := fun w' => w'.cell? ⟨b, 0, none⟩ = some (.string s) ∧ w'.cell? ⟨b, 1, none⟩ = some (.int .i64 z)) (ds := []) #[false, false, false, false, false, false, false, false, false, false, false, false, false, false, false, false] (by kernel_rfl) rfl rfl ⟨((hA.drewN _).drew).c0, ((hA.drewN _).drew).c1⟩ (fun hHeld => ?_)
          refine with_tabW number.tab4 number.bits4 (fun HT_ HW_ => ?_)
          refine pure_ (i := 0) (N := some 112) (v := ?_) (a' := ?_) #[true, false, false, false, false, false, false, false, false, false, false, false, false, false, false, false] rfl rfl (any_of HT_.out (by kernel_rfl)) (fun _ _ _ h => h) (Or.inl ⟨by rfl, ?_⟩) ?_ ?_
          rotate_left
          · intro w'
            go_simp
            with_reducible rfl
          rotate_left
          · simp only [Act.put, List.setIfInBounds_toArray, List.set_cons_zero, List.set_cons_succ, i64_w, i32_w]
            rfl
          refine pure_ (i := 1) (N := some 113) (v := ?_) (a' := ?_) #[true, true, false, false, false, false, false, false, false, false, false, false, false, false, false, false] rfl rfl (any_of HT_.out (by kernel_rfl)) (fun _ _ _ h => h) (Or.inl ⟨by rfl, ?_⟩) ?_ ?_
          rotate_left
          · intro w'
            go_simp
            with_reducible rfl
          rotate_left
          · simp only [Act.put, List.setIfInBounds_toArray, List.set_cons_zero, List.set_cons_succ, i64_w, i32_w]
            rfl
          refine pure_ (i := 2) (N := some 114) (v := ?_) (a' := ?_) #[true, true, true, false, false, false, false, false, false, false, false, false, false, false, false, false] rfl rfl (any_of HT_.out (by kernel_rfl)) (fun _ _ _ h => h) (Or.inl ⟨by rfl, ?_⟩) ?_ ?_
          rotate_left
          · intro w'
            go_simp
            with_reducible rfl
          rotate_left
          · simp only [Act.put, List.setIfInBounds_toArray, List.set_cons_zero, List.set_cons_succ, i64_w, i32_w]
            rfl
          refine take_ (i := 3) (N := some 115) (v := ?_) (a' := ?_) #[true, true, true, true, false, false, false, false, false, false, false, false, false, false, false, false] rfl rfl (take_ofW HT_.out HW_.out (by kernel_rfl)) (fun _ _ _ h => h) (Or.inl ⟨by rfl, ?_⟩) hHeld ?_ ?_
          rotate_left
          · rintro w' ⟨s0, s1⟩
            go_simp
            with_reducible rfl
          rotate_left
          · simp only [Act.put, List.setIfInBounds_toArray, List.set_cons_zero, List.set_cons_succ, i64_w, i32_w]
            rfl
          refine pure_ (i := 4) (N := some 116) (v := ?_) (a' := ?_) #[true, true, true, true, true, false, false, false, false, false, false, false, false, false, false, false] rfl rfl (any_of HT_.out (by kernel_rfl)) (fun _ _ _ h => h) (Or.inl ⟨by rfl, ?_⟩) ?_ ?_
          rotate_left
          · intro w'
            go_simp
            with_reducible rfl
          rotate_left
          · simp only [Act.put, List.setIfInBounds_toArray, List.set_cons_zero, List.set_cons_succ, i64_w, i32_w]
            rfl
          refine pure_ (i := 5) (N := some 117) (v := ?_) (a' := ?_) #[true, true, true, true, true, true, false, false, false, false, false, false, false, false, false, false] rfl rfl (any_of HT_.out (by kernel_rfl)) (fun _ _ _ h => h) (Or.inl ⟨by rfl, ?_⟩) ?_ ?_
          rotate_left
          · intro w'
            go_simp
            with_reducible rfl
          rotate_left
          · simp only [Act.put, List.setIfInBounds_toArray, List.set_cons_zero, List.set_cons_succ, i64_w, i32_w]
            rfl
          refine pure_ (i := 6) (N := some 118) (v := ?_) (a' := ?_) #[true, true, true, true, true, true, true, false, false, false, false, false, false, false, false, false] rfl rfl (any_of HT_.out (by kernel_rfl)) (fun _ _ _ h => h) (Or.inl ⟨by rfl, ?_⟩) ?_ ?_
          rotate_left
          · intro w'
            go_simp
            with_reducible rfl
          rotate_left
          · simp only [Act.put, List.setIfInBounds_toArray, List.set_cons_zero, List.set_cons_succ, i64_w, i32_w]
            rfl
          refine pure_ (i := 7) (N := some 119) (v := ?_) (a' := ?_) #[true, true, true, true, true, true, true, true, false, false, false, false, false, false, false, false] rfl rfl (any_of HT_.out (by kernel_rfl)) (fun _ _ _ h => h) (Or.inl ⟨by rfl, ?_⟩) ?_ ?_
          rotate_left
          · intro w'
            go_simp
            with_reducible rfl
          rotate_left
          · simp only [Act.put, List.setIfInBounds_toArray, List.set_cons_zero, List.set_cons_succ, i64_w, i32_w]
            rfl
          refine take_ (i := 8) (N := some 120) (v := ?_) (a' := ?_) #[true, true, true, true, true, true, true, true, true, false, false, false, false, false, false, false] rfl rfl (take_ofW HT_.out HW_.out (by kernel_rfl)) (fun _ _ _ h => h) (Or.inl ⟨by rfl, ?_⟩) hHeld ?_ ?_
          rotate_left
          · rintro w' ⟨s0, s1⟩
            go_simp
            with_reducible rfl
          rotate_left
          · simp only [Act.put, List.setIfInBounds_toArray, List.set_cons_zero, List.set_cons_succ, i64_w, i32_w]
            rfl
          refine pure_ (i := 9) (N := some 121) (v := ?_) (a' := ?_) #[true, true, true, true, true, true, true, true, true, true, false, false, false, false, false, false] rfl rfl (any_of HT_.out (by kernel_rfl)) (fun _ _ _ h => h) (Or.inl ⟨by rfl, ?_⟩) ?_ ?_
          rotate_left
          · intro w'
            go_simp
            with_reducible rfl
          rotate_left
          · simp only [Act.put, List.setIfInBounds_toArray, List.set_cons_zero, List.set_cons_succ, i64_w, i32_w]
            rfl
          refine one_ (i := 10) (N := some 122) #[true, true, true, true, true, true, true, true, true, true, true, false, false, false, false, false] rfl rfl (one_of HT_.out (by kernel_rfl)) (by decide) (fun K hK => ?_)
          refine goes_ Tryd.func58 (by kernel_rfl) rfl #[.string (s.extract zp.toNat z.toNat)] (by rfl) rfl rfl (by kernel_rfl) ?_
          refine (num_Parse.calls _ r1 r2 _ ⟨hGN.out.below ((hA.drewN _).drew).2.1⟩ HT.out).mono ?_
          rintro e w4 ⟨rfl, hb4⟩
          have hA4 := ((hA.drewN _).drew).below hb4
          have hk4 : KeepBut w w4 b none := (keep_drew (keep_drewN hk _)).trans (KeepBut.of_below hb4 b none) (.inl rfl)
          refine ⟨_, rfl, ?_⟩
          refine hK.out _ _ ⟨hA4.c0, hA4.c1⟩ (fun hh => ?_)
          clear hK K
          refine pure_ (i := 11) (N := some 111) (v := ?_) (a' := ?_) #[true, true, true, true, true, true, true, true, true, true, true, true, false, false, false, false] rfl rfl (any_of HT_.out (by kernel_rfl)) (fun _ _ _ h => h) (Or.inl ⟨by rfl, ?_⟩) ?_ ?_
          rotate_left
          · intro w'
            go_simp
            with_reducible rfl
          rotate_left
          · simp only [Act.put, List.setIfInBounds_toArray, List.set_cons_zero, List.set_cons_succ, i64_w, i32_w]
            rfl
          refine pure_ (i := 12) (N := some 123) (v := ?_) (a' := ?_) #[true, true, true, true, true, true, true, true, true, true, true, true, true, false, false, false] rfl rfl (any_of HT_.out (by kernel_rfl)) (fun _ _ _ h => h) (Or.inl ⟨by rfl, ?_⟩) ?_ ?_
          rotate_left
          · intro w'
            go_simp
            with_reducible rfl
          rotate_left
          · simp only [Act.put, List.setIfInBounds_toArray, List.set_cons_zero, List.set_cons_succ, i64_w, i32_w]
            rfl
          refine pure_ (i := 13) (N := some 124) (v := ?_) (a' := ?_) #[true, true, true, true, true, true, true, true, true, true, true, true, true, true, false, false] rfl rfl (any_of HT_.out (by kernel_rfl)) (fun _ _ _ h => h) (Or.inl ⟨by rfl, ?_⟩) ?_ ?_
          rotate_left
          · intro w'
            go_simp
            with_reducible rfl
          rotate_left
          · simp only [Act.put, List.setIfInBounds_toArray, List.set_cons_zero, List.set_cons_succ, i64_w, i32_w]
            rfl
          refine pure_ (i := 14) (N := some 4) (v := ?_) (a' := ?_) #[true, true, true, true, true, true, true, true, true, true, true, true, true, true, true, false] rfl rfl (any_of HT_.out (by kernel_rfl)) (fun _ _ _ h => h) (Or.inl ⟨by rfl, ?_⟩) ?_ ?_
          rotate_left
          · intro w'
            go_simp
            with_reducible rfl
          rotate_left
          · simp only [Act.put, List.setIfInBounds_toArray, List.set_cons_zero, List.set_cons_succ, i64_w, i32_w]
            rfl
          refine pure_ (i := 15) (N := some 5) (v := ?_) (a' := ?_) #[true, true, true, true, true, true, true, true, true, true, true, true, true, true, true, true] rfl rfl (any_of HT_.out (by kernel_rfl)) (fun _ _ _ h => h) (Or.inl ⟨by rfl, ?_⟩) ?_ ?_
          rotate_left
          · intro w'
            go_simp
            with_reducible rfl
          rotate_left
          · simp only [Act.put, List.setIfInBounds_toArray, List.set_cons_zero, List.set_cons_succ, i64_w, i32_w]
            rfl
          refine done_ (done_of HT_.out (by kernel_rfl)) ?_
          have e9 : (r2 != 0) = true ∨ (r2 != 0) = false := by cases (r2 != 0) <;> simp
          rcases e9 with e9 | e9
          · have hf4 := HRes.out
            rw [if_neg (bne_iff_ne.1 e9)] at hf4
            have HR4 := Aside0.mk hf4
            clear hf4
            go_wp2_with (go_at_call 35; refine (fail_walk _ _ _).mono ?_; rintro e w2 ⟨rfl, rfl⟩)
            rw [← HR4.out]
            exact ⟨rfl, by rw [← HP.out], hA4.2.1⟩
          · have hf4 := HRes.out
            rw [if_pos (by simpa using e9)] at hf4
            have HR4 := Aside0.mk hf4
            clear hf4
            go_wp2
            go_ret
            rw [← HR4.out]
            exact ⟨rfl, by rw [List.drop_drop], by have := HN.out; omega, by rw [← HN.out, ← HZ.out.1]; exact hA4, hk4⟩
        · clear e8
          have hz1 : 0 ≤ z := by have := HZ.out.1; omega
          have hz2 : z ≤ (s.size : Int) := by have := HZ.out; omega
          have p5 : (0 ≤ zp) = True := eq_true hzp0
          have p6 : (zp ≤ z) = True := eq_true (by have h1 := HP.out; have := HZ.out; omega)
          have p7 : (z ≤ (s.size : Int)) = True := eq_true hz2
          have HT : Aside0 (num_Parse.f (s.extract zp.toNat z.toNat) = some (r1, r2)) := ⟨by have h1 := HP.out; have h2 := HZ.out.1; have h3 := HN.out; rw [show zp.toNat = p by omega, show z.toNat = p + numLen (s.data.toList.drop p) by omega]; exact HF.out⟩
          go_wp2
          try dsimp only [List.append]
          refine wp_region_quiet_lit (by kernel_rfl) number.lex2 ?_
          repeat (go_big_quiet_step (fail))
          refine wpQuiet_nil ?_
          intro _ hw'
          obtain ⟨nq, hw''⟩ := hw'
          subst hw''
          go_wp2
          refine start_ (n := 16) (S := fun w' => w'.cell? ⟨b, 0, none⟩ = some (.string s) ∧ w'.cell? ⟨b, 1, none⟩ = some (.int .i64 z)) (ds := []) #[false, false, false, false, false, false, false, false, false, false, false, false, false, false, false, false] (by kernel_rfl) rfl rfl ⟨((hA.drewN _).drew).c0, ((hA.drewN _).drew).c1⟩ (fun hHeld => ?_)
          refine with_tabW number.tab4 number.bits4 (fun HT_ HW_ => ?_)
          refine pure_ (i := 0) (N := some 112) (v := ?_) (a' := ?_) #[true, false, false, false, false, false, false, false, false, false, false, false, false, false, false, false] rfl rfl (any_of HT_.out (by kernel_rfl)) (fun _ _ _ h => h) (Or.inl ⟨by rfl, ?_⟩) ?_ ?_
          rotate_left
          · intro w'
            go_simp
            with_reducible rfl
          rotate_left
          · simp only [Act.put, List.setIfInBounds_toArray, List.set_cons_zero, List.set_cons_succ, i64_w, i32_w]
            rfl
          refine pure_ (i := 1) (N := some 113) (v := ?_) (a' := ?_) #[true, true, false, false, false, false, false, false, false, false, false, false, false, false, false, false] rfl rfl (any_of HT_.out (by kernel_rfl)) (fun _ _ _ h => h) (Or.inl ⟨by rfl, ?_⟩) ?_ ?_
          rotate_left
          · intro w'
            go_simp
            with_reducible rfl
          rotate_left
          · simp only [Act.put, List.setIfInBounds_toArray, List.set_cons_zero, List.set_cons_succ, i64_w, i32_w]
            rfl
          refine pure_ (i := 2) (N := some 114) (v := ?_) (a' := ?_) #[true, true, true, false, false, false, false, false, false, false, false, false, false, false, false, false] rfl rfl (any_of HT_.out (by kernel_rfl)) (fun _ _ _ h => h) (Or.inl ⟨by rfl, ?_⟩) ?_ ?_
          rotate_left
          · intro w'
            go_simp
            with_reducible rfl
          rotate_left
          · simp only [Act.put, List.setIfInBounds_toArray, List.set_cons_zero, List.set_cons_succ, i64_w, i32_w]
            rfl
          refine take_ (i := 3) (N := some 115) (v := ?_) (a' := ?_) #[true, true, true, true, false, false, false, false, false, false, false, false, false, false, false, false] rfl rfl (take_ofW HT_.out HW_.out (by kernel_rfl)) (fun _ _ _ h => h) (Or.inl ⟨by rfl, ?_⟩) hHeld ?_ ?_
          rotate_left
          · rintro w' ⟨s0, s1⟩
            go_simp
            with_reducible rfl
          rotate_left
          · simp only [Act.put, List.setIfInBounds_toArray, List.set_cons_zero, List.set_cons_succ, i64_w, i32_w]
            rfl
          refine pure_ (i := 4) (N := some 116) (v := ?_) (a' := ?_) #[true, true, true, true, true, false, false, false, false, false, false, false, false, false, false, false] rfl rfl (any_of HT_.out (by kernel_rfl)) (fun _ _ _ h => h) (Or.inl ⟨by rfl, ?_⟩) ?_ ?_
          rotate_left
          · intro w'
            go_simp
            with_reducible rfl
          rotate_left
          · simp only [Act.put, List.setIfInBounds_toArray, List.set_cons_zero, List.set_cons_succ, i64_w, i32_w]
            rfl
          refine pure_ (i := 5) (N := some 117) (v := ?_) (a' := ?_) #[true, true, true, true, true, true, false, false, false, false, false, false, false, false, false, false] rfl rfl (any_of HT_.out (by kernel_rfl)) (fun _ _ _ h => h) (Or.inl ⟨by rfl, ?_⟩) ?_ ?_
          rotate_left
          · intro w'
            go_simp
            with_reducible rfl
          rotate_left
          · simp only [Act.put, List.setIfInBounds_toArray, List.set_cons_zero, List.set_cons_succ, i64_w, i32_w]
            rfl
          refine pure_ (i := 6) (N := some 118) (v := ?_) (a' := ?_) #[true, true, true, true, true, true, true, false, false, false, false, false, false, false, false, false] rfl rfl (any_of HT_.out (by kernel_rfl)) (fun _ _ _ h => h) (Or.inl ⟨by rfl, ?_⟩) ?_ ?_
          rotate_left
          · intro w'
            go_simp
            with_reducible rfl
          rotate_left
          · simp only [Act.put, List.setIfInBounds_toArray, List.set_cons_zero, List.set_cons_succ, i64_w, i32_w]
            rfl
          refine pure_ (i := 7) (N := some 119) (v := ?_) (a' := ?_) #[true, true, true, true, true, true, true, true, false, false, false, false, false, false, false, false] rfl rfl (any_of HT_.out (by kernel_rfl)) (fun _ _ _ h => h) (Or.inl ⟨by rfl, ?_⟩) ?_ ?_
          rotate_left
          · intro w'
            go_simp
            with_reducible rfl
          rotate_left
          · simp only [Act.put, List.setIfInBounds_toArray, List.set_cons_zero, List.set_cons_succ, i64_w, i32_w]
            rfl
          refine take_ (i := 8) (N := some 120) (v := ?_) (a' := ?_) #[true, true, true, true, true, true, true, true, true, false, false, false, false, false, false, false] rfl rfl (take_ofW HT_.out HW_.out (by kernel_rfl)) (fun _ _ _ h => h) (Or.inl ⟨by rfl, ?_⟩) hHeld ?_ ?_
          rotate_left
          · rintro w' ⟨s0, s1⟩
            go_simp
            with_reducible rfl
          rotate_left
          · simp only [Act.put, List.setIfInBounds_toArray, List.set_cons_zero, List.set_cons_succ, i64_w, i32_w]
            rfl
          refine pure_ (i := 9) (N := some 121) (v := ?_) (a' := ?_) #[true, true, true, true, true, true, true, true, true, true, false, false, false, false, false, false] rfl rfl (any_of HT_.out (by kernel_rfl)) (fun _ _ _ h => h) (Or.inl ⟨by rfl, ?_⟩) ?_ ?_
          rotate_left
          · intro w'
            go_simp
            with_reducible rfl
          rotate_left
          · simp only [Act.put, List.setIfInBounds_toArray, List.set_cons_zero, List.set_cons_succ, i64_w, i32_w]
            rfl
          refine one_ (i := 10) (N := some 122) #[true, true, true, true, true, true, true, true, true, true, true, false, false, false, false, false] rfl rfl (one_of HT_.out (by kernel_rfl)) (by decide) (fun K hK => ?_)
          refine goes_ Tryd.func58 (by kernel_rfl) rfl #[.string (s.extract zp.toNat z.toNat)] (by rfl) rfl rfl (by kernel_rfl) ?_
          refine (num_Parse.calls _ r1 r2 _ ⟨hGN.out.below ((hA.drewN _).drew).2.1⟩ HT.out).mono ?_
          rintro e w4 ⟨rfl, hb4⟩
          have hA4 := ((hA.drewN _).drew).below hb4
          have hk4 : KeepBut w w4 b none := (keep_drew (keep_drewN hk _)).trans (KeepBut.of_below hb4 b none) (.inl rfl)
          refine ⟨_, rfl, ?_⟩
          refine hK.out _ _ ⟨hA4.c0, hA4.c1⟩ (fun hh => ?_)
          clear hK K
          refine pure_ (i := 11) (N := some 111) (v := ?_) (a' := ?_) #[true, true, true, true, true, true, true, true, true, true, true, true, false, false, false, false] rfl rfl (any_of HT_.out (by kernel_rfl)) (fun _ _ _ h => h) (Or.inl ⟨by rfl, ?_⟩) ?_ ?_
          rotate_left
          · intro w'
            go_simp
            with_reducible rfl
          rotate_left
          · simp only [Act.put, List.setIfInBounds_toArray, List.set_cons_zero, List.set_cons_succ, i64_w, i32_w]
            rfl
          refine pure_ (i := 12) (N := some 123) (v := ?_) (a' := ?_) #[true, true, true, true, true, true, true, true, true, true, true, true, true, false, false, false] rfl rfl (any_of HT_.out (by kernel_rfl)) (fun _ _ _ h => h) (Or.inl ⟨by rfl, ?_⟩) ?_ ?_
          rotate_left
          · intro w'
            go_simp
            with_reducible rfl
          rotate_left
          · simp only [Act.put, List.setIfInBounds_toArray, List.set_cons_zero, List.set_cons_succ, i64_w, i32_w]
            rfl
          refine pure_ (i := 13) (N := some 124) (v := ?_) (a' := ?_) #[true, true, true, true, true, true, true, true, true, true, true, true, true, true, false, false] rfl rfl (any_of HT_.out (by kernel_rfl)) (fun _ _ _ h => h) (Or.inl ⟨by rfl, ?_⟩) ?_ ?_
          rotate_left
          · intro w'
            go_simp
            with_reducible rfl
          rotate_left
          · simp only [Act.put, List.setIfInBounds_toArray, List.set_cons_zero, List.set_cons_succ, i64_w, i32_w]
            rfl
          refine pure_ (i := 14) (N := some 4) (v := ?_) (a' := ?_) #[true, true, true, true, true, true, true, true, true, true, true, true, true, true, true, false] rfl rfl (any_of HT_.out (by kernel_rfl)) (fun _ _ _ h => h) (Or.inl ⟨by rfl, ?_⟩) ?_ ?_
          rotate_left
          · intro w'
            go_simp
            with_reducible rfl
          rotate_left
          · simp only [Act.put, List.setIfInBounds_toArray, List.set_cons_zero, List.set_cons_succ, i64_w, i32_w]
            rfl
          refine pure_ (i := 15) (N := some 5) (v := ?_) (a' := ?_) #[true, true, true, true, true, true, true, true, true, true, true, true, true, true, true, true] rfl rfl (any_of HT_.out (by kernel_rfl)) (fun _ _ _ h => h) (Or.inl ⟨by rfl, ?_⟩) ?_ ?_
          rotate_left
          · intro w'
            go_simp
            with_reducible rfl
          rotate_left
          · simp only [Act.put, List.setIfInBounds_toArray, List.set_cons_zero, List.set_cons_succ, i64_w, i32_w]
            rfl
          refine done_ (done_of HT_.out (by kernel_rfl)) ?_
          have e9 : (r2 != 0) = true ∨ (r2 != 0) = false := by cases (r2 != 0) <;> simp
          rcases e9 with e9 | e9
          · have hf4 := HRes.out
            rw [if_neg (bne_iff_ne.1 e9)] at hf4
            have HR4 := Aside0.mk hf4
            clear hf4
            go_wp2_with (go_at_call 35; refine (fail_walk _ _ _).mono ?_; rintro e w2 ⟨rfl, rfl⟩)
            rw [← HR4.out]
            exact ⟨rfl, by rw [← HP.out], hA4.2.1⟩
          · have hf4 := HRes.out
            rw [if_pos (by simpa using e9)] at hf4
            have HR4 := Aside0.mk hf4
            clear hf4
            go_wp2
            go_ret
            rw [← HR4.out]
            exact ⟨rfl, by rw [List.drop_drop], by have := HN.out; omega, by rw [← HN.out, ← HZ.out.1]; exact hA4, hk4⟩
end Go.Proofs.YtldlkoncndlbhaaDoor.Js
