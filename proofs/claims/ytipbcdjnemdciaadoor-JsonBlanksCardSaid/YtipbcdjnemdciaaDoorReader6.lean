/- The reader's 'escape' walked: one rune, of one escape or two. -/
import Derived.Test.YtipbcdjnemdciaaDoorReader5
set_option linter.unusedVariables false
set_option linter.unusedSimpArgs false
namespace Go.Proofs.YtipbcdjnemdciaaDoor.Js
open Go.RowKit Go.Lib Go.Proofs.YtipbcdjnemdciaaDoor.PSh Go.Proofs.YtipbcdjnemdciaaDoorW.PrintWords Go.Proofs.YtipbcdjnemdciaaDoorW.PrintLast Go.Proofs.YtipbcdjnemdciaaDoorW.PrintMore

theorem digit_lt (c : UInt8) (d : Nat) (h : digit c = some d) : d < 16 := by
  unfold digit at h
  split at h
  · cases h; omega
  · split at h
    · cases h; omega
    · split at h
      · cases h; omega
      · cases h
theorem hex_lt : ∀ (k : Nat) (l : List UInt8) (p fr n : Nat) (l' : List UInt8) (p' m : Nat), hex k l p fr n = .ok l' p' m → m < (n + 1) * 16 ^ k
  | 0, l, p, fr, n, l', p', m, h => by
    rw [hex_zero] at h
    cases h
    simp
  | k + 1, [], p, fr, n, l', p', m, h => by
    rw [hex_end] at h
    cases h
  | k + 1, c :: r, p, fr, n, l', p', m, h => by
    cases hd : digit c with
    | none => rw [hex_bad _ _ _ _ _ _ hd] at h; cases h
    | some d =>
      rw [hex_good _ _ _ _ _ _ _ hd] at h
      have h1 := hex_lt k r (p + 1) fr (16 * n + d) l' p' m h
      have h2 := digit_lt c d hd
      have h3 : (16 * n + d + 1) * 16 ^ k ≤ (16 * (n + 1)) * 16 ^ k := Nat.mul_le_mul_right _ (by omega)
      have h4 : (n + 1) * 16 ^ (k + 1) = 16 * (n + 1) * 16 ^ k := by rw [Nat.pow_succ]; simp [Nat.mul_comm, Nat.mul_left_comm, Nat.mul_assoc]
      omega
theorem mark_lt (c : UInt8) (n : Nat) (h : mark c = some n) : n < 256 := by
  have hc := c.toNat_lt
  unfold mark at h
  repeat' split at h
  all_goals first | (cases h; omega) | cases h
theorem half_lt (l : List UInt8) (p fr : Nat) (l' : List UInt8) (p' m : Nat) (h : half l p fr = .ok l' p' m) : m < 65536 := by
  match l, h with
  | [], h => cases h
  | [_], h => cases h
  | x :: c :: r, h =>
    cases hm : mark c with
    | some n =>
      rw [half_two _ _ _ _ _ _ hm] at h
      cases h
      have := mark_lt c _ hm
      omega
    | none =>
      rw [half_none _ _ _ _ _ hm] at h
      split at h
      · exact hex_lt 4 _ _ _ _ _ _ _ h
      · cases h

set_option maxHeartbeats 16000000 in
set_option maxRecDepth 100000 in
theorem escape_walk (w0 w : World) (b : Nat) (s : ByteArray) (p : Nat) (tv : Value) (hA : At w0 b s (p : Int) tv w) (hp : p ≤ s.size) (hs : s.size ≤ 65536) :
    Calls Tryd.prog 28 #[.pointer (some ⟨b, 0, none⟩)] w (Ret w0 b s tv w (escape (s.data.toList.drop p) p) (fun n => .int .i32 (n : Int))) := by
  obtain ⟨res, hres⟩ : ∃ r, escape (s.data.toList.drop p) p = r := ⟨_, rfl⟩
  rw [hres]
  have hw1 := half_walk w0 w b s p p tv hA hp hs
  have hlt := half_lt (s.data.toList.drop p) p p
  unfold escape at hres
  have hc1 := hA.c1
  generalize half (s.data.toList.drop p) p p = r1 at *
  have hstart : True := trivial
  cases r1 with
  | no pp ee =>
    have HR := Aside0.mk (show R.no pp ee = res from hres)
    have hw2 : Calls Tryd.prog 34 #[.pointer (some ⟨b, 0, none⟩), .int .i64 (p : Int)] w fun e w' => e = halted (pp : Int) ee ∧ Below w0.heap.size w0 w' := hw1
    clear hw1 hres hlt
    go_enter Tryd.func28, Tryd.ntmps28
    go_wp2_with (go_at_call 34; refine hw2.mono ?_; rintro e w1 ⟨rfl, hB1⟩)
    rw [← HR.out]
    exact ⟨rfl, rfl, hB1⟩
  | ok l1 p1 n =>
    have hn := hlt l1 p1 n rfl
    clear hlt
    obtain ⟨zn, hzn⟩ : ∃ z : Int, z = n := ⟨_, rfl⟩
    have hw2 : Calls Tryd.prog 34 #[.pointer (some ⟨b, 0, none⟩), .int .i64 (p : Int)] w fun e w' => e = .returned (.int .i32 (n : Int)) ∧ l1 = s.data.toList.drop p1 ∧ p1 ≤ s.size ∧ At w0 b s (p1 : Int) tv w' ∧ KeepBut w w' b none := hw1
    clear hw1
    rw [← hzn] at hw2
    have hzn0 : 0 ≤ zn := by omega
    have hzn1 : zn < 65536 := by omega
    rw [R.bind_ok] at hres
    by_cases ha : 56320 ≤ n ∧ n ≤ 57343
    · rw [if_pos ha] at hres
      have HR := Aside0.mk hres
      have e1 : decide (56320 ≤ zn) = true := decide_eq_true (by omega)
      have e2 : decide (zn ≤ 57343) = true := decide_eq_true (by omega)
      clear ha hres hzn
      go_enter Tryd.func28, Tryd.ntmps28
      go_wp2_with (first
        | (go_at_call 34; refine hw2.mono ?_; rintro e w1 ⟨rfl, hl1, hq1, hA1, hk1⟩)
        | (go_at_call 19; refine (fail_walk _ _ _).mono ?_; rintro e w2 ⟨rfl, rfl⟩))
      rw [← HR.out]
      exact ⟨rfl, rfl, hA1.2.1⟩
    · rw [if_neg ha] at hres
      by_cases hb : n < 55296 ∨ 56319 < n
      · rw [if_pos hb] at hres
        have HR := Aside0.mk hres
        have HN := Aside0.mk hzn
        rcases hb with hb | hb
        · have e1 : decide (56320 ≤ zn) = false := decide_eq_false (by omega)
          have e2 : decide (zn < 55296) = true := decide_eq_true (by omega)
          clear ha hb hres hzn
          go_enter Tryd.func28, Tryd.ntmps28
          go_wp2_with (go_at_call 34; refine hw2.mono ?_; rintro e w1 ⟨rfl, hl1, hq1, hA1, hk1⟩; have HL := Aside0.mk hl1; clear hl1)
          go_ret
          rw [← HR.out]
          exact ⟨congrArg (fun x => Ending.returned (Value.int .i32 x)) HN.out, HL.out, hq1, hA1, hk1⟩
        · have e1 : decide (56320 ≤ zn) = true := decide_eq_true (by omega)
          have e2 : decide (zn < 55296) = false := decide_eq_false (by omega)
          have e3 : decide (zn ≤ 57343) = false := decide_eq_false (by omega)
          have e4 : decide (56319 < zn) = true := decide_eq_true (by omega)
          clear ha hb hres hzn
          go_enter Tryd.func28, Tryd.ntmps28
          go_wp2_with (go_at_call 34; refine hw2.mono ?_; rintro e w1 ⟨rfl, hl1, hq1, hA1, hk1⟩; have HL := Aside0.mk hl1; clear hl1)
          go_ret
          rw [← HR.out]
          exact ⟨congrArg (fun x => Ending.returned (Value.int .i32 x)) HN.out, HL.out, hq1, hA1, hk1⟩
      · rw [if_neg hb] at hres
        have e1 : decide (56320 ≤ zn) = false := decide_eq_false (by omega)
        have e2 : decide (zn < 55296) = false := decide_eq_false (by omega)
        have e4 : decide (56319 < zn) = false := decide_eq_false (by omega)
        have hb0 : 55296 ≤ zn := by omega
        have hb1 : zn ≤ 56319 := by omega
        obtain ⟨z1, hz1⟩ : ∃ z : Int, z = p1 := ⟨_, rfl⟩
        have hz10 : 0 ≤ z1 := by omega
        have p4 : (0 ≤ z1) = True := eq_true hz10
        have p5 : (0 ≤ z1 + 1) = True := eq_true (by omega)
        by_cases hq1 : p1 ≤ s.size
        rotate_left
        · have HQ := Aside0.mk hq1
          clear hres ha hb hzn hz1 hq1
          go_enter Tryd.func28, Tryd.ntmps28
          go_wp2_with (go_at_call 34; refine hw2.mono ?_; rintro e w1 ⟨rfl, hl1, hq1, hA1, hk1⟩; exact absurd hq1 HQ.out)
        have hz12 : z1 ≤ 65536 := by omega
        by_cases hl1 : l1 = s.data.toList.drop p1
        rotate_left
        · have HQ := Aside0.mk hl1
          clear hres ha hb hzn hz1 hl1
          go_enter Tryd.func28, Tryd.ntmps28
          go_wp2_with (go_at_call 34; refine hw2.mono ?_; rintro e w1 ⟨rfl, hl1, hq1, hA1, hk1⟩; exact absurd hl1 HQ.out)
        have hlen : l1.length = s.size - p1 := by rw [hl1, List.length_drop, data_length]
        have hw3 : Calls Tryd.prog 34 #[.pointer (some ⟨b, 0, none⟩), .int .i64 (p : Int)] w fun e w' => e = .returned (.int .i32 zn) ∧ At w0 b s z1 tv w' ∧ KeepBut w w' b none := hw2.mono fun e w' h => ⟨h.1, h.2.2.2.1.cast hz1.symm, h.2.2.2.2⟩
        clear hw2
        have hl := hl1.symm
        clear hl1
        match l1, hres, hl, hlen with
        | [], hres, hl, hlen =>
          rw [if_neg (by simp)] at hres
          have HR := Aside0.mk hres
          have c2 : decide ((s.size : Int) ≤ z1 + 1) = true := decide_eq_true (by simp at hlen; omega)
          clear hres hl hlen hzn hz1 ha hb hq1
          go_enter Tryd.func28, Tryd.ntmps28
          go_wp2_with (go_at_call 34; refine hw3.mono ?_; rintro e w1 ⟨rfl, hA1, hk1⟩; have hc0 := hA1.c0; have hd1 := hA1.c1)
          go_quiet (fail)
          go_wp2_with (go_at_call 19; refine (fail_walk _ _ _).mono ?_; rintro e w2 ⟨rfl, rfl⟩)
          rw [← HR.out]
          exact ⟨rfl, rfl, (hA1.drewN _).2.1⟩
        | [x], hres, hl, hlen =>
          rw [if_neg (by simp)] at hres
          have HR := Aside0.mk hres
          have c2 : decide ((s.size : Int) ≤ z1 + 1) = true := decide_eq_true (by simp at hlen; omega)
          clear hres hl hlen hzn hz1 ha hb hq1
          go_enter Tryd.func28, Tryd.ntmps28
          go_wp2_with (go_at_call 34; refine hw3.mono ?_; rintro e w1 ⟨rfl, hA1, hk1⟩; have hc0 := hA1.c0; have hd1 := hA1.c1)
          go_quiet (fail)
          go_wp2_with (go_at_call 19; refine (fail_walk _ _ _).mono ?_; rintro e w2 ⟨rfl, rfl⟩)
          rw [← HR.out]
          exact ⟨rfl, rfl, (hA1.drewN _).2.1⟩
        | x :: y :: r, hres, hl, hlen =>
          have hl2 : s.data.toList.drop (p1 + 1) = y :: r := (bt_head hl).2.2
          obtain ⟨hlt1, hbt1, _⟩ := bt_head hl
          obtain ⟨hlt2, hbt2, _⟩ := bt_head hl2
          have hzz : z1 + 1 = ((p1 + 1 : Nat) : Int) := by omega
          rw [← hz1] at hbt1
          rw [← hzz] at hbt2
          have c2 : decide ((s.size : Int) ≤ z1 + 1) = false := decide_eq_false (by omega)
          have q4 : (z1 < (s.size : Int)) = True := eq_true (by omega)
          have q5 : (z1 + 1 < (s.size : Int)) = True := eq_true (by omega)
          have hx := bt_at s z1
          have hy := bt_at s (z1 + 1)
          have h92 : (bt s z1 == 92) = decide (x = 92) := by rw [hbt1]; exact byte_eq x 92
          have h117 : (bt s (z1 + 1) == 117) = decide (y = 117) := by rw [hbt2]; exact byte_eq y 117
          have hn92 : (bt s z1 != 92) = !decide (x = 92) := by rw [bne, h92]
          have hn117 : (bt s (z1 + 1) != 117) = !decide (y = 117) := by rw [bne, h117]
          by_cases hx92 : x = 92
          · rw [decide_eq_true hx92] at h92 hn92
            by_cases hy117 : y = 117
            · rw [decide_eq_true hy117] at h117 hn117
              rw [if_pos ⟨by rw [hx92]; rfl, by rw [hy117]; rfl⟩] at hres
              have hw4 := fun (w' : World) (h : At w0 b s z1 tv w') => half_walk w0 w' b s p1 p tv (h.cast hz1) hq1 hs
              rw [hl] at hw4
              have hlt4 := half_lt (x :: y :: r) p1 p
              generalize half (x :: y :: r) p1 p = r4 at *
              have HW4 := Aside0.mk hw4
              have HN := Aside0.mk hzn
              clear hw4 hl hl2 hlen hbt1 hbt2 hzz hx92 hy117 hz1 ha hb
              cases r4 with
              | no pp ee =>
                have HR := Aside0.mk (show R.no pp ee = res from hres)
                clear hres hlt4 hzn
                go_enter Tryd.func28, Tryd.ntmps28
                go_wp2_with (go_at_call 34; (with_reducible refine hw3.mono ?_); rintro e w1 ⟨rfl, hA1, hk1⟩; have hc0 := hA1.c0; have hd1 := hA1.c1)
                go_quiet (fail)
                go_wp2_with (go_at_call 34; refine (HW4.out _ (hA1.drewN _)).mono ?_; rintro e w2 ⟨rfl, hB2⟩)
                rw [← HR.out]
                exact ⟨rfl, rfl, hB2⟩
              | ok l4 p4 m =>
                have hm := hlt4 l4 p4 m rfl
                rw [R.bind_ok] at hres
                obtain ⟨zm, hzm⟩ : ∃ z : Int, z = m := ⟨_, rfl⟩
                have hzm0 : 0 ≤ zm := by omega
                have hzm1 : zm < 65536 := by omega
                have hw5 : ∀ w', At w0 b s z1 tv w' → Calls Tryd.prog 34 #[.pointer (some ⟨b, 0, none⟩), .int .i64 (p : Int)] w' fun e w'' => e = .returned (.int .i32 zm) ∧ Aside0 (l4 = s.data.toList.drop p4 ∧ p4 ≤ s.size) ∧ At w0 b s (p4 : Int) tv w'' ∧ KeepBut w' w'' b none := fun w' h => (HW4.out w' h).mono fun e w'' h => ⟨h.1.trans (by rw [hzm]), ⟨h.2.1, h.2.2.1⟩, h.2.2.2.1, h.2.2.2.2⟩
                have HW5 := Aside0.mk hw5
                have HM := Aside0.mk hzm
                clear hw5 hlt4
                by_cases hc : m < 56320 ∨ 57343 < m
                · rw [if_pos hc] at hres
                  have HR := Aside0.mk hres
                  rcases hc with hc | hc
                  · have f1 : decide (zm < 56320) = true := decide_eq_true (by omega)
                    clear hc hres hzm hzn
                    go_enter Tryd.func28, Tryd.ntmps28
                    go_wp2_with (go_at_call 34; (with_reducible refine hw3.mono ?_); rintro e w1 ⟨rfl, hA1, hk1⟩; have hc0 := hA1.c0; have hd1 := hA1.c1)
                    go_quiet (fail)
                    go_wp2_with (first
                      | (go_at_call 34; refine (HW5.out _ (hA1.drewN _)).mono ?_; rintro e w2 ⟨rfl, HL2, hA2, hk2⟩)
                      | (go_at_call 19; refine (fail_walk _ _ _).mono ?_; rintro e w3 ⟨rfl, rfl⟩))
                    rw [← HR.out]
                    exact ⟨rfl, rfl, hA2.2.1⟩
                  · have f1 : decide (zm < 56320) = false := decide_eq_false (by omega)
                    have f2 : decide (57343 < zm) = true := decide_eq_true (by omega)
                    clear hc hres hzm hzn
                    go_enter Tryd.func28, Tryd.ntmps28
                    go_wp2_with (go_at_call 34; (with_reducible refine hw3.mono ?_); rintro e w1 ⟨rfl, hA1, hk1⟩; have hc0 := hA1.c0; have hd1 := hA1.c1)
                    go_quiet (fail)
                    go_wp2_with (first
                      | (go_at_call 34; refine (HW5.out _ (hA1.drewN _)).mono ?_; rintro e w2 ⟨rfl, HL2, hA2, hk2⟩)
                      | (go_at_call 19; refine (fail_walk _ _ _).mono ?_; rintro e w3 ⟨rfl, rfl⟩))
                    rw [← HR.out]
                    exact ⟨rfl, rfl, hA2.2.1⟩
                · rw [if_neg hc] at hres
                  have HR := Aside0.mk hres
                  have f1 : decide (zm < 56320) = false := decide_eq_false (by omega)
                  have f2 : decide (57343 < zm) = false := decide_eq_false (by omega)
                  have hm0 : 56320 ≤ zm := by omega
                  have hm1 : zm ≤ 57343 := by omega
                  clear hc hres hzm hzn
                  go_enter Tryd.func28, Tryd.ntmps28
                  go_wp2_with (go_at_call 34; (with_reducible refine hw3.mono ?_); rintro e w1 ⟨rfl, hA1, hk1⟩; have hc0 := hA1.c0; have hd1 := hA1.c1)
                  go_quiet (fail)
                  go_wp2_with (first
                    | (go_at_call 34; refine (HW5.out _ (hA1.drewN _)).mono ?_; rintro e w2 ⟨rfl, HL2, hA2, hk2⟩)
                    | (go_at_call 19; refine (fail_walk _ _ _).mono ?_; rintro e w3 ⟨rfl, rfl⟩))
                  go_ret
                  rw [← HR.out]
                  exact ⟨congrArg (fun x => Ending.returned (Value.int .i32 x)) (by have h1 := HN.out; have h2 := HM.out; omega), HL2.out.1, HL2.out.2, hA2, (keep_drewN hk1 _).trans hk2 (.inl rfl)⟩
            · rw [decide_eq_false hy117] at h117 hn117
              rw [if_neg (fun e => hy117 (by have := e.2; simpa using this))] at hres
              have HR := Aside0.mk hres
              clear hres hl hl2 hlen hbt1 hbt2 hzz hx92 hy117 hz1 ha hb hzn
              go_enter Tryd.func28, Tryd.ntmps28
              go_wp2_with (go_at_call 34; refine hw3.mono ?_; rintro e w1 ⟨rfl, hA1, hk1⟩; have hc0 := hA1.c0; have hd1 := hA1.c1)
              go_quiet (fail)
              go_wp2_with (go_at_call 19; refine (fail_walk _ _ _).mono ?_; rintro e w2 ⟨rfl, rfl⟩)
              rw [← HR.out]
              exact ⟨rfl, rfl, (hA1.drewN _).2.1⟩
          · rw [decide_eq_false hx92] at h92 hn92
            rw [if_neg (fun e => hx92 (by have := e.1; simpa using this))] at hres
            have HR := Aside0.mk hres
            clear hres hl hl2 hlen hbt1 hbt2 hzz hx92 hz1 ha hb hzn
            go_enter Tryd.func28, Tryd.ntmps28
            go_wp2_with (go_at_call 34; refine hw3.mono ?_; rintro e w1 ⟨rfl, hA1, hk1⟩; have hc0 := hA1.c0; have hd1 := hA1.c1)
            go_quiet (fail)
            go_wp2_with (go_at_call 19; refine (fail_walk _ _ _).mono ?_; rintro e w2 ⟨rfl, rfl⟩)
            rw [← HR.out]
            exact ⟨rfl, rfl, (hA1.drewN _).2.1⟩

end Go.Proofs.YtipbcdjnemdciaaDoor.Js
