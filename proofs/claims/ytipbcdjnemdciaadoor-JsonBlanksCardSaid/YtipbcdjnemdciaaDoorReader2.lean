/- The reader's next steps walked: the byte behind blanks, a word, what follows a kid. -/
import Derived.Test.YtipbcdjnemdciaaDoorReader
set_option linter.unusedVariables false
set_option linter.unusedSimpArgs false
namespace Go.Proofs.YtipbcdjnemdciaaDoor.Js
open Go.RowKit Go.Lib Go.Proofs.YtipbcdjnemdciaaDoor.PSh Go.Proofs.YtipbcdjnemdciaaDoorW.PrintWords Go.Proofs.YtipbcdjnemdciaaDoorW.PrintLast Go.Proofs.YtipbcdjnemdciaaDoorW.PrintMore

/-- How a call that moves the reader alone ends. -/
def Ret {α : Type} (w0 : World) (b : Nat) (s : ByteArray) (tv : Value) (w : World) (r : R α) (enc : α → Value) : Ending → World → Prop := fun e w' => match r with
  | .ok l' p' v => e = .returned (enc v) ∧ l' = s.data.toList.drop p' ∧ p' ≤ s.size ∧ At w0 b s (p' : Int) tv w' ∧ KeepBut w w' b none
  | .no pp ee => e = halted (pp : Int) ee ∧ Below w0.heap.size w0 w'

set_option maxHeartbeats 2000000 in
set_option maxRecDepth 100000 in
theorem here_walk (w0 w : World) (b : Nat) (s : ByteArray) (p : Nat) (tv : Value) (hA : At w0 b s (p : Int) tv w) (hp : p ≤ s.size) (hs : s.size ≤ 65536) :
    Calls Tryd.prog 20 #[.pointer (some ⟨b, 0, none⟩)] w (Ret w0 b s tv w (here (s.data.toList.drop p) p) (fun c => .int .u8 (c.toNat : Int))) := by
  have hgl := gap_le (s.data.toList.drop p)
  rw [List.length_drop, data_length] at hgl
  have hq0 : p + gapLen (s.data.toList.drop p) ≤ s.size := by omega
  have hgw := gap_walk w0 w b s p tv hA hp hs
  unfold here
  rw [List.drop_drop]
  generalize p + gapLen (s.data.toList.drop p) = q at *
  obtain ⟨l, hl⟩ : ∃ l, s.data.toList.drop q = l := ⟨_, rfl⟩
  rw [hl]
  obtain ⟨z, hz⟩ : ∃ z : Int, z = q := ⟨_, rfl⟩
  rw [← hz] at hgw
  cases l with
  | nil =>
    have c2 : decide ((s.size : Int) ≤ z) = true := decide_eq_true (by have h2 := drop_end (by omega) hl; omega)
    show Calls _ _ _ _ fun e w' => e = halted (q : Int) 21 ∧ Below w0.heap.size w0 w'
    rw [← hz]
    clear hl hz
    go_enter Tryd.func20, Tryd.ntmps20
    go_wp2_with (go_at_call 18; refine hgw.mono ?_; rintro e w1 ⟨rfl, hA1, hk1⟩; have hc0 := hA1.c0; have hc1 := hA1.c1)
    go_quiet (fail)
    go_wp2_with (go_at_call 19; refine (fail_walk _ _ _).mono ?_; rintro e w2 ⟨rfl, rfl⟩)
    exact ⟨rfl, rfl, (hA1.drewN _).2.1⟩
  | cons c r =>
    obtain ⟨hlt, hbt, hr⟩ := bt_head hl
    have c2 : decide ((s.size : Int) ≤ z) = false := decide_eq_false (by omega)
    have p4 : (0 ≤ z) = True := eq_true (by omega)
    have q4 : (z < (s.size : Int)) = True := eq_true (by omega)
    have hx := bt_at s z
    show Calls _ _ _ _ fun e w' => e = .returned (.int .u8 (c.toNat : Int)) ∧ c :: r = s.data.toList.drop q ∧ q ≤ s.size ∧ At w0 b s (q : Int) tv w' ∧ KeepBut w w' b none
    rw [← hz] at hbt ⊢
    have HB := Aside0.mk hbt
    have HL := Aside0.mk hl
    clear hl hz hbt hr
    go_enter Tryd.func20, Tryd.ntmps20
    go_wp2_with (go_at_call 18; refine hgw.mono ?_; rintro e w1 ⟨rfl, hA1, hk1⟩; have hc0 := hA1.c0; have hc1 := hA1.c1)
    go_quiet (fail)
    go_wp2
    go_quiet (fail)
    go_wp2
    go_ret
    exact ⟨by rw [HB.out]; rfl, HL.out.symm, hq0, (hA1.drewN _).drewN _, hk1⟩

theorem word_nil (l : List UInt8) (p : Nat) : word [] l p = .ok l p () := rfl
theorem word_end (c : UInt8) (v : List UInt8) (p : Nat) : word (c :: v) [] p = .no p 21 := rfl
theorem word_cons (c x : UInt8) (v l : List UInt8) (p : Nat) : word (c :: v) (x :: l) p = if x = c then word v l (p + 1) else .no p 22 := rfl
theorem byte_eq (a b : UInt8) : ((a.toNat : Int) == (b.toNat : Int)) = decide (a = b) := by
  rw [Bool.eq_iff_iff, beq_iff_eq, decide_eq_true_iff]
  constructor
  · intro h; exact UInt8.toNat.inj (by omega)
  · intro h; rw [h]
theorem tuple_ret : Ending.returned (Value.tuple #[]) = .returned ((fun _ : Unit => Value.tuple #[]) ()) := rfl

set_option maxHeartbeats 2000000 in
set_option maxRecDepth 100000 in
theorem word_walk (w0 w : World) (b : Nat) (s v : ByteArray) (p : Nat) (tv : Value) (hA : At w0 b s (p : Int) tv w) (hp : p ≤ s.size) (hs : s.size ≤ 65536) (hv : v.size ≤ 65536) :
    Calls Tryd.prog 21 #[.pointer (some ⟨b, 0, none⟩), .string v] w (Ret w0 b s tv w (word v.data.toList (s.data.toList.drop p) p) (fun _ => .tuple #[])) := by
  obtain ⟨res, hres⟩ : ∃ r, word v.data.toList (s.data.toList.drop p) p = r := ⟨_, rfl⟩
  rw [hres]
  have HRes := Aside0.mk hres
  clear hres
  have hk0 := KeepBut.refl w b none
  go_enter Tryd.func21, Tryd.ntmps21
  go_wp2
  go_loopw [7, 4] (fun k7 k4 wr => ∃ (k : Nat) (zk z : Int), Aside0 (zk = k ∧ z = ((p + k : Nat) : Int) ∧ k ≤ v.size ∧ p + k ≤ s.size ∧ word (v.data.toList.drop k) (s.data.toList.drop (p + k)) (p + k) = res) ∧ k7 = .int .i64 zk ∧ 0 ≤ zk ∧ zk ≤ 65536 ∧ At w0 b s z tv wr ∧ KeepBut w wr b none) (fun k7 _ _ => v.size - (RowKit.intOf k7).toNat)
  case atStart => exact ⟨0, 0, (p : Int), ⟨rfl, rfl, Nat.zero_le _, hp, HRes.out⟩, rfl, by omega, by omega, hA, hk0⟩
  case round =>
    clear hA hk0 HRes
    obtain ⟨k, zk, z, HZ, rfl, hzk0, hzk1, hA, hk⟩ := hrel
    have hc0 := hA.c0
    have hc1 := hA.c1
    have hf1 := hA.fr 1
    obtain ⟨l, hl⟩ : ∃ l, s.data.toList.drop (p + k) = l := ⟨_, rfl⟩
    obtain ⟨u, hu⟩ : ∃ u, v.data.toList.drop k = u := ⟨_, rfl⟩
    have hw := HZ.out.2.2.2.2
    rw [hl, hu] at hw
    have HW := Aside0.mk hw
    clear hw
    have p4 : (0 ≤ z) = True := eq_true (by have := HZ.out.2.1; omega)
    cases u with
    | nil =>
      have c2 : decide (zk < (v.size : Int)) = false := decide_eq_false (by have h1 := HZ.out; have h2 := drop_end (by omega) hu; omega)
      have HL := Aside0.mk hl
      clear hl hu
      go_wp2
      go_end0
      have h1 := HW.out
      rw [word_nil] at h1
      rw [← h1]
      exact ⟨rfl, HL.out.symm, HZ.out.2.2.2.1, by rw [← HZ.out.2.1]; exact hA, hk⟩
    | cons c u =>
      obtain ⟨hltv, hbtv, hu1⟩ := bt_head hu
      have c2 : decide (zk < (v.size : Int)) = true := decide_eq_true (by have h1 := HZ.out; omega)
      have p5 : (0 ≤ zk) = True := eq_true hzk0
      have q5 : (zk < (v.size : Int)) = True := of_decide_eq_true c2 |> eq_true
      cases l with
      | nil =>
        have c3 : decide ((s.size : Int) ≤ z) = true := decide_eq_true (by have h1 := HZ.out; have h2 := drop_end (by omega) hl; omega)
        clear hl hu hbtv hu1
        go_wp2
        go_quiet (fail)
        go_wp2_with (go_at_call 19; refine (fail_walk _ _ _).mono ?_; rintro e w2 ⟨rfl, rfl⟩)
        have h1 := HW.out
        rw [word_end] at h1
        rw [← h1]
        exact ⟨rfl, by rw [← HZ.out.2.1], (hA.drewN _).2.1⟩
      | cons x l =>
        obtain ⟨hlt, hbt, hl1⟩ := bt_head hl
        have c3 : decide ((s.size : Int) ≤ z) = false := decide_eq_false (by have h1 := HZ.out; omega)
        have q4 : (z < (s.size : Int)) = True := eq_true (by have h1 := HZ.out; omega)
        have hx := bt_at s z
        have hy := bt_at v zk
        rw [← HZ.out.2.1] at hbt
        rw [← HZ.out.1] at hbtv
        by_cases he : x = c
        · have e1 : (bt s z == bt v zk) = true := by rw [hbt, hbtv, byte_eq, decide_eq_true he]
          have e2 : (bt s z != bt v zk) = false := by rw [bne, e1]; rfl
          have HN := Aside0.mk (And.intro hl1 hu1)
          have HE := Aside0.mk he
          have hzk2 : zk < (v.size : Int) := by have := HZ.out.1; omega
          have hz1 : 0 ≤ z := by have := HZ.out.2.1; omega
          have hz2 : z < 65536 := by have := HZ.out.2.1; omega
          clear hl hu hbt hbtv hl1 hu1 he
          go_wp2
          go_quiet (fail)
          go_wp2
          go_quiet (fail)
          go_wp2
          go_roundw
          case rel =>
            have h1 := HW.out
            rw [word_cons, if_pos HE.out] at h1
            exact ⟨k + 1, zk + 1, z + 1, ⟨by have := HZ.out.1; omega, by have := HZ.out.2.1; omega, hltv, hlt, by rw [← Nat.add_assoc, HN.out.1, HN.out.2]; exact h1⟩, rfl, by omega, by omega, (hA.drewN _).set1 _, (keep_drewN hk _).set_ _ _⟩
          case measure => simp [RowKit.intOf]; omega
        · have e1 : (bt s z == bt v zk) = false := by rw [hbt, hbtv, byte_eq, decide_eq_false he]
          have e2 : (bt s z != bt v zk) = true := by rw [bne, e1]; rfl
          have HE := Aside0.mk he
          clear hl hu hbt hbtv hl1 hu1 he
          go_wp2
          go_quiet (fail)
          go_wp2
          go_quiet (fail)
          go_wp2_with (go_at_call 19; refine (fail_walk _ _ _).mono ?_; rintro e w2 ⟨rfl, rfl⟩)
          have h1 := HW.out
          rw [word_cons, if_neg HE.out] at h1
          rw [← h1]
          exact ⟨rfl, by rw [← HZ.out.2.1], (hA.drewN _).2.1⟩

end Go.Proofs.YtipbcdjnemdciaaDoor.Js
