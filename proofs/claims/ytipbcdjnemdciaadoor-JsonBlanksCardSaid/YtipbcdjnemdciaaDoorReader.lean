/- The reader as it lies in memory; its small steps walked: the fault, blanks, the byte that stands here. -/
import Derived.Test.YtipbcdjnemdciaaDoorParse
import Derived.Test.YtipbcdjnemdciaaDoorGlob
set_option linter.unusedVariables false
set_option linter.unusedSimpArgs false
namespace Go.Proofs.YtipbcdjnemdciaaDoor.Js
open Go.RowKit Go.Lib Go.Proofs.YtipbcdjnemdciaaDoor.PSh Go.Proofs.YtipbcdjnemdciaaDoorW.PrintWords Go.Proofs.YtipbcdjnemdciaaDoorW.PrintLast Go.Proofs.YtipbcdjnemdciaaDoorW.PrintMore

/-- The reader's block: the text, the place, the tree so far. -/
def At (w0 : World) (b : Nat) (s : ByteArray) (z : Int) (tv : Value) (w : World) : Prop :=
  w0.heap.size ≤ b ∧ Below w0.heap.size w0 w ∧ w.heap[b]? = some (.cells #[.string s, .int .i64 z, tv] 43 (0, 0))
section
variable {w0 w w' : World} {b : Nat} {s : ByteArray} {z : Int} {tv : Value}
theorem At.lt (h : At w0 b s z tv w) : b < w.heap.size := blk_lt h.2.2
theorem At.c0 (h : At w0 b s z tv w) : w.cell? ⟨b, 0, none⟩ = some (.string s) := blk_cell h.2.2 0
theorem At.c1 (h : At w0 b s z tv w) : w.cell? ⟨b, 1, none⟩ = some (.int .i64 z) := blk_cell h.2.2 1
theorem At.c2 (h : At w0 b s z tv w) : w.cell? ⟨b, 2, none⟩ = some tv := blk_cell h.2.2 2
theorem At.fr (h : At w0 b s z tv w) (i : Nat) : w.frozen? ⟨b, i, none⟩ = false := blk_frozen h.2.2 i
theorem At.below (h : At w0 b s z tv w) (hb : Below w.heap.size w w') : At w0 b s z tv w' := ⟨h.1, h.2.1.trans (hb.mono h.2.1.size), blk_below h.2.2 hb⟩
theorem At.drew (h : At w0 b s z tv w) : At w0 b s z tv w.drew := h.below (below_drew (Below.refl _ _))
theorem At.drewN (h : At w0 b s z tv w) (n : Nat) : At w0 b s z tv (w.drewN n) := h.below (pw_below_drewN (Below.refl _ _) n)
theorem At.alloc (h : At w0 b s z tv w) (o : Obj) : At w0 b s z tv (w.alloc o) := h.below (below_alloc (Below.refl _ _) o)
theorem At.set1 (h : At w0 b s z tv w) (z' : Int) : At w0 b s z' tv (w.setCell ⟨b, 1, none⟩ (.int .i64 z')) := ⟨h.1, h.2.1.setCell (by exact h.1) _, by rw [blk_set h.2.2]; rfl⟩
theorem At.set2 (h : At w0 b s z tv w) (v : Value) : At w0 b s z v (w.setCell ⟨b, 2, none⟩ v) := ⟨h.1, h.2.1.setCell (by exact h.1) _, by rw [blk_set h.2.2]; rfl⟩
end

/-- How a fault ends a call. -/
abbrev halted (p : Int) (e : Int) : Ending := .panicked [{ v := .iface 45 (.agg #[.int .i64 p, .int .i64 e]), recovered := false }]
theorem fail_walk (p e : Int) (w : World) : Calls Tryd.prog 19 #[.int .i64 p, .int .i64 e] w fun en w' => en = halted p e ∧ w' = w := by
  go_enter Tryd.func19, Tryd.ntmps19
  go_wp2
  exact ⟨rfl, rfl, rfl⟩

theorem drop_cons (l : List UInt8) (p : Nat) (hp : p < l.length) : l.drop p = l[p] :: l.drop (p + 1) := List.drop_eq_getElem_cons hp
/-- The byte at a place, as the walk spells it. -/
theorem bt_head {s : ByteArray} {p : Nat} {c : UInt8} {r : List UInt8} (h : s.data.toList.drop p = c :: r) : p < s.size ∧ bt s (p : Int) = c.toNat ∧ s.data.toList.drop (p + 1) = r := by
  have hlt : p < s.data.toList.length := by
    rcases Nat.lt_or_ge p s.data.toList.length with h1 | h1
    · exact h1
    · rw [List.drop_of_length_le h1] at h; cases h
  rw [drop_cons _ _ hlt] at h
  injection h with h1 h2
  have hs : p < s.size := by rw [← data_length s]; exact hlt
  refine ⟨hs, ?_, h2⟩
  unfold bt
  rw [dif_pos (by simpa using hs), ← h1]
  rfl
theorem drop_end {s : ByteArray} {p : Nat} (hp : p ≤ s.size) (h : s.data.toList.drop p = []) : p = s.size := by
  have := congrArg List.length h
  rw [List.length_drop, data_length] at this
  simp at this
  omega

theorem gap_cons (c : UInt8) (r : List UInt8) : gapLen (c :: r) = if blank c = true then gapLen r + 1 else 0 := rfl
theorem gap_le : ∀ l : List UInt8, gapLen l ≤ l.length
  | [] => Nat.le_refl _
  | c :: r => by
    rw [gap_cons]
    have := gap_le r
    split
    · rw [List.length_cons]; omega
    · omega
theorem byte_ne {c : UInt8} {n : Nat} (hn : n < 256) (h : ¬ c = UInt8.ofNat n) : ¬ c.toNat = n := fun e => h (UInt8.toNat.inj (by rw [e]; simp; omega))

set_option maxHeartbeats 2000000 in
set_option maxRecDepth 100000 in
theorem gap_walk (w0 w : World) (b : Nat) (s : ByteArray) (p : Nat) (tv : Value) (hA : At w0 b s (p : Int) tv w) (hp : p ≤ s.size) (hs : s.size ≤ 65536) :
    Calls Tryd.prog 18 #[.pointer (some ⟨b, 0, none⟩)] w fun e w' => e = .returned (.tuple #[]) ∧ At w0 b s ((p + gapLen (s.data.toList.drop p) : Nat) : Int) tv w' ∧ KeepBut w w' b none := by
  have hk0 := KeepBut.refl w b none
  go_enter Tryd.func18, Tryd.ntmps18
  go_wp2
  go_loopg [] (s.size - p) (fun kq wr => ∃ (q : Nat) (z : Int), Aside0 (z = q ∧ kq + q = s.size ∧ p + gapLen (s.data.toList.drop p) = q + gapLen (s.data.toList.drop q)) ∧ At w0 b s z tv wr ∧ KeepBut w wr b none)
  case atStart => exact ⟨p, (p : Int), ⟨rfl, by omega, rfl⟩, hA, hk0⟩
  case round =>
    clear hA hk0
    obtain ⟨q, z, HZ, hA, hk⟩ := hrel
    have hc0 := hA.c0
    have hc1 := hA.c1
    have hf1 := hA.fr 1
    obtain ⟨l, hl⟩ : ∃ l, s.data.toList.drop q = l := ⟨_, rfl⟩
    have p4 : (0 ≤ z) = True := eq_true (by have := HZ.out.1; omega)
    cases l with
    | nil =>
      have c2 : decide (z < (s.size : Int)) = false := decide_eq_false (by have h1 := HZ.out; have h2 := drop_end (by omega) hl; omega)
      have HL := Aside0.mk hl
      clear hl
      go_wp2
      repeat (go_quiet (fail); try go_wp2)
      go_end0
      refine ⟨rfl, ?_, keep_drewN hk _⟩
      have h1 := HZ.out
      rw [h1.2.2, HL.out, show ((q + gapLen [] : Nat) : Int) = z from by rw [h1.1]; rfl]
      exact hA.drewN _
    | cons c r =>
      obtain ⟨hlt, hbt, hr⟩ := bt_head hl
      have HR := Aside0.mk hr
      have hx := bt_at s z
      have q4 : (z < (s.size : Int)) = True := eq_true (by have := HZ.out.1; omega)
      have c2 : decide (z < (s.size : Int)) = true := decide_eq_true (by have := HZ.out.1; omega)
      have HL := Aside0.mk hl
      rw [← HZ.out.1] at hbt
      have hv0 : 0 ≤ bt s z ∧ bt s z < 256 := by have := c.toNat_lt; omega
      generalize bt s z = v at *
      have HB := Aside0.mk hbt
      clear hbt hl hr
      by_cases hbl : v = 32 ∨ v = 9 ∨ v = 10 ∨ v = 13
      · have hg : Aside0 (gapLen (c :: r) = gapLen r + 1) := ⟨by
          rw [gap_cons, if_pos]
          have h1 : c.toNat = 32 ∨ c.toNat = 9 ∨ c.toNat = 10 ∨ c.toNat = 13 := by have := HB.out; omega
          unfold blank
          simp only [Bool.or_eq_true, beq_iff_eq, ← UInt8.toNat_inj]
          rcases h1 with h1 | h1 | h1 | h1 <;> simp [h1]⟩
        have hgo : ∀ wr', At w0 b s (z + 1) tv wr' → KeepBut w wr' b none → ∃ (q : Nat) (z' : Int), Aside0 (z' = q ∧ gk - 1 + q = s.size ∧ p + gapLen (s.data.toList.drop p) = q + gapLen (s.data.toList.drop q)) ∧ At w0 b s z' tv wr' ∧ KeepBut w wr' b none := fun wr' h1 h2 =>
          ⟨q + 1, z + 1, ⟨by have := HZ.out.1; omega, by have := HZ.out; omega, by rw [HR.out, HZ.out.2.2, HL.out, hg.out]; omega⟩, h1, h2⟩
        have HGO := Aside0.mk hgo
        clear hgo
        have hz1 : 0 ≤ z := by have := HZ.out.1; omega
        have hz2 : z < 65536 := by have := HZ.out.1; omega
        rcases hbl with h | h | h | h
        · have e0 : (v == 32) = true := beq_iff_eq.2 h
          clear h
          go_wp2
          repeat (go_quiet (fail); try go_wp2)
          go_roundg (gk - 1)
          case measure => have := HZ.out; omega
          case rel => exact HGO.out _ ((hA.drewN _).set1 _) ((keep_drewN hk _).set_ _ _)
        · have e0 : (v == 32) = false := beq_eq_false_iff_ne.2 (by omega)
          have e1 : (v == 9) = true := beq_iff_eq.2 h
          clear h
          go_wp2
          repeat (go_quiet (fail); try go_wp2)
          go_roundg (gk - 1)
          case measure => have := HZ.out; omega
          case rel => exact HGO.out _ ((hA.drewN _).set1 _) ((keep_drewN hk _).set_ _ _)
        · have e0 : (v == 32) = false := beq_eq_false_iff_ne.2 (by omega)
          have e1 : (v == 9) = false := beq_eq_false_iff_ne.2 (by omega)
          have e2 : (v == 10) = true := beq_iff_eq.2 h
          clear h
          go_wp2
          repeat (go_quiet (fail); try go_wp2)
          go_roundg (gk - 1)
          case measure => have := HZ.out; omega
          case rel => exact HGO.out _ ((hA.drewN _).set1 _) ((keep_drewN hk _).set_ _ _)
        · have e0 : (v == 32) = false := beq_eq_false_iff_ne.2 (by omega)
          have e1 : (v == 9) = false := beq_eq_false_iff_ne.2 (by omega)
          have e2 : (v == 10) = false := beq_eq_false_iff_ne.2 (by omega)
          have e3 : (v == 13) = true := beq_iff_eq.2 h
          clear h
          go_wp2
          repeat (go_quiet (fail); try go_wp2)
          go_roundg (gk - 1)
          case measure => have := HZ.out; omega
          case rel => exact HGO.out _ ((hA.drewN _).set1 _) ((keep_drewN hk _).set_ _ _)
      · have hg : Aside0 (gapLen (c :: r) = 0) := ⟨by
          rw [gap_cons, if_neg]
          have h1 : ¬ (c.toNat = 32 ∨ c.toNat = 9 ∨ c.toNat = 10 ∨ c.toNat = 13) := by have := HB.out; omega
          unfold blank
          simp only [Bool.or_eq_true, beq_iff_eq, ← UInt8.toNat_inj]
          intro h2
          apply h1
          rcases h2 with ((h2 | h2) | h2) | h2 <;> simp at h2 <;> simp [h2]⟩
        have e0 : (v == 32) = false := beq_eq_false_iff_ne.2 (by omega)
        have e1 : (v == 9) = false := beq_eq_false_iff_ne.2 (by omega)
        have e2 : (v == 10) = false := beq_eq_false_iff_ne.2 (by omega)
        have e3 : (v == 13) = false := beq_eq_false_iff_ne.2 (by omega)
        clear hbl
        go_wp2
        repeat (go_quiet (fail); try go_wp2)
        go_end0
        refine ⟨rfl, ?_, keep_drewN hk _⟩
        have h1 := HZ.out
        rw [h1.2.2, HL.out, hg.out, show ((q + 0 : Nat) : Int) = z from by rw [h1.1]; rfl]
        exact hA.drewN _

end Go.Proofs.YtipbcdjnemdciaaDoor.Js
