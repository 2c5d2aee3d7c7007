/- YtldlkoncndlbhaaDoorZSb9: texts of the seat (Reader6, ShelfJ, NumParse), one behind the other, without what this claim's theorem does not rest on. -/
import Derived.Test.YtldlkoncndlbhaaDoorZSb8
import Derived.Test.YtldlkoncndlbhaaDoorProg
import Derived.WalkKit
import Derived.KernelRfl
import Derived.WalkLawsBesides
import Derived.WalkSpells
import Derived.Deep.LoopGhost
import Derived.Deep.DeepCutAuto
import Derived.Deep.CutBlock
import Derived.Lib.ConvBytes
import Derived.Lib.IndexBytes

set_option linter.unusedVariables false
set_option linter.unusedSimpArgs false
namespace Go.Proofs.YtldlkoncndlbhaaDoor.Js
open Go.RowKit Go.Lib Go.Proofs.YtldlkoncndlbhaaDoor.PSh Go.Proofs.YtldlkoncndlbhaaDoorW.PrintWords Go.Proofs.YtldlkoncndlbhaaDoorW.PrintLast Go.Proofs.YtldlkoncndlbhaaDoorW.PrintMore
theorem digit_lt (c : UInt8) (d : Nat) (h : digit c = some d) : d < 16 := by
  unfold digit at h
  split at h
  · cases h; omega
  · split at h
    · cases h; omega
    · split at h
      · cases h; omega
      · cases h
theorem hex_lt : ∀ (k : Nat) (l : List UInt8) (p fr n : Nat) (l' : List UInt8) (p' m : Nat), hex k l p fr n = .ok l' p' m → m < (n + 1) * 16 ^ k
  | 0, l, p, fr, n, l', p', m, h => by
    rw [hex_zero] at h
    cases h
    simp
  | k + 1, [], p, fr, n, l', p', m, h => by
    rw [hex_end] at h
    cases h
  | k + 1, c :: r, p, fr, n, l', p', m, h => by
    cases hd : digit c with
    | none => rw [hex_bad _ _ _ _ _ _ hd] at h; cases h
    | some d =>
      rw [hex_good _ _ _ _ _ _ _ hd] at h
      have h1 := hex_lt k r (p + 1) fr (16 * n + d) l' p' m h
      have h2 := digit_lt c d hd
      have h3 : (16 * n + d + 1) * 16 ^ k ≤ (16 * (n + 1)) * 16 ^ k := Nat.mul_le_mul_right _ (by omega)
      have h4 : (n + 1) * 16 ^ (k + 1) = 16 * (n + 1) * 16 ^ k := by rw [Nat.pow_succ]; simp [Nat.mul_comm, Nat.mul_left_comm, Nat.mul_assoc]
      omega
theorem mark_lt (c : UInt8) (n : Nat) (h : mark c = some n) : n < 256 := by
  have hc := c.toNat_lt
  unfold mark at h
  repeat' split at h
  all_goals first | (cases h; omega) | cases h
theorem half_lt (l : List UInt8) (p fr : Nat) (l' : List UInt8) (p' m : Nat) (h : half l p fr = .ok l' p' m) : m < 65536 := by
  match l, h with
  | [], h => cases h
  | [_], h => cases h
  | x :: c :: r, h =>
    cases hm : mark c with
    | some n =>
      rw [half_two _ _ _ _ _ _ hm] at h
      cases h
      have := mark_lt c _ hm
      omega
    | none =>
      rw [half_none _ _ _ _ _ hm] at h
      split at h
      · exact hex_lt 4 _ _ _ _ _ _ _ h
      · cases h
set_option maxHeartbeats 16000000 in
set_option maxRecDepth 100000 in
theorem escape_walk (w0 w : World) (b : Nat) (s : ByteArray) (p : Nat) (tv : Value) (hA : At w0 b s (p : Int) tv w) (hp : p ≤ s.size) (hs : s.size ≤ 65536) :
    Calls Tryd.prog 56 #[.pointer (some ⟨b, 0, none⟩)] w (Ret w0 b s tv w (escape (s.data.toList.drop p) p) (fun n => .int .i32 (n : Int))) := by
  obtain ⟨res, hres⟩ : ∃ r, escape (s.data.toList.drop p) p = r := ⟨_, rfl⟩
  rw [hres]
  have hw1 := half_walk w0 w b s p p tv hA hp hs
  have hlt := half_lt (s.data.toList.drop p) p p
  unfold escape at hres
  have hc1 := hA.c1
  generalize half (s.data.toList.drop p) p p = r1 at *
  have hstart : True := trivial
  cases r1 with
  | no pp ee =>
    have HR := Aside0.mk (show R.no pp ee = res from hres)
    have hw2 : Calls Tryd.prog 62 #[.pointer (some ⟨b, 0, none⟩), .int .i64 (p : Int)] w fun e w' => e = halted (pp : Int) ee ∧ Below w0.heap.size w0 w' := hw1
    clear hw1 hres hlt
    go_enter Tryd.func56, Tryd.ntmps56
    go_wp2_with (go_at_call 62; refine hw2.mono ?_; rintro e w1 ⟨rfl, hB1⟩)
    rw [← HR.out]
    exact ⟨rfl, rfl, hB1⟩
  | ok l1 p1 n =>
    have hn := hlt l1 p1 n rfl
    clear hlt
    obtain ⟨zn, hzn⟩ : ∃ z : Int, z = n := ⟨_, rfl⟩
    have hw2 : Calls Tryd.prog 62 #[.pointer (some ⟨b, 0, none⟩), .int .i64 (p : Int)] w fun e w' => e = .returned (.int .i32 (n : Int)) ∧ l1 = s.data.toList.drop p1 ∧ p1 ≤ s.size ∧ At w0 b s (p1 : Int) tv w' ∧ KeepBut w w' b none := hw1
    clear hw1
    rw [← hzn] at hw2
    have hzn0 : 0 ≤ zn := by omega
    have hzn1 : zn < 65536 := by omega
    rw [R.bind_ok] at hres
    by_cases ha : 56320 ≤ n ∧ n ≤ 57343
    · rw [if_pos ha] at hres
      have HR := Aside0.mk hres
      have e1 : decide (56320 ≤ zn) = true := decide_eq_true (by omega)
      have e2 : decide (zn ≤ 57343) = true := decide_eq_true (by omega)
      clear ha hres hzn
      go_enter Tryd.func56, Tryd.ntmps56
      go_wp2_with (first
        | (go_at_call 62; refine hw2.mono ?_; rintro e w1 ⟨rfl, hl1, hq1, hA1, hk1⟩)
        | (go_at_call 35; refine (fail_walk _ _ _).mono ?_; rintro e w2 ⟨rfl, rfl⟩))
      rw [← HR.out]
      exact ⟨rfl, rfl, hA1.2.1⟩
    · rw [if_neg ha] at hres
      by_cases hb : n < 55296 ∨ 56319 < n
      · rw [if_pos hb] at hres
        have HR := Aside0.mk hres
        have HN := Aside0.mk hzn
        rcases hb with hb | hb
        · have e1 : decide (56320 ≤ zn) = false := decide_eq_false (by omega)
          have e2 : decide (zn < 55296) = true := decide_eq_true (by omega)
          clear ha hb hres hzn
          go_enter Tryd.func56, Tryd.ntmps56
          go_wp2_with (go_at_call 62; refine hw2.mono ?_; rintro e w1 ⟨rfl, hl1, hq1, hA1, hk1⟩; have HL := Aside0.mk hl1; clear hl1)
          go_ret
          rw [← HR.out]
          exact ⟨congrArg (fun x => Ending.returned (Value.int .i32 x)) HN.out, HL.out, hq1, hA1, hk1⟩
        · have e1 : decide (56320 ≤ zn) = true := decide_eq_true (by omega)
          have e2 : decide (zn < 55296) = false := decide_eq_false (by omega)
          have e3 : decide (zn ≤ 57343) = false := decide_eq_false (by omega)
          have e4 : decide (56319 < zn) = true := decide_eq_true (by omega)
          clear ha hb hres hzn
          go_enter Tryd.func56, Tryd.ntmps56
          go_wp2_with (go_at_call 62; refine hw2.mono ?_; rintro e w1 ⟨rfl, hl1, hq1, hA1, hk1⟩; have HL := Aside0.mk hl1; clear hl1)
          go_ret
          rw [← HR.out]
          exact ⟨congrArg (fun x => Ending.returned (Value.int .i32 x)) HN.out, HL.out, hq1, hA1, hk1⟩
      · rw [if_neg hb] at hres
        have e1 : decide (56320 ≤ zn) = false := decide_eq_false (by omega)
        have e2 : decide (zn < 55296) = false := decide_eq_false (by omega)
        have e4 : decide (56319 < zn) = false := decide_eq_false (by omega)
        have hb0 : 55296 ≤ zn := by omega
        have hb1 : zn ≤ 56319 := by omega
        obtain ⟨z1, hz1⟩ : ∃ z : Int, z = p1 := ⟨_, rfl⟩
        have hz10 : 0 ≤ z1 := by omega
        have p4 : (0 ≤ z1) = True := eq_true hz10
        have p5 : (0 ≤ z1 + 1) = True := eq_true (by omega)
        by_cases hq1 : p1 ≤ s.size
        rotate_left
        · have HQ := Aside0.mk hq1
          clear hres ha hb hzn hz1 hq1
          go_enter Tryd.func56, Tryd.ntmps56
          go_wp2_with (go_at_call 62; refine hw2.mono ?_; rintro e w1 ⟨rfl, hl1, hq1, hA1, hk1⟩; exact absurd hq1 HQ.out)
        have hz12 : z1 ≤ 65536 := by omega
        by_cases hl1 : l1 = s.data.toList.drop p1
        rotate_left
        · have HQ := Aside0.mk hl1
          clear hres ha hb hzn hz1 hl1
          go_enter Tryd.func56, Tryd.ntmps56
          go_wp2_with (go_at_call 62; refine hw2.mono ?_; rintro e w1 ⟨rfl, hl1, hq1, hA1, hk1⟩; exact absurd hl1 HQ.out)
        have hlen : l1.length = s.size - p1 := by rw [hl1, List.length_drop, data_length]
        have hw3 : Calls Tryd.prog 62 #[.pointer (some ⟨b, 0, none⟩), .int .i64 (p : Int)] w fun e w' => e = .returned (.int .i32 zn) ∧ At w0 b s z1 tv w' ∧ KeepBut w w' b none := hw2.mono fun e w' h => ⟨h.1, h.2.2.2.1.cast hz1.symm, h.2.2.2.2⟩
        clear hw2
        have hl := hl1.symm
        clear hl1
        match l1, hres, hl, hlen with
        | [], hres, hl, hlen =>
          rw [if_neg (by simp)] at hres
          have HR := Aside0.mk hres
          have c2 : decide ((s.size : Int) ≤ z1 + 1) = true := decide_eq_true (by simp at hlen; omega)
          clear hres hl hlen hzn hz1 ha hb hq1
          go_enter Tryd.func56, Tryd.ntmps56
          go_wp2_with (go_at_call 62; refine hw3.mono ?_; rintro e w1 ⟨rfl, hA1, hk1⟩; have hc0 := hA1.c0; have hd1 := hA1.c1)
          go_quiet (fail)
          go_wp2_with (go_at_call 35; refine (fail_walk _ _ _).mono ?_; rintro e w2 ⟨rfl, rfl⟩)
          rw [← HR.out]
          exact ⟨rfl, rfl, (hA1.drewN _).2.1⟩
        | [x], hres, hl, hlen =>
          rw [if_neg (by simp)] at hres
          have HR := Aside0.mk hres
          have c2 : decide ((s.size : Int) ≤ z1 + 1) = true := decide_eq_true (by simp at hlen; omega)
          clear hres hl hlen hzn hz1 ha hb hq1
          go_enter Tryd.func56, Tryd.ntmps56
          go_wp2_with (go_at_call 62; refine hw3.mono ?_; rintro e w1 ⟨rfl, hA1, hk1⟩; have hc0 := hA1.c0; have hd1 := hA1.c1)
          go_quiet (fail)
          go_wp2_with (go_at_call 35; refine (fail_walk _ _ _).mono ?_; rintro e w2 ⟨rfl, rfl⟩)
          rw [← HR.out]
          exact ⟨rfl, rfl, (hA1.drewN _).2.1⟩
        | x :: y :: r, hres, hl, hlen =>
          have hl2 : s.data.toList.drop (p1 + 1) = y :: r := (bt_head hl).2.2
          obtain ⟨hlt1, hbt1, _⟩ := bt_head hl
          obtain ⟨hlt2, hbt2, _⟩ := bt_head hl2
          have hzz : z1 + 1 = ((p1 + 1 : Nat) : Int) := by omega
          rw [← hz1] at hbt1
          rw [← hzz] at hbt2
          have c2 : decide ((s.size : Int) ≤ z1 + 1) = false := decide_eq_false (by omega)
          have q4 : (z1 < (s.size : Int)) = True := eq_true (by omega)
          have q5 : (z1 + 1 < (s.size : Int)) = True := eq_true (by omega)
          have hx := bt_at s z1
          have hy := bt_at s (z1 + 1)
          have h92 : (bt s z1 == 92) = decide (x = 92) := by rw [hbt1]; exact byte_eq x 92
          have h117 : (bt s (z1 + 1) == 117) = decide (y = 117) := by rw [hbt2]; exact byte_eq y 117
          have hn92 : (bt s z1 != 92) = !decide (x = 92) := by rw [bne, h92]
          have hn117 : (bt s (z1 + 1) != 117) = !decide (y = 117) := by rw [bne, h117]
          by_cases hx92 : x = 92
          · rw [decide_eq_true hx92] at h92 hn92
            by_cases hy117 : y = 117
            · rw [decide_eq_true hy117] at h117 hn117
              rw [if_pos ⟨by rw [hx92]; rfl, by rw [hy117]; rfl⟩] at hres
              have hw4 := fun (w' : World) (h : At w0 b s z1 tv w') => half_walk w0 w' b s p1 p tv (h.cast hz1) hq1 hs
              rw [hl] at hw4
              have hlt4 := half_lt (x :: y :: r) p1 p
              generalize half (x :: y :: r) p1 p = r4 at *
              have HW4 := Aside0.mk hw4
              have HN := Aside0.mk hzn
              clear hw4 hl hl2 hlen hbt1 hbt2 hzz hx92 hy117 hz1 ha hb
              cases r4 with
              | no pp ee =>
                have HR := Aside0.mk (show R.no pp ee = res from hres)
                clear hres hlt4 hzn
                go_enter Tryd.func56, Tryd.ntmps56
                go_wp2_with (go_at_call 62; (with_reducible refine hw3.mono ?_); rintro e w1 ⟨rfl, hA1, hk1⟩; have hc0 := hA1.c0; have hd1 := hA1.c1)
                go_quiet (fail)
                go_wp2_with (go_at_call 62; refine (HW4.out _ (hA1.drewN _)).mono ?_; rintro e w2 ⟨rfl, hB2⟩)
                rw [← HR.out]
                exact ⟨rfl, rfl, hB2⟩
              | ok l4 p4 m =>
                have hm := hlt4 l4 p4 m rfl
                rw [R.bind_ok] at hres
                obtain ⟨zm, hzm⟩ : ∃ z : Int, z = m := ⟨_, rfl⟩
                have hzm0 : 0 ≤ zm := by omega
                have hzm1 : zm < 65536 := by omega
                have hw5 : ∀ w', At w0 b s z1 tv w' → Calls Tryd.prog 62 #[.pointer (some ⟨b, 0, none⟩), .int .i64 (p : Int)] w' fun e w'' => e = .returned (.int .i32 zm) ∧ Aside0 (l4 = s.data.toList.drop p4 ∧ p4 ≤ s.size) ∧ At w0 b s (p4 : Int) tv w'' ∧ KeepBut w' w'' b none := fun w' h => (HW4.out w' h).mono fun e w'' h => ⟨h.1.trans (by rw [hzm]), ⟨h.2.1, h.2.2.1⟩, h.2.2.2.1, h.2.2.2.2⟩
                have HW5 := Aside0.mk hw5
                have HM := Aside0.mk hzm
                clear hw5 hlt4
                by_cases hc : m < 56320 ∨ 57343 < m
                · rw [if_pos hc] at hres
                  have HR := Aside0.mk hres
                  rcases hc with hc | hc
                  · have f1 : decide (zm < 56320) = true := decide_eq_true (by omega)
                    clear hc hres hzm hzn
                    go_enter Tryd.func56, Tryd.ntmps56
                    go_wp2_with (go_at_call 62; (with_reducible refine hw3.mono ?_); rintro e w1 ⟨rfl, hA1, hk1⟩; have hc0 := hA1.c0; have hd1 := hA1.c1)
                    go_quiet (fail)
                    go_wp2_with (first
                      | (go_at_call 62; refine (HW5.out _ (hA1.drewN _)).mono ?_; rintro e w2 ⟨rfl, HL2, hA2, hk2⟩)
                      | (go_at_call 35; refine (fail_walk _ _ _).mono ?_; rintro e w3 ⟨rfl, rfl⟩))
                    rw [← HR.out]
                    exact ⟨rfl, rfl, hA2.2.1⟩
                  · have f1 : decide (zm < 56320) = false := decide_eq_false (by omega)
                    have f2 : decide (57343 < zm) = true := decide_eq_true (by omega)
                    clear hc hres hzm hzn
                    go_enter Tryd.func56, Tryd.ntmps56
                    go_wp2_with (go_at_call 62; (with_reducible refine hw3.mono ?_); rintro e w1 ⟨rfl, hA1, hk1⟩; have hc0 := hA1.c0; have hd1 := hA1.c1)
                    go_quiet (fail)
                    go_wp2_with (first
                      | (go_at_call 62; refine (HW5.out _ (hA1.drewN _)).mono ?_; rintro e w2 ⟨rfl, HL2, hA2, hk2⟩)
                      | (go_at_call 35; refine (fail_walk _ _ _).mono ?_; rintro e w3 ⟨rfl, rfl⟩))
                    rw [← HR.out]
                    exact ⟨rfl, rfl, hA2.2.1⟩
                · rw [if_neg hc] at hres
                  have HR := Aside0.mk hres
                  have f1 : decide (zm < 56320) = false := decide_eq_false (by omega)
                  have f2 : decide (57343 < zm) = false := decide_eq_false (by omega)
                  have hm0 : 56320 ≤ zm := by omega
                  have hm1 : zm ≤ 57343 := by omega
                  clear hc hres hzm hzn
                  go_enter Tryd.func56, Tryd.ntmps56
                  go_wp2_with (go_at_call 62; (with_reducible refine hw3.mono ?_); rintro e w1 ⟨rfl, hA1, hk1⟩; have hc0 := hA1.c0; have hd1 := hA1.c1)
                  go_quiet (fail)
                  go_wp2_with (first
                    | (go_at_call 62; refine (HW5.out _ (hA1.drewN _)).mono ?_; rintro e w2 ⟨rfl, HL2, hA2, hk2⟩)
                    | (go_at_call 35; refine (fail_walk _ _ _).mono ?_; rintro e w3 ⟨rfl, rfl⟩))
                  go_ret
                  rw [← HR.out]
                  exact ⟨congrArg (fun x => Ending.returned (Value.int .i32 x)) (by have h1 := HN.out; have h2 := HM.out; omega), HL2.out.1, HL2.out.2, hA2, (keep_drewN hk1 _).trans hk2 (.inl rfl)⟩
            · rw [decide_eq_false hy117] at h117 hn117
              rw [if_neg (fun e => hy117 (by have := e.2; simpa using this))] at hres
              have HR := Aside0.mk hres
              clear hres hl hl2 hlen hbt1 hbt2 hzz hx92 hy117 hz1 ha hb hzn
              go_enter Tryd.func56, Tryd.ntmps56
              go_wp2_with (go_at_call 62; refine hw3.mono ?_; rintro e w1 ⟨rfl, hA1, hk1⟩; have hc0 := hA1.c0; have hd1 := hA1.c1)
              go_quiet (fail)
              go_wp2_with (go_at_call 35; refine (fail_walk _ _ _).mono ?_; rintro e w2 ⟨rfl, rfl⟩)
              rw [← HR.out]
              exact ⟨rfl, rfl, (hA1.drewN _).2.1⟩
          · rw [decide_eq_false hx92] at h92 hn92
            rw [if_neg (fun e => hx92 (by have := e.1; simpa using this))] at hres
            have HR := Aside0.mk hres
            clear hres hl hl2 hlen hbt1 hbt2 hzz hx92 hz1 ha hb hzn
            go_enter Tryd.func56, Tryd.ntmps56
            go_wp2_with (go_at_call 62; refine hw3.mono ?_; rintro e w1 ⟨rfl, hA1, hk1⟩; have hc0 := hA1.c0; have hd1 := hA1.c1)
            go_quiet (fail)
            go_wp2_with (go_at_call 35; refine (fail_walk _ _ _).mono ?_; rintro e w2 ⟨rfl, rfl⟩)
            rw [← HR.out]
            exact ⟨rfl, rfl, (hA1.drewN _).2.1⟩
end Go.Proofs.YtldlkoncndlbhaaDoor.Js
/- The shelf of the texts over json.Parse: the seat has one shelf. -/
namespace Go.Proofs.YtldlkoncndlbhaaDoor.Np
open Go.RowKit Go.Proofs.YtldlkoncndlbhaaDoorW.PrintWords
/-- What the tables and sentinels hold that Itoa and Atoi read. -/
def GlobN (w : World) : Prop := Lib.TabIs Tryd.prog w "internal/strconv.uint64pow10" .u64 Lib.pow10Tab ∧ (∃ tp p, w.var? Tryd.prog "strconv.ErrSyntax" = some #[.iface tp p]) ∧ (∃ tp p, w.var? Tryd.prog "strconv.ErrRange" = some #[.iface tp p])
theorem g_pow : Tryd.prog.globalNamed "internal/strconv.uint64pow10" = some 2 := by kernel_rfl
theorem g_syntax : Tryd.prog.globalNamed "strconv.ErrSyntax" = some 3 := by kernel_rfl
theorem g_range : Tryd.prog.globalNamed "strconv.ErrRange" = some 4 := by kernel_rfl
theorem var_below {n : String} {g : Nat} {cs : Array Value} {w w' : World} (hb : Below w.heap.size w w') (hg : Tryd.prog.globalNamed n = some g) (hne : 0 < cs.size) (hv : w.var? Tryd.prog n = some cs) : w'.var? Tryd.prog n = some cs := by
  refine var?_below hb hg ?_ hv
  have h := World.var?_cell hg hv 0
  rw [Array.getElem?_eq_getElem hne] at h
  exact World.block_lt_of_cell? w _ h
theorem GlobN.below {w w' : World} (h : GlobN w) (hb : Below w.heap.size w w') : GlobN w' := by
  obtain ⟨h1, ⟨t2, p2, h2⟩, t3, p3, h3⟩ := h
  exact ⟨var_below hb g_pow (by decide +kernel) h1, ⟨t2, p2, var_below hb g_syntax (by simp) h2⟩, t3, p3, var_below hb g_range (by simp) h3⟩
/-! num.Parse -/
theorem ret2_int {a b c d : Int} (h1 : a = c) (h2 : b = d) : Ending.returned (.tuple #[.int .i64 a, .int .i64 b]) = .returned (.tuple #[.int .i64 c, .int .i64 d]) := by rw [h1, h2]
theorem told_fits {v : Int} (h1 : -4611686018427387903 ≤ v) (h2 : v ≤ 4611686018427387903) : told (.ok v) = (v, 0) := by
  show (if _ then _ else _) = _
  rw [if_pos ⟨h1, h2⟩]
theorem told_not {v : Int} (h : v < -4611686018427387903 ∨ 4611686018427387903 < v) : told (.ok v) = (0, 10) := by
  show (if _ then _ else _) = _
  rw [if_neg (by omega)]
theorem all_of {D : ByteArray} (h : ∀ j, j < D.size → dig (D.data.toList.getD j 0) = true) : D.data.toList.all dig = true := by
  rw [List.all_eq_true]
  intro c hc
  obtain ⟨j, hj, rfl⟩ := List.getElem_of_mem hc
  have := h j (by rw [Array.length_toList] at hj; exact hj)
  rwa [List.getD_eq_getElem?_getD, List.getElem?_eq_getElem hj] at this
theorem not_all {D : ByteArray} {k : Nat} (hk : k < D.size) (h : dig (D.data.toList.getD k 0) = false) : D.data.toList.all dig = false := by
  rw [List.all_eq_false]
  have hk' : k < D.data.toList.length := by rw [Array.length_toList]; exact hk
  refine ⟨_, List.getElem_mem hk', ?_⟩
  rw [List.getD_eq_getElem?_getD, List.getElem?_eq_getElem hk'] at h
  simpa using h
set_option maxHeartbeats 2000000 in
set_option maxRecDepth 100000 in
theorem parse_neg (s D : ByteArray) (R1 R2 : Int) (w : World) (hG : Aside0 (GlobN w)) (hs : 0 < s.size) (hm : s.size ≤ 140737488351232) (h0 : ((s[0].toNat : Int) == 45) = true) (hne : (s.toList.isEmpty) = false)
    (hD : Aside0 (s.extract 1 s.size = D)) (hDm : D.size ≤ 140737488351232) (hD0 : 0 < D.size) (hDn : (D.toList.isEmpty) = false) (h48 : ((D[0].toNat : Int) == 48) = false)
    (hbad : Aside0 (D.data.toList.all dig = false → R1 = 0 ∧ R2 = 11)) (hgood : Aside0 (D.data.toList.all dig = true → (R1, R2) = told (Lib.atoiAll s.data.toList))) (hsyn : Aside0 (D.data.toList.all dig = true → spelt (Lib.atoiAll s.data.toList) = true)) :
    Calls Tryd.prog 58 #[.string s] w fun e w' => e = .returned (.tuple #[.int .i64 R1, .int .i64 R2]) ∧ Below w.heap.size w w' := by
  have kb := fun W => print_bytes (P := Tryd.prog) 9 30 5 Tryd.underlying9 Tryd.underlying30 Tryd.underlying5 D W
  have hGB : Aside0 (GlobN (Lib.bytesWorld w 5 D)) := ⟨hG.out.below (bytes_below (Below.refl _ _) (Nat.le_refl _) _ _)⟩
  have hBB : Aside0 (Below w.heap.size w (Lib.bytesWorld w 5 D)) := ⟨bytes_below (Below.refl _ _) (Nat.le_refl _) _ _⟩
  go_enter Tryd.func58, Tryd.ntmps58
  go_upto_region 4 with (fail)
  rw [hD.out]
  go_wp2_with fail
  go_loop [33] (fun i => ∃ k : Nat, k ≤ D.size ∧ i = .int .i64 k ∧ Aside0 (∀ j, j < k → dig (D.data.toList.getD j 0) = true)) (fun i => D.size - (intOf i).toNat)
  case atStart => exact ⟨0, Nat.zero_le _, rfl, ⟨fun j hj => absurd hj (by omega)⟩⟩
  case round =>
    obtain ⟨k, hk, rfl, hdig⟩ := hrel
    by_cases hlt : k < D.size
    · have hc := Lib.bytesWorld_cell w 5 D k hlt
      have HD : Aside0 (dig (D.data.toList.getD k 0) = decide (48 ≤ (D.data.toList.getD k 0).toNat ∧ (D.data.toList.getD k 0).toNat ≤ 57)) := ⟨rfl⟩
      have hall := @not_all D k hlt
      generalize hv : D.data.toList.getD k 0 = v at hc HD hall
      have HV := Aside0.mk hv
      have HA := Aside0.mk hall
      clear hv hall
      generalize hn : v.toNat = n at hc HD
      clear hn
      by_cases h1 : n < 48
      · go_wp2
        go_ret2
        have hb := HA.out (HD.out.trans (decide_eq_false (by omega)))
        exact ⟨ret2_int (hbad.out hb).1.symm (hbad.out hb).2.symm, hBB.out⟩
      · by_cases h2 : 57 < n
        · go_wp2
          go_ret2
          have hb := HA.out (HD.out.trans (decide_eq_false (by omega)))
          exact ⟨ret2_int (hbad.out hb).1.symm (hbad.out hb).2.symm, hBB.out⟩
        · have h48 : 48 ≤ n := by omega
          have h57 : n ≤ 57 := by omega
          go_wp2
          go_round
          case rel =>
            refine ⟨k + 1, by omega, by go_num, ⟨fun j hj => ?_⟩⟩
            by_cases hjk : j < k
            · exact hdig.out j hjk
            · obtain rfl : j = k := by omega
              rw [HV.out]
              exact HD.out.trans (decide_eq_true ⟨h48, h57⟩)
          case measure => simp [intOf]; omega
    · obtain rfl : k = D.size := by omega
      have hall := all_of hdig.out
      have HT := Aside0.mk (hgood.out hall)
      have HS := hsyn.out hall
      have hx : s.size ≤ 9223372036854775806 := by omega
      have hy : s.size ≤ 281474976710656 := by omega
      clear hall hbad hgood hsyn hdig hk hlt kb
      cases hend : Lib.atoiAll s.data.toList with
      | ok v =>
        have HE := Aside0.mk hend
        clear hend HS
        have HP := HT.out
        rw [HE.out] at HP
        clear HT
        by_cases hf1 : -4611686018427387903 ≤ v
        · by_cases hf2 : v ≤ 4611686018427387903
          · rw [told_fits hf1 hf2] at HP
            obtain ⟨rfl, rfl⟩ := Prod.mk.inj HP
            clear HP
            go_wp2_with (first | (go_at_call 64; refine (Tryd.strconv_Atoi_ok s hx R1 HE.out _).mono ?_; rintro e w1 ⟨rfl, hw⟩; have hb1 : Aside0 (Below w.heap.size w w1) := ⟨by rcases hw with rfl | ⟨t, rfl⟩; exact hBB.out; exact below_then hBB.out (below_size hBB.out) (bytes_below (Below.refl _ _) (Nat.le_refl _) _ _)⟩; clear hw) | (go_at_call 38; go_in))
            go_ret2
            exact ⟨rfl, hb1.out⟩
          · have hf3 : 4611686018427387903 < v := by omega
            rw [told_not (.inr hf3)] at HP
            have hfd : decide (v ≤ 4611686018427387903) = false := decide_eq_false hf2
            clear hf2
            obtain ⟨rfl, rfl⟩ := Prod.mk.inj HP
            clear HP
            go_wp2_with (first | (go_at_call 64; refine (Tryd.strconv_Atoi_ok s hx v HE.out _).mono ?_; rintro e w1 ⟨rfl, hw⟩; have hb1 : Aside0 (Below w.heap.size w w1) := ⟨by rcases hw with rfl | ⟨t, rfl⟩; exact hBB.out; exact below_then hBB.out (below_size hBB.out) (bytes_below (Below.refl _ _) (Nat.le_refl _) _ _)⟩; clear hw) | (go_at_call 38; go_in))
            go_ret2
            exact ⟨rfl, hb1.out⟩
        · have hf3 : v < -4611686018427387903 := by omega
          rw [told_not (.inl hf3)] at HP
          have hfd : decide (-4611686018427387903 ≤ v) = false := decide_eq_false hf1
          clear hf1
          obtain ⟨rfl, rfl⟩ := Prod.mk.inj HP
          clear HP
          go_wp2_with (first | (go_at_call 64; refine (Tryd.strconv_Atoi_ok s hx v HE.out _).mono ?_; rintro e w1 ⟨rfl, hw⟩; have hb1 : Aside0 (Below w.heap.size w w1) := ⟨by rcases hw with rfl | ⟨t, rfl⟩; exact hBB.out; exact below_then hBB.out (below_size hBB.out) (bytes_below (Below.refl _ _) (Nat.le_refl _) _ _)⟩; clear hw) | (go_at_call 38; go_in))
          go_ret2
          exact ⟨rfl, hb1.out⟩
      | range =>
        have HE := Aside0.mk hend
        clear hend HS
        have HP := HT.out
        rw [HE.out] at HP
        clear HT
        obtain ⟨rfl, rfl⟩ := Prod.mk.inj HP
        clear HP
        obtain ⟨_, _, tp, p, hvar⟩ := hGB.out
        have HVar := Aside0.mk hvar
        clear hvar
        go_wp2_with (go_at_call 64; refine (Tryd.strconv_Atoi_range_var s hy HE.out tp p _ HVar.out).mono ?_; rintro e w1 ⟨N, rfl, hN, hcell, hb⟩; have hb1 : Aside0 (Below w.heap.size w w1) := ⟨below_then hBB.out (below_size hBB.out) hb⟩; clear hN hcell hb)
        go_ret2
        exact ⟨rfl, hb1.out⟩
      | _ => rw [hend] at HS; cases HS
set_option maxHeartbeats 2000000 in
set_option maxRecDepth 100000 in
theorem parse_pos (s : ByteArray) (R1 R2 : Int) (w : World) (hG : Aside0 (GlobN w)) (hs : 0 < s.size) (hm : s.size ≤ 140737488351232) (h0 : ((s[0].toNat : Int) == 45) = false) (hne : (s.toList.isEmpty) = false)
    (h48 : ((s[0].toNat : Int) == 48) = false)
    (hbad : Aside0 (s.data.toList.all dig = false → R1 = 0 ∧ R2 = 11)) (hgood : Aside0 (s.data.toList.all dig = true → (R1, R2) = told (Lib.atoiAll s.data.toList))) (hsyn : Aside0 (s.data.toList.all dig = true → spelt (Lib.atoiAll s.data.toList) = true)) :
    Calls Tryd.prog 58 #[.string s] w fun e w' => e = .returned (.tuple #[.int .i64 R1, .int .i64 R2]) ∧ Below w.heap.size w w' := by
  have kb := fun W => print_bytes (P := Tryd.prog) 9 30 5 Tryd.underlying9 Tryd.underlying30 Tryd.underlying5 s W
  have hGB : Aside0 (GlobN (Lib.bytesWorld w 5 s)) := ⟨hG.out.below (bytes_below (Below.refl _ _) (Nat.le_refl _) _ _)⟩
  have hBB : Aside0 (Below w.heap.size w (Lib.bytesWorld w 5 s)) := ⟨bytes_below (Below.refl _ _) (Nat.le_refl _) _ _⟩
  go_enter Tryd.func58, Tryd.ntmps58
  go_upto_region 4 with (fail)
  skip
  go_wp2_with fail
  go_loop [33] (fun i => ∃ k : Nat, k ≤ s.size ∧ i = .int .i64 k ∧ Aside0 (∀ j, j < k → dig (s.data.toList.getD j 0) = true)) (fun i => s.size - (intOf i).toNat)
  case atStart => exact ⟨0, Nat.zero_le _, rfl, ⟨fun j hj => absurd hj (by omega)⟩⟩
  case round =>
    obtain ⟨k, hk, rfl, hdig⟩ := hrel
    by_cases hlt : k < s.size
    · have hc := Lib.bytesWorld_cell w 5 s k hlt
      have HD : Aside0 (dig (s.data.toList.getD k 0) = decide (48 ≤ (s.data.toList.getD k 0).toNat ∧ (s.data.toList.getD k 0).toNat ≤ 57)) := ⟨rfl⟩
      have hall := @not_all s k hlt
      generalize hv : s.data.toList.getD k 0 = v at hc HD hall
      have HV := Aside0.mk hv
      have HA := Aside0.mk hall
      clear hv hall
      generalize hn : v.toNat = n at hc HD
      clear hn
      by_cases h1 : n < 48
      · go_wp2
        go_ret2
        have hb := HA.out (HD.out.trans (decide_eq_false (by omega)))
        exact ⟨ret2_int (hbad.out hb).1.symm (hbad.out hb).2.symm, hBB.out⟩
      · by_cases h2 : 57 < n
        · go_wp2
          go_ret2
          have hb := HA.out (HD.out.trans (decide_eq_false (by omega)))
          exact ⟨ret2_int (hbad.out hb).1.symm (hbad.out hb).2.symm, hBB.out⟩
        · have h48 : 48 ≤ n := by omega
          have h57 : n ≤ 57 := by omega
          go_wp2
          go_round
          case rel =>
            refine ⟨k + 1, by omega, by go_num, ⟨fun j hj => ?_⟩⟩
            by_cases hjk : j < k
            · exact hdig.out j hjk
            · obtain rfl : j = k := by omega
              rw [HV.out]
              exact HD.out.trans (decide_eq_true ⟨h48, h57⟩)
          case measure => simp [intOf]; omega
    · obtain rfl : k = s.size := by omega
      have hall := all_of hdig.out
      have HT := Aside0.mk (hgood.out hall)
      have HS := hsyn.out hall
      have hx : s.size ≤ 9223372036854775806 := by omega
      have hy : s.size ≤ 281474976710656 := by omega
      clear hall hbad hgood hsyn hdig hk hlt kb
      cases hend : Lib.atoiAll s.data.toList with
      | ok v =>
        have HE := Aside0.mk hend
        clear hend HS
        have HP := HT.out
        rw [HE.out] at HP
        clear HT
        by_cases hf1 : -4611686018427387903 ≤ v
        · by_cases hf2 : v ≤ 4611686018427387903
          · rw [told_fits hf1 hf2] at HP
            obtain ⟨rfl, rfl⟩ := Prod.mk.inj HP
            clear HP
            go_wp2_with (first | (go_at_call 64; refine (Tryd.strconv_Atoi_ok s hx R1 HE.out _).mono ?_; rintro e w1 ⟨rfl, hw⟩; have hb1 : Aside0 (Below w.heap.size w w1) := ⟨by rcases hw with rfl | ⟨t, rfl⟩; exact hBB.out; exact below_then hBB.out (below_size hBB.out) (bytes_below (Below.refl _ _) (Nat.le_refl _) _ _)⟩; clear hw) | (go_at_call 38; go_in))
            go_ret2
            exact ⟨rfl, hb1.out⟩
          · have hf3 : 4611686018427387903 < v := by omega
            rw [told_not (.inr hf3)] at HP
            have hfd : decide (v ≤ 4611686018427387903) = false := decide_eq_false hf2
            clear hf2
            obtain ⟨rfl, rfl⟩ := Prod.mk.inj HP
            clear HP
            go_wp2_with (first | (go_at_call 64; refine (Tryd.strconv_Atoi_ok s hx v HE.out _).mono ?_; rintro e w1 ⟨rfl, hw⟩; have hb1 : Aside0 (Below w.heap.size w w1) := ⟨by rcases hw with rfl | ⟨t, rfl⟩; exact hBB.out; exact below_then hBB.out (below_size hBB.out) (bytes_below (Below.refl _ _) (Nat.le_refl _) _ _)⟩; clear hw) | (go_at_call 38; go_in))
            go_ret2
            exact ⟨rfl, hb1.out⟩
        · have hf3 : v < -4611686018427387903 := by omega
          rw [told_not (.inl hf3)] at HP
          have hfd : decide (-4611686018427387903 ≤ v) = false := decide_eq_false hf1
          clear hf1
          obtain ⟨rfl, rfl⟩ := Prod.mk.inj HP
          clear HP
          go_wp2_with (first | (go_at_call 64; refine (Tryd.strconv_Atoi_ok s hx v HE.out _).mono ?_; rintro e w1 ⟨rfl, hw⟩; have hb1 : Aside0 (Below w.heap.size w w1) := ⟨by rcases hw with rfl | ⟨t, rfl⟩; exact hBB.out; exact below_then hBB.out (below_size hBB.out) (bytes_below (Below.refl _ _) (Nat.le_refl _) _ _)⟩; clear hw) | (go_at_call 38; go_in))
          go_ret2
          exact ⟨rfl, hb1.out⟩
      | range =>
        have HE := Aside0.mk hend
        clear hend HS
        have HP := HT.out
        rw [HE.out] at HP
        clear HT
        obtain ⟨rfl, rfl⟩ := Prod.mk.inj HP
        clear HP
        obtain ⟨_, _, tp, p, hvar⟩ := hGB.out
        have HVar := Aside0.mk hvar
        clear hvar
        go_wp2_with (go_at_call 64; refine (Tryd.strconv_Atoi_range_var s hy HE.out tp p _ HVar.out).mono ?_; rintro e w1 ⟨N, rfl, hN, hcell, hb⟩; have hb1 : Aside0 (Below w.heap.size w w1) := ⟨below_then hBB.out (below_size hBB.out) hb⟩; clear hN hcell hb)
        go_ret2
        exact ⟨rfl, hb1.out⟩
      | _ => rw [hend] at HS; cases HS
set_option maxHeartbeats 2000000 in
set_option maxRecDepth 100000 in
theorem parse_zero (s : ByteArray) (R1 R2 : Int) (w : World) (hG : Aside0 (GlobN w)) (hs : 0 < s.size) (hm : s.size ≤ 140737488351232) (h0 : ((s[0].toNat : Int) == 45) = false) (hne : (s.toList.isEmpty) = false)
    (h48 : ((s[0].toNat : Int) == 48) = true) (hz : (!s.toList == [48]) = false)
    (hbad : Aside0 (s.data.toList.all dig = false → R1 = 0 ∧ R2 = 11)) (hgood : Aside0 (s.data.toList.all dig = true → (R1, R2) = told (Lib.atoiAll s.data.toList))) (hsyn : Aside0 (s.data.toList.all dig = true → spelt (Lib.atoiAll s.data.toList) = true)) :
    Calls Tryd.prog 58 #[.string s] w fun e w' => e = .returned (.tuple #[.int .i64 R1, .int .i64 R2]) ∧ Below w.heap.size w w' := by
  have kb := fun W => print_bytes (P := Tryd.prog) 9 30 5 Tryd.underlying9 Tryd.underlying30 Tryd.underlying5 s W
  have hGB : Aside0 (GlobN (Lib.bytesWorld w 5 s)) := ⟨hG.out.below (bytes_below (Below.refl _ _) (Nat.le_refl _) _ _)⟩
  have hBB : Aside0 (Below w.heap.size w (Lib.bytesWorld w 5 s)) := ⟨bytes_below (Below.refl _ _) (Nat.le_refl _) _ _⟩
  go_enter Tryd.func58, Tryd.ntmps58
  go_upto_region 4 with (fail)
  skip
  go_wp2_with fail
  go_loop [33] (fun i => ∃ k : Nat, k ≤ s.size ∧ i = .int .i64 k ∧ Aside0 (∀ j, j < k → dig (s.data.toList.getD j 0) = true)) (fun i => s.size - (intOf i).toNat)
  case atStart => exact ⟨0, Nat.zero_le _, rfl, ⟨fun j hj => absurd hj (by omega)⟩⟩
  case round =>
    obtain ⟨k, hk, rfl, hdig⟩ := hrel
    by_cases hlt : k < s.size
    · have hc := Lib.bytesWorld_cell w 5 s k hlt
      have HD : Aside0 (dig (s.data.toList.getD k 0) = decide (48 ≤ (s.data.toList.getD k 0).toNat ∧ (s.data.toList.getD k 0).toNat ≤ 57)) := ⟨rfl⟩
      have hall := @not_all s k hlt
      generalize hv : s.data.toList.getD k 0 = v at hc HD hall
      have HV := Aside0.mk hv
      have HA := Aside0.mk hall
      clear hv hall
      generalize hn : v.toNat = n at hc HD
      clear hn
      by_cases h1 : n < 48
      · go_wp2
        go_ret2
        have hb := HA.out (HD.out.trans (decide_eq_false (by omega)))
        exact ⟨ret2_int (hbad.out hb).1.symm (hbad.out hb).2.symm, hBB.out⟩
      · by_cases h2 : 57 < n
        · go_wp2
          go_ret2
          have hb := HA.out (HD.out.trans (decide_eq_false (by omega)))
          exact ⟨ret2_int (hbad.out hb).1.symm (hbad.out hb).2.symm, hBB.out⟩
        · have h48 : 48 ≤ n := by omega
          have h57 : n ≤ 57 := by omega
          go_wp2
          go_round
          case rel =>
            refine ⟨k + 1, by omega, by go_num, ⟨fun j hj => ?_⟩⟩
            by_cases hjk : j < k
            · exact hdig.out j hjk
            · obtain rfl : j = k := by omega
              rw [HV.out]
              exact HD.out.trans (decide_eq_true ⟨h48, h57⟩)
          case measure => simp [intOf]; omega
    · obtain rfl : k = s.size := by omega
      have hall := all_of hdig.out
      have HT := Aside0.mk (hgood.out hall)
      have HS := hsyn.out hall
      have hx : s.size ≤ 9223372036854775806 := by omega
      have hy : s.size ≤ 281474976710656 := by omega
      clear hall hbad hgood hsyn hdig hk hlt kb
      cases hend : Lib.atoiAll s.data.toList with
      | ok v =>
        have HE := Aside0.mk hend
        clear hend HS
        have HP := HT.out
        rw [HE.out] at HP
        clear HT
        by_cases hf1 : -4611686018427387903 ≤ v
        · by_cases hf2 : v ≤ 4611686018427387903
          · rw [told_fits hf1 hf2] at HP
            obtain ⟨rfl, rfl⟩ := Prod.mk.inj HP
            clear HP
            go_wp2_with (first | (go_at_call 64; refine (Tryd.strconv_Atoi_ok s hx R1 HE.out _).mono ?_; rintro e w1 ⟨rfl, hw⟩; have hb1 : Aside0 (Below w.heap.size w w1) := ⟨by rcases hw with rfl | ⟨t, rfl⟩; exact hBB.out; exact below_then hBB.out (below_size hBB.out) (bytes_below (Below.refl _ _) (Nat.le_refl _) _ _)⟩; clear hw) | (go_at_call 38; go_in))
            go_ret2
            exact ⟨rfl, hb1.out⟩
          · have hf3 : 4611686018427387903 < v := by omega
            rw [told_not (.inr hf3)] at HP
            have hfd : decide (v ≤ 4611686018427387903) = false := decide_eq_false hf2
            clear hf2
            obtain ⟨rfl, rfl⟩ := Prod.mk.inj HP
            clear HP
            go_wp2_with (first | (go_at_call 64; refine (Tryd.strconv_Atoi_ok s hx v HE.out _).mono ?_; rintro e w1 ⟨rfl, hw⟩; have hb1 : Aside0 (Below w.heap.size w w1) := ⟨by rcases hw with rfl | ⟨t, rfl⟩; exact hBB.out; exact below_then hBB.out (below_size hBB.out) (bytes_below (Below.refl _ _) (Nat.le_refl _) _ _)⟩; clear hw) | (go_at_call 38; go_in))
            go_ret2
            exact ⟨rfl, hb1.out⟩
        · have hf3 : v < -4611686018427387903 := by omega
          rw [told_not (.inl hf3)] at HP
          have hfd : decide (-4611686018427387903 ≤ v) = false := decide_eq_false hf1
          clear hf1
          obtain ⟨rfl, rfl⟩ := Prod.mk.inj HP
          clear HP
          go_wp2_with (first | (go_at_call 64; refine (Tryd.strconv_Atoi_ok s hx v HE.out _).mono ?_; rintro e w1 ⟨rfl, hw⟩; have hb1 : Aside0 (Below w.heap.size w w1) := ⟨by rcases hw with rfl | ⟨t, rfl⟩; exact hBB.out; exact below_then hBB.out (below_size hBB.out) (bytes_below (Below.refl _ _) (Nat.le_refl _) _ _)⟩; clear hw) | (go_at_call 38; go_in))
          go_ret2
          exact ⟨rfl, hb1.out⟩
      | range =>
        have HE := Aside0.mk hend
        clear hend HS
        have HP := HT.out
        rw [HE.out] at HP
        clear HT
        obtain ⟨rfl, rfl⟩ := Prod.mk.inj HP
        clear HP
        obtain ⟨_, _, tp, p, hvar⟩ := hGB.out
        have HVar := Aside0.mk hvar
        clear hvar
        go_wp2_with (go_at_call 64; refine (Tryd.strconv_Atoi_range_var s hy HE.out tp p _ HVar.out).mono ?_; rintro e w1 ⟨N, rfl, hN, hcell, hb⟩; have hb1 : Aside0 (Below w.heap.size w w1) := ⟨below_then hBB.out (below_size hBB.out) hb⟩; clear hN hcell hb)
        go_ret2
        exact ⟨rfl, hb1.out⟩
      | _ => rw [hend] at HS; cases HS
set_option maxHeartbeats 400000 in
theorem parse_empty (w : World) :
    Calls Tryd.prog 58 #[.string ⟨#[]⟩] w fun e w' => e = .returned (.tuple #[.int .i64 0, .int .i64 11]) ∧ Below w.heap.size w w' := by
  have hB := Aside0.mk (Below.refl w.heap.size w)
  go_enter Tryd.func58, Tryd.ntmps58
  go_wp2
  go_ret2
  exact ⟨rfl, hB.out⟩
set_option maxHeartbeats 400000 in
theorem parse_minus (s : ByteArray) (w : World) (hs : 0 < s.size) (h0 : ((s[0].toNat : Int) == 45) = true) (hne : (s.toList.isEmpty) = false) (hD : Aside0 (s.extract 1 s.size = ⟨#[]⟩)) :
    Calls Tryd.prog 58 #[.string s] w fun e w' => e = .returned (.tuple #[.int .i64 0, .int .i64 11]) ∧ Below w.heap.size w w' := by
  have hB := Aside0.mk (Below.refl w.heap.size w)
  go_enter Tryd.func58, Tryd.ntmps58
  go_upto_region 4 with (fail)
  rw [hD.out]
  go_wp2
  go_ret2
  exact ⟨rfl, hB.out⟩
set_option maxHeartbeats 400000 in
theorem parse_minus_zero (s D : ByteArray) (w : World) (hs : 0 < s.size) (h0 : ((s[0].toNat : Int) == 45) = true) (hne : (s.toList.isEmpty) = false) (hD : Aside0 (s.extract 1 s.size = D)) (hD0 : 0 < D.size) (hDn : (D.toList.isEmpty) = false) (h48 : ((D[0].toNat : Int) == 48) = true) (hz : (!s.toList == [48]) = true) :
    Calls Tryd.prog 58 #[.string s] w fun e w' => e = .returned (.tuple #[.int .i64 0, .int .i64 11]) ∧ Below w.heap.size w w' := by
  have hB := Aside0.mk (Below.refl w.heap.size w)
  go_enter Tryd.func58, Tryd.ntmps58
  go_upto_region 4 with (fail)
  rw [hD.out]
  go_wp2
  go_ret2
  exact ⟨rfl, hB.out⟩
set_option maxHeartbeats 400000 in
theorem parse_zeros (s : ByteArray) (w : World) (hs : 0 < s.size) (h0 : ((s[0].toNat : Int) == 45) = false) (hne : (s.toList.isEmpty) = false) (h48 : ((s[0].toNat : Int) == 48) = true) (hz : (!s.toList == [48]) = true) :
    Calls Tryd.prog 58 #[.string s] w fun e w' => e = .returned (.tuple #[.int .i64 0, .int .i64 11]) ∧ Below w.heap.size w w' := by
  have hB := Aside0.mk (Below.refl w.heap.size w)
  go_enter Tryd.func58, Tryd.ntmps58
  go_wp2
  go_ret2
  exact ⟨rfl, hB.out⟩
/-! The plain side: bytes as a list. -/
theorem digits_spelt : ∀ (l : List UInt8) (acc : Nat), l.all dig = true → (∃ u, Lib.parseUint10 acc l = .ok u) ∨ Lib.parseUint10 acc l = .range
  | [], acc, _ => .inl ⟨acc, rfl⟩
  | c :: r, acc, h => by
    rw [List.all_cons, Bool.and_eq_true] at h
    have hc : 48 ≤ c.toNat ∧ c.toNat ≤ 57 := of_decide_eq_true h.1
    unfold Lib.parseUint10
    rw [if_pos hc]
    split
    · exact .inr rfl
    · split
      · exact .inr rfl
      · exact digits_spelt r _ h.2
theorem bare_spelt {l : List UInt8} (hne : bare l ≠ []) (h : (bare l).all dig = true) : spelt (Lib.atoiAll l) = true := by
  cases l with
  | nil => exact absurd rfl hne
  | cons c r =>
    unfold Lib.atoiAll
    simp only
    have hb : bare (c :: r) = if c.toNat = 43 ∨ c.toNat = 45 then r else c :: r := by
      unfold bare at h ⊢
      by_cases h45 : c = 45
      · subst h45; simp
      · have e : ¬ (c :: r).head? = some 45 := by simp [h45]
        rw [if_neg e] at h ⊢
        rw [List.all_cons, Bool.and_eq_true] at h
        have hc : 48 ≤ c.toNat ∧ c.toNat ≤ 57 := of_decide_eq_true h.1
        rw [if_neg (by omega)]
    rw [hb] at h hne
    have hp : Lib.parseMag (if c.toNat = 43 ∨ c.toNat = 45 then r else c :: r) = Lib.parseUint10 0 (if c.toNat = 43 ∨ c.toNat = 45 then r else c :: r) := by
      unfold Lib.parseMag
      rw [if_neg hne]
    rw [hp]
    rcases digits_spelt _ 0 h with ⟨u, hu⟩ | hu
    · rw [hu]
      simp only
      split
      · rfl
      · split <;> rfl
    · rw [hu]; rfl
theorem size_eq (s : ByteArray) : s.data.toList.length = s.size := data_length s
theorem get_zero (s : ByteArray) (h : 0 < s.size) : s.data.toList.head? = some s[0] := by
  rw [List.head?_eq_getElem?, List.getElem?_eq_getElem (by rw [size_eq]; exact h)]
  rfl
theorem empty_of (s : ByteArray) (h : s.size = 0) : s = ⟨#[]⟩ := by
  cases s with
  | mk d => congr 1; exact Array.eq_empty_of_size_eq_zero h
theorem isEmpty_false (s : ByteArray) (h : 0 < s.size) : s.toList.isEmpty = false := by
  rw [Lib.toList_data]
  cases hl : s.data.toList with
  | nil => have := size_eq s; rw [hl] at this; simp at this; omega
  | cons a b => rfl
theorem byte_45 (b : UInt8) : ((b.toNat : Int) == 45) = decide (b = 45) := by
  rw [Bool.eq_iff_iff, beq_iff_eq, decide_eq_true_iff]
  constructor
  · intro h; apply UInt8.toNat_inj.1; show b.toNat = 45; omega
  · intro h; subst h; rfl
theorem byte_48 (b : UInt8) : ((b.toNat : Int) == 48) = decide (b = 48) := by
  rw [Bool.eq_iff_iff, beq_iff_eq, decide_eq_true_iff]
  constructor
  · intro h; apply UInt8.toNat_inj.1; show b.toNat = 48; omega
  · intro h; subst h; rfl
def num_Parse.f (a0 : ByteArray) : Option (Int × Int) := if a0.size ≤ 140737488351232 then some (parseG a0.data.toList) else none
theorem num_Parse.calls (a0 : ByteArray) (r1 : Int) (r2 : Int) (w : World) (hG : Aside0 (GlobN w)) (h : num_Parse.f a0 = some (r1, r2)) :
    Calls Tryd.prog 58 #[.string a0] w fun e w' => e = .returned (.tuple #[.int .i64 r1, .int .i64 r2]) ∧ Below w.heap.size w w' := by
  unfold num_Parse.f at h
  by_cases hm : a0.size ≤ 140737488351232
  · rw [if_pos hm] at h
    have h := Option.some.inj h
    rcases Nat.eq_zero_or_pos a0.size with hs | hs
    · obtain rfl := empty_of a0 hs
      obtain ⟨rfl, rfl⟩ := Prod.mk.inj h
      exact parse_empty w
    · have hne := isEmpty_false a0 hs
      have hh := get_zero a0 hs
      have hlist : (!a0.toList == [48]) = !decide (a0.data.toList = [48]) := by
        rw [Lib.toList_data]
        congr 1
        rw [Bool.eq_iff_iff, beq_iff_eq, decide_eq_true_iff]
      unfold parseG at h
      by_cases h45 : a0[0] = 45
      · have hb : bare a0.data.toList = a0.data.toList.tail := by unfold bare; rw [if_pos (by rw [hh, h45])]
        have hnot : a0.data.toList ≠ [48] := fun e => by
          rw [e] at hh
          simp [h45] at hh
        have hx : (a0.extract 1 a0.size).data.toList = a0.data.toList.tail := by
          rw [Lib.extract_to_end]
          exact List.drop_one
        obtain ⟨D, hD⟩ : ∃ D, a0.extract 1 a0.size = D := ⟨_, rfl⟩
        rw [hD] at hx
        rw [hb, ← hx] at h
        have hDm : D.size ≤ 140737488351232 := by
          have := size_eq D
          rw [hx, List.length_tail, size_eq] at this
          omega
        rcases Nat.eq_zero_or_pos D.size with hD0 | hD0
        · obtain rfl := empty_of D hD0
          obtain ⟨rfl, rfl⟩ := Prod.mk.inj h
          exact parse_minus a0 w hs (by rw [byte_45, decide_eq_true h45]) hne ⟨hD⟩
        · have hDh := get_zero D hD0
          have hDne : D.data.toList ≠ [] := fun e => by rw [e] at hDh; cases hDh
          rw [if_neg hDne] at h
          by_cases h48 : D[0] = 48
          · rw [if_pos ⟨by rw [hDh, h48], hnot⟩] at h
            obtain ⟨rfl, rfl⟩ := Prod.mk.inj h
            exact parse_minus_zero a0 D w hs (by rw [byte_45, decide_eq_true h45]) hne ⟨hD⟩ hD0 (isEmpty_false D hD0) (by rw [byte_48, decide_eq_true h48]) (by rw [hlist, decide_eq_false hnot]; rfl)
          · rw [if_neg (fun e => h48 (by have := e.1; rw [hDh] at this; exact Option.some.inj this))] at h
            refine parse_neg a0 D r1 r2 w hG hs hm (by rw [byte_45, decide_eq_true h45]) hne ⟨hD⟩ hDm hD0 (isEmpty_false D hD0) (by rw [byte_48, decide_eq_false h48]) ⟨fun e => ?_⟩ ⟨fun e => ?_⟩ ⟨fun e => ?_⟩
            · rw [if_neg (by rw [e]; decide)] at h
              obtain ⟨rfl, rfl⟩ := Prod.mk.inj h
              exact ⟨rfl, rfl⟩
            · rw [if_pos e] at h
              exact h.symm
            · exact bare_spelt (by rw [hb, ← hx]; exact hDne) (by rw [hb, ← hx]; exact e)
      · have hb : bare a0.data.toList = a0.data.toList := by unfold bare; rw [if_neg (by rw [hh]; simpa using h45)]
        have hne2 : a0.data.toList ≠ [] := fun e => by rw [e] at hh; cases hh
        rw [hb, if_neg hne2] at h
        by_cases h48 : a0[0] = 48
        · by_cases hz : a0.data.toList = [48]
          · rw [if_neg (fun e => e.2 hz)] at h
            refine parse_zero a0 r1 r2 w hG hs hm (by rw [byte_45, decide_eq_false h45]) hne (by rw [byte_48, decide_eq_true h48]) (by rw [hlist, decide_eq_true hz]; rfl) ⟨fun e => ?_⟩ ⟨fun e => ?_⟩ ⟨fun e => ?_⟩
            · rw [if_neg (by rw [e]; decide)] at h
              obtain ⟨rfl, rfl⟩ := Prod.mk.inj h
              exact ⟨rfl, rfl⟩
            · rw [if_pos e] at h
              exact h.symm
            · exact bare_spelt (by rw [hb]; exact hne2) (by rw [hb]; exact e)
          · rw [if_pos ⟨by rw [hh, h48], hz⟩] at h
            obtain ⟨rfl, rfl⟩ := Prod.mk.inj h
            exact parse_zeros a0 w hs (by rw [byte_45, decide_eq_false h45]) hne (by rw [byte_48, decide_eq_true h48]) (by rw [hlist, decide_eq_false hz]; rfl)
        · rw [if_neg (fun e => h48 (by have := e.1; rw [hh] at this; exact Option.some.inj this))] at h
          refine parse_pos a0 r1 r2 w hG hs hm (by rw [byte_45, decide_eq_false h45]) hne (by rw [byte_48, decide_eq_false h48]) ⟨fun e => ?_⟩ ⟨fun e => ?_⟩ ⟨fun e => ?_⟩
          · rw [if_neg (by rw [e]; decide)] at h
            obtain ⟨rfl, rfl⟩ := Prod.mk.inj h
            exact ⟨rfl, rfl⟩
          · rw [if_pos e] at h
            exact h.symm
          · exact bare_spelt (by rw [hb]; exact hne2) (by rw [hb]; exact e)
  · rw [if_neg hm] at h
    cases h
end Go.Proofs.YtldlkoncndlbhaaDoor.Np
