/- YtldlkoncndlbhaaDoorZSj7: texts of the seat (PShx4), one behind the other, without what this claim's theorem does not rest on. -/
import Derived.Test.YtldlkoncndlbhaaDoorZSj6

-- Laid by wip/mk/mk.py of this session (the kit's printer with this session's contracts for library functions).
namespace Go.Proofs.YtldlkoncndlbhaaDoor.PSh
open Go.RowKit Go.Proofs.YtldlkoncndlbhaaDoorW.PrintWords Go.Proofs.YtldlkoncndlbhaaDoorW.PrintLast Go.Proofs.YtldlkoncndlbhaaDoorW.PrintMore
attribute [local go_sem] max2_int min2_int max_two min_two max_three min_three max_four min_four   -- for this text's walks alone
set_option linter.unusedVariables false
set_option linter.unusedSimpArgs false
/-! ### haulierref03_plain: function 24 -/
mutual
def haulierref03_plain.j0 : Nat → Bool → Int → Bool → Int → ByteArray → List ByteArray → List Int → Option (Bool)
  | 0, _, _, _, _, _, _, _ => none
  | k + 1, x47, x129000, x129001, x129002, x129003, x129004, x129005 => if x47 = true then (some false) else (if x129000 < 1 then (haulierref03_plain.j1 k true x129000 x129001 x129002 x129003 x129004 x129005) else (if x129000 > 6 then (haulierref03_plain.j1 k true x129000 x129001 x129002 x129003 x129004 x129005) else ((haulierref01_Fits.f x129002).bind fun t129 => (if t129 = true then ((haulierref03_UTF.f x129003).bind fun t130 => (haulierref03_plain.j1 k (!t130) x129000 x129001 x129002 x129003 x129004 x129005)) else (haulierref03_plain.j1 k true x129000 x129001 x129002 x129003 x129004 x129005)))))
def haulierref03_plain.j1 : Nat → Bool → Int → Bool → Int → ByteArray → List ByteArray → List Int → Option (Bool)
  | 0, _, _, _, _, _, _, _ => none
  | k + 1, x67, x129000, x129001, x129002, x129003, x129004, x129005 => if x67 = true then (some false) else (if x129000 = 6 then (haulierref03_plain.l0 k 0 x129000 x129001 x129002 x129003 x129004 x129005) else (some ((x129004.length : Int) == 0)))
def haulierref03_plain.l0 : Nat → Int → Int → Bool → Int → ByteArray → List ByteArray → List Int → Option (Bool)
  | 0, _, _, _, _, _, _, _ => none
  | k + 1, x3, x129000, x129001, x129002, x129003, x129004, x129005 => if x3 < (x129004.length : Int) then (if 0 ≤ x3 then ((haulierref03_UTF.f (rdOf ByteArray.empty x129004 x3)).bind fun t132 => (if t132 = true then (haulierref03_plain.l1 k x3 0 x129000 x129001 x129002 x129003 x129004 x129005) else (some false))) else (none)) else (some ((x129004.length : Int) == (x129005.length : Int)))
def haulierref03_plain.l1 : Nat → Int → Int → Int → Bool → Int → ByteArray → List ByteArray → List Int → Option (Bool)
  | 0, _, _, _, _, _, _, _, _ => none
  | k + 1, x3, x4, x129000, x129001, x129002, x129003, x129004, x129005 => if x4 < x3 then (if 0 ≤ x4 then (if x4 < (x129004.length : Int) then (if 0 ≤ x3 then (if x3 < (x129004.length : Int) then (if (rdOf ByteArray.empty x129004 x4).toList = (rdOf ByteArray.empty x129004 x3).toList then (some false) else (haulierref03_plain.l1 k x3 (wrap64 (x4 + 1)) x129000 x129001 x129002 x129003 x129004 x129005)) else (none)) else (none)) else (none)) else (none)) else (haulierref03_plain.l0 k (wrap64 (x3 + 1)) x129000 x129001 x129002 x129003 x129004 x129005)
end
def haulierref03_plain.f (k : Nat) (a0_0 : Int) (a0_1 : Bool) (a0_2 : Int) (a0_3 : ByteArray) (l0_4 : List ByteArray) (l0_5 : List Int) : Option (Bool) := if a0_1 = true then (if a0_0 = 2 then (if a0_2 = 0 then (if a0_3.toList = ([] : List UInt8) then (if (l0_5.length : Int) > 0 then (if a0_0 = 5 then (haulierref03_plain.j0 k false a0_0 a0_1 a0_2 a0_3 l0_4 l0_5) else (haulierref03_plain.j0 k (a0_0 != 6) a0_0 a0_1 a0_2 a0_3 l0_4 l0_5)) else (haulierref03_plain.j0 k false a0_0 a0_1 a0_2 a0_3 l0_4 l0_5)) else (if a0_0 = 4 then (if (l0_5.length : Int) > 0 then (if a0_0 = 5 then (haulierref03_plain.j0 k false a0_0 a0_1 a0_2 a0_3 l0_4 l0_5) else (haulierref03_plain.j0 k (a0_0 != 6) a0_0 a0_1 a0_2 a0_3 l0_4 l0_5)) else (haulierref03_plain.j0 k false a0_0 a0_1 a0_2 a0_3 l0_4 l0_5)) else (haulierref03_plain.j0 k true a0_0 a0_1 a0_2 a0_3 l0_4 l0_5))) else (if a0_0 = 3 then (if a0_3.toList = ([] : List UInt8) then (if (l0_5.length : Int) > 0 then (if a0_0 = 5 then (haulierref03_plain.j0 k false a0_0 a0_1 a0_2 a0_3 l0_4 l0_5) else (haulierref03_plain.j0 k (a0_0 != 6) a0_0 a0_1 a0_2 a0_3 l0_4 l0_5)) else (haulierref03_plain.j0 k false a0_0 a0_1 a0_2 a0_3 l0_4 l0_5)) else (if a0_0 = 4 then (if (l0_5.length : Int) > 0 then (if a0_0 = 5 then (haulierref03_plain.j0 k false a0_0 a0_1 a0_2 a0_3 l0_4 l0_5) else (haulierref03_plain.j0 k (a0_0 != 6) a0_0 a0_1 a0_2 a0_3 l0_4 l0_5)) else (haulierref03_plain.j0 k false a0_0 a0_1 a0_2 a0_3 l0_4 l0_5)) else (haulierref03_plain.j0 k true a0_0 a0_1 a0_2 a0_3 l0_4 l0_5))) else (haulierref03_plain.j0 k true a0_0 a0_1 a0_2 a0_3 l0_4 l0_5))) else (haulierref03_plain.j0 k true a0_0 a0_1 a0_2 a0_3 l0_4 l0_5)) else (if a0_2 = 0 then (if a0_3.toList = ([] : List UInt8) then (if (l0_5.length : Int) > 0 then (if a0_0 = 5 then (haulierref03_plain.j0 k false a0_0 a0_1 a0_2 a0_3 l0_4 l0_5) else (haulierref03_plain.j0 k (a0_0 != 6) a0_0 a0_1 a0_2 a0_3 l0_4 l0_5)) else (haulierref03_plain.j0 k false a0_0 a0_1 a0_2 a0_3 l0_4 l0_5)) else (if a0_0 = 4 then (if (l0_5.length : Int) > 0 then (if a0_0 = 5 then (haulierref03_plain.j0 k false a0_0 a0_1 a0_2 a0_3 l0_4 l0_5) else (haulierref03_plain.j0 k (a0_0 != 6) a0_0 a0_1 a0_2 a0_3 l0_4 l0_5)) else (haulierref03_plain.j0 k false a0_0 a0_1 a0_2 a0_3 l0_4 l0_5)) else (haulierref03_plain.j0 k true a0_0 a0_1 a0_2 a0_3 l0_4 l0_5))) else (if a0_0 = 3 then (if a0_3.toList = ([] : List UInt8) then (if (l0_5.length : Int) > 0 then (if a0_0 = 5 then (haulierref03_plain.j0 k false a0_0 a0_1 a0_2 a0_3 l0_4 l0_5) else (haulierref03_plain.j0 k (a0_0 != 6) a0_0 a0_1 a0_2 a0_3 l0_4 l0_5)) else (haulierref03_plain.j0 k false a0_0 a0_1 a0_2 a0_3 l0_4 l0_5)) else (if a0_0 = 4 then (if (l0_5.length : Int) > 0 then (if a0_0 = 5 then (haulierref03_plain.j0 k false a0_0 a0_1 a0_2 a0_3 l0_4 l0_5) else (haulierref03_plain.j0 k (a0_0 != 6) a0_0 a0_1 a0_2 a0_3 l0_4 l0_5)) else (haulierref03_plain.j0 k false a0_0 a0_1 a0_2 a0_3 l0_4 l0_5)) else (haulierref03_plain.j0 k true a0_0 a0_1 a0_2 a0_3 l0_4 l0_5))) else (haulierref03_plain.j0 k true a0_0 a0_1 a0_2 a0_3 l0_4 l0_5)))
set_option maxHeartbeats 8000000 in
set_option maxRecDepth 100000 in
theorem haulierref03_plain.calls (k : Nat) (a0_0 : Int) (a0_1 : Bool) (a0_2 : Int) (a0_3 : ByteArray) (A0_4 : Option Addr) (c0_4 : Nat) (l0_4 : List ByteArray) (A0_5 : Option Addr) (c0_5 : Nat) (l0_5 : List Int) (r : Bool) (w : World) (hG : Aside0 (Glob w)) (hr0_4 : Kd.C Kd.string w A0_4 l0_4.length l0_4) (hc0_4 : l0_4.length ≤ c0_4) (hr0_5 : Kd.C (Kd.int .i64) w A0_5 l0_5.length l0_5) (hc0_5 : l0_5.length ≤ c0_5) (h : haulierref03_plain.f k a0_0 a0_1 a0_2 a0_3 l0_4 l0_5 = some r) :
    Calls Tryd.prog 24 #[.agg #[.int .i64 a0_0, .bool a0_1, .int .i64 a0_2, .string a0_3, .slice A0_4 l0_4.length c0_4, .slice A0_5 l0_5.length c0_5]] w fun e w' => e = .returned (.bool r) ∧ Below w.heap.size w w' := by
  have hu39 := Tryd.underlying39
  have HR0_4 := Aside0.mk hr0_4
  have HC0_4 := Aside0.mk hc0_4
  clear hr0_4 hc0_4
  have HR0_5 := Aside0.mk hr0_5
  have HC0_5 := Aside0.mk hc0_5
  clear hr0_5 hc0_5
  have HB := Aside0.mk (Below.refl w.heap.size w)
  have H : (if a0_1 = true then (if a0_0 = 2 then (if a0_2 = 0 then (if a0_3.toList = ([] : List UInt8) then (if (l0_5.length : Int) > 0 then (if a0_0 = 5 then (haulierref03_plain.j0 k false a0_0 a0_1 a0_2 a0_3 l0_4 l0_5) else (haulierref03_plain.j0 k (a0_0 != 6) a0_0 a0_1 a0_2 a0_3 l0_4 l0_5)) else (haulierref03_plain.j0 k false a0_0 a0_1 a0_2 a0_3 l0_4 l0_5)) else (if a0_0 = 4 then (if (l0_5.length : Int) > 0 then (if a0_0 = 5 then (haulierref03_plain.j0 k false a0_0 a0_1 a0_2 a0_3 l0_4 l0_5) else (haulierref03_plain.j0 k (a0_0 != 6) a0_0 a0_1 a0_2 a0_3 l0_4 l0_5)) else (haulierref03_plain.j0 k false a0_0 a0_1 a0_2 a0_3 l0_4 l0_5)) else (haulierref03_plain.j0 k true a0_0 a0_1 a0_2 a0_3 l0_4 l0_5))) else (if a0_0 = 3 then (if a0_3.toList = ([] : List UInt8) then (if (l0_5.length : Int) > 0 then (if a0_0 = 5 then (haulierref03_plain.j0 k false a0_0 a0_1 a0_2 a0_3 l0_4 l0_5) else (haulierref03_plain.j0 k (a0_0 != 6) a0_0 a0_1 a0_2 a0_3 l0_4 l0_5)) else (haulierref03_plain.j0 k false a0_0 a0_1 a0_2 a0_3 l0_4 l0_5)) else (if a0_0 = 4 then (if (l0_5.length : Int) > 0 then (if a0_0 = 5 then (haulierref03_plain.j0 k false a0_0 a0_1 a0_2 a0_3 l0_4 l0_5) else (haulierref03_plain.j0 k (a0_0 != 6) a0_0 a0_1 a0_2 a0_3 l0_4 l0_5)) else (haulierref03_plain.j0 k false a0_0 a0_1 a0_2 a0_3 l0_4 l0_5)) else (haulierref03_plain.j0 k true a0_0 a0_1 a0_2 a0_3 l0_4 l0_5))) else (haulierref03_plain.j0 k true a0_0 a0_1 a0_2 a0_3 l0_4 l0_5))) else (haulierref03_plain.j0 k true a0_0 a0_1 a0_2 a0_3 l0_4 l0_5)) else (if a0_2 = 0 then (if a0_3.toList = ([] : List UInt8) then (if (l0_5.length : Int) > 0 then (if a0_0 = 5 then (haulierref03_plain.j0 k false a0_0 a0_1 a0_2 a0_3 l0_4 l0_5) else (haulierref03_plain.j0 k (a0_0 != 6) a0_0 a0_1 a0_2 a0_3 l0_4 l0_5)) else (haulierref03_plain.j0 k false a0_0 a0_1 a0_2 a0_3 l0_4 l0_5)) else (if a0_0 = 4 then (if (l0_5.length : Int) > 0 then (if a0_0 = 5 then (haulierref03_plain.j0 k false a0_0 a0_1 a0_2 a0_3 l0_4 l0_5) else (haulierref03_plain.j0 k (a0_0 != 6) a0_0 a0_1 a0_2 a0_3 l0_4 l0_5)) else (haulierref03_plain.j0 k false a0_0 a0_1 a0_2 a0_3 l0_4 l0_5)) else (haulierref03_plain.j0 k true a0_0 a0_1 a0_2 a0_3 l0_4 l0_5))) else (if a0_0 = 3 then (if a0_3.toList = ([] : List UInt8) then (if (l0_5.length : Int) > 0 then (if a0_0 = 5 then (haulierref03_plain.j0 k false a0_0 a0_1 a0_2 a0_3 l0_4 l0_5) else (haulierref03_plain.j0 k (a0_0 != 6) a0_0 a0_1 a0_2 a0_3 l0_4 l0_5)) else (haulierref03_plain.j0 k false a0_0 a0_1 a0_2 a0_3 l0_4 l0_5)) else (if a0_0 = 4 then (if (l0_5.length : Int) > 0 then (if a0_0 = 5 then (haulierref03_plain.j0 k false a0_0 a0_1 a0_2 a0_3 l0_4 l0_5) else (haulierref03_plain.j0 k (a0_0 != 6) a0_0 a0_1 a0_2 a0_3 l0_4 l0_5)) else (haulierref03_plain.j0 k false a0_0 a0_1 a0_2 a0_3 l0_4 l0_5)) else (haulierref03_plain.j0 k true a0_0 a0_1 a0_2 a0_3 l0_4 l0_5))) else (haulierref03_plain.j0 k true a0_0 a0_1 a0_2 a0_3 l0_4 l0_5)))) = some r := h
  clear h
  have HC2 := Aside0.mk H
  clear H
  go_enter Tryd.func24, Tryd.ntmps24
  go_upto_region 1 with (first | ((with_reducible refine gate_dst (N := 1) rfl ?_); (try (refine gate_guard (by rfl) ?_; dsimp only)); refine box_event ?hg (N := 1) ?hd (cs := #[.int .i64 a0_0, .bool a0_1, .int .i64 a0_2, .string a0_3, .slice A0_4 l0_4.length c0_4, .slice A0_5 l0_5.length c0_5]) (t := 39) ?hr ?_; (case hd => rfl); (case hg => rfl); (case hr => first | (go_simp; done) | (go_simp; rfl)); intro gb128 hg w3 hbox hb; have n0_ := Aside0.mk (below_step (by repeat (first | (with_reducible first | exact HB.out | apply below_alloc | apply pw_below_drewN | apply below_drew1) | exact HB.out)) hb); have n1_ := Aside0.mk (hbox); have n2_ := Aside0.mk ((by rw [hg]; exact (below_size (by repeat (first | (with_reducible first | exact HB.out | apply below_alloc | apply pw_below_drewN | apply below_drew1) | exact HB.out))) : w.heap.size ≤ gb128)); have n3_ := Aside0.mk ((by rw [hg]; exact (below_size (by repeat (first | (with_reducible first | exact HB.out | apply below_alloc | apply pw_below_drewN | apply below_drew1) | exact HB.out))) : w.heap.size ≤ gb128)); clear HB; have HB := n0_; have BK128 := n1_; have GW128 := n2_; have GE128 := n3_; clear n0_ n1_ n2_ n3_; clear hb hbox hg))
  repeat (go_quiet (first | ((with_reducible refine gate_dst (N := 1) rfl ?_); (try (refine gate_guard (by rfl) ?_; dsimp only)); refine box_event ?hg (N := 1) ?hd (cs := #[.int .i64 a0_0, .bool a0_1, .int .i64 a0_2, .string a0_3, .slice A0_4 l0_4.length c0_4, .slice A0_5 l0_5.length c0_5]) (t := 39) ?hr ?_; (case hd => rfl); (case hg => rfl); (case hr => first | (go_simp; done) | (go_simp; rfl)); intro gb128 hg w3 hbox hb; have n0_ := Aside0.mk (below_step (by repeat (first | (with_reducible first | exact HB.out | apply below_alloc | apply pw_below_drewN | apply below_drew1) | exact HB.out)) hb); have n1_ := Aside0.mk (hbox); have n2_ := Aside0.mk ((by rw [hg]; exact (below_size (by repeat (first | (with_reducible first | exact HB.out | apply below_alloc | apply pw_below_drewN | apply below_drew1) | exact HB.out))) : w.heap.size ≤ gb128)); have n3_ := Aside0.mk ((by rw [hg]; exact (below_size (by repeat (first | (with_reducible first | exact HB.out | apply below_alloc | apply pw_below_drewN | apply below_drew1) | exact HB.out))) : w.heap.size ≤ gb128)); clear HB; have HB := n0_; have BK128 := n1_; have GW128 := n2_; have GE128 := n3_; clear n0_ n1_ n2_ n3_; clear hb hbox hg)); go_upto_region 1 with (first | ((with_reducible refine gate_dst (N := 1) rfl ?_); (try (refine gate_guard (by rfl) ?_; dsimp only)); refine box_event ?hg (N := 1) ?hd (cs := #[.int .i64 a0_0, .bool a0_1, .int .i64 a0_2, .string a0_3, .slice A0_4 l0_4.length c0_4, .slice A0_5 l0_5.length c0_5]) (t := 39) ?hr ?_; (case hd => rfl); (case hg => rfl); (case hr => first | (go_simp; done) | (go_simp; rfl)); intro gb128 hg w3 hbox hb; have n0_ := Aside0.mk (below_step (by repeat (first | (with_reducible first | exact HB.out | apply below_alloc | apply pw_below_drewN | apply below_drew1) | exact HB.out)) hb); have n1_ := Aside0.mk (hbox); have n2_ := Aside0.mk ((by rw [hg]; exact (below_size (by repeat (first | (with_reducible first | exact HB.out | apply below_alloc | apply pw_below_drewN | apply below_drew1) | exact HB.out))) : w.heap.size ≤ gb128)); have n3_ := Aside0.mk ((by rw [hg]; exact (below_size (by repeat (first | (with_reducible first | exact HB.out | apply below_alloc | apply pw_below_drewN | apply below_drew1) | exact HB.out))) : w.heap.size ≤ gb128)); clear HB; have HB := n0_; have BK128 := n1_; have GW128 := n2_; have GE128 := n3_; clear n0_ n1_ n2_ n3_; clear hb hbox hg)))
  (try simp only [Act.put, List.setIfInBounds_toArray, List.set_cons_zero, List.set_cons_succ])
  go_cut [47] (fun v47 wc => ∃ (kq : Nat) (x47_1 : Bool), v47 = .bool x47_1 ∧ Aside0 (haulierref03_plain.j0 kq x47_1 a0_0 a0_1 a0_2 a0_3 l0_4 l0_5 = some r) ∧ Aside0 (kq ≤ k) ∧ Aside0 (wc.heap[gb128]? = some (.cells #[.int .i64 a0_0, .bool a0_1, .int .i64 a0_2, .string a0_3, (.slice A0_4 l0_4.length c0_4), (.slice A0_5 l0_5.length c0_5)] 39 (0, 0))) ∧ Aside0 (Below w.heap.size w wc))
  case first =>
    have H := HC2.out
    clear HC2
    by_cases c4 : a0_1 = true
    · subst c4
      have H1 : (if a0_0 = 2 then (if a0_2 = 0 then (if a0_3.toList = ([] : List UInt8) then (if (l0_5.length : Int) > 0 then (if a0_0 = 5 then (haulierref03_plain.j0 k false a0_0 true a0_2 a0_3 l0_4 l0_5) else (haulierref03_plain.j0 k (a0_0 != 6) a0_0 true a0_2 a0_3 l0_4 l0_5)) else (haulierref03_plain.j0 k false a0_0 true a0_2 a0_3 l0_4 l0_5)) else (if a0_0 = 4 then (if (l0_5.length : Int) > 0 then (if a0_0 = 5 then (haulierref03_plain.j0 k false a0_0 true a0_2 a0_3 l0_4 l0_5) else (haulierref03_plain.j0 k (a0_0 != 6) a0_0 true a0_2 a0_3 l0_4 l0_5)) else (haulierref03_plain.j0 k false a0_0 true a0_2 a0_3 l0_4 l0_5)) else (haulierref03_plain.j0 k true a0_0 true a0_2 a0_3 l0_4 l0_5))) else (if a0_0 = 3 then (if a0_3.toList = ([] : List UInt8) then (if (l0_5.length : Int) > 0 then (if a0_0 = 5 then (haulierref03_plain.j0 k false a0_0 true a0_2 a0_3 l0_4 l0_5) else (haulierref03_plain.j0 k (a0_0 != 6) a0_0 true a0_2 a0_3 l0_4 l0_5)) else (haulierref03_plain.j0 k false a0_0 true a0_2 a0_3 l0_4 l0_5)) else (if a0_0 = 4 then (if (l0_5.length : Int) > 0 then (if a0_0 = 5 then (haulierref03_plain.j0 k false a0_0 true a0_2 a0_3 l0_4 l0_5) else (haulierref03_plain.j0 k (a0_0 != 6) a0_0 true a0_2 a0_3 l0_4 l0_5)) else (haulierref03_plain.j0 k false a0_0 true a0_2 a0_3 l0_4 l0_5)) else (haulierref03_plain.j0 k true a0_0 true a0_2 a0_3 l0_4 l0_5))) else (haulierref03_plain.j0 k true a0_0 true a0_2 a0_3 l0_4 l0_5))) else (haulierref03_plain.j0 k true a0_0 true a0_2 a0_3 l0_4 l0_5)) = some r := by rw [if_pos rfl] at H; exact H
      clear H
      have H := H1
      clear H1
      by_cases c5 : a0_0 = 2
      · rw [if_pos c5] at H
        have c5b0 : (a0_0 == 2) = true := beq_iff_eq.mpr c5
        have c5b1 : (a0_0 != 2) = false := bne_eq_false_iff_eq.mpr c5
        clear c5
        (first | rw [c5b0] | (simp only [i64_w, i32_w]; rw [c5b0]) | skip)
        by_cases c6 : a0_2 = 0
        · rw [if_pos c6] at H
          have c6b0 : (a0_2 == 0) = true := beq_iff_eq.mpr c6
          have c6b1 : (a0_2 != 0) = false := bne_eq_false_iff_eq.mpr c6
          clear c6
          by_cases c7 : a0_3.toList = ([] : List UInt8)
          · rw [if_pos c7] at H
            have c7b0 : (a0_3.toList == ([] : List UInt8)) = true := beq_iff_eq.mpr c7
            have c7b1 : (a0_3.toList != ([] : List UInt8)) = false := bne_eq_false_iff_eq.mpr c7
            clear c7
            by_cases c8 : (l0_5.length : Int) > 0
            · rw [if_pos c8] at H
              have c8b0 : decide (0 < (l0_5.length : Int)) = true := decide_eq_true c8
              have c8b1 : decide (0 < l0_5.length) = true := decide_eq_true (by omega)
              clear c8
              by_cases c9 : a0_0 = 5
              · rw [if_pos c9] at H
                have c9b0 : (a0_0 == 5) = true := beq_iff_eq.mpr c9
                have c9b1 : (a0_0 != 5) = false := bne_eq_false_iff_eq.mpr c9
                clear c9
                have H' := Aside0.mk H
                clear H
                have hcz10_0 : w3.cell? ⟨gb128, 0, none⟩ = some (.int .i64 a0_0) := (blk_cell BK128.out 0).trans rfl
                have hcz10_1 : w3.cell? ⟨gb128, 1, none⟩ = some (.bool true) := (blk_cell BK128.out 1).trans rfl
                have hcz10_2 : w3.cell? ⟨gb128, 2, none⟩ = some (.int .i64 a0_2) := (blk_cell BK128.out 2).trans rfl
                have hcz10_3 : w3.cell? ⟨gb128, 3, none⟩ = some (.string a0_3) := (blk_cell BK128.out 3).trans rfl
                have hcz10_4 : w3.cell? ⟨gb128, 4, none⟩ = some (.slice A0_4 l0_4.length c0_4) := (blk_cell BK128.out 4).trans rfl
                have hcz10_5 : w3.cell? ⟨gb128, 5, none⟩ = some (.slice A0_5 l0_5.length c0_5) := (blk_cell BK128.out 5).trans rfl
                have hfz10_0 := blk_frozen BK128.out 0
                have hfz10_1 := blk_frozen BK128.out 1
                have hfz10_2 := blk_frozen BK128.out 2
                have hfz10_3 := blk_frozen BK128.out 3
                have hfz10_4 := blk_frozen BK128.out 4
                have hfz10_5 := blk_frozen BK128.out 5
                go_wp2
                repeat (go_quiet (fail); try go_wp2)
                go_meet
                case rel => exact ⟨_, (false), (by first | rfl | (simp; done) | (simp [*]; done)), H', ⟨by first | omega | exact Nat.le_refl _⟩, ⟨by (with_reducible repeat (first | refine blk_drewN ?_ _ | refine blk_drew ?_ | refine blk_alloc ?_ _)); exact BK128.out⟩, ⟨by repeat (first | (with_reducible first | exact HB.out | apply below_alloc | apply pw_below_drewN | apply below_drew1 | refine below_set ?_ GE128.out) | exact HB.out)⟩⟩
              · rw [if_neg c9] at H
                have c9b0 : (a0_0 == 5) = false := beq_eq_false_iff_ne.mpr c9
                have c9b1 : (a0_0 != 5) = true := bne_iff_ne.mpr c9
                have H' := Aside0.mk H
                clear H
                have hcz11_0 : w3.cell? ⟨gb128, 0, none⟩ = some (.int .i64 a0_0) := (blk_cell BK128.out 0).trans rfl
                have hcz11_1 : w3.cell? ⟨gb128, 1, none⟩ = some (.bool true) := (blk_cell BK128.out 1).trans rfl
                have hcz11_2 : w3.cell? ⟨gb128, 2, none⟩ = some (.int .i64 a0_2) := (blk_cell BK128.out 2).trans rfl
                have hcz11_3 : w3.cell? ⟨gb128, 3, none⟩ = some (.string a0_3) := (blk_cell BK128.out 3).trans rfl
                have hcz11_4 : w3.cell? ⟨gb128, 4, none⟩ = some (.slice A0_4 l0_4.length c0_4) := (blk_cell BK128.out 4).trans rfl
                have hcz11_5 : w3.cell? ⟨gb128, 5, none⟩ = some (.slice A0_5 l0_5.length c0_5) := (blk_cell BK128.out 5).trans rfl
                have hfz11_0 := blk_frozen BK128.out 0
                have hfz11_1 := blk_frozen BK128.out 1
                have hfz11_2 := blk_frozen BK128.out 2
                have hfz11_3 := blk_frozen BK128.out 3
                have hfz11_4 := blk_frozen BK128.out 4
                have hfz11_5 := blk_frozen BK128.out 5
                go_wp2
                repeat (go_quiet (fail); try go_wp2)
                go_meet
                case rel => exact ⟨_, ((a0_0 != 6)), (by first | rfl | (simp; done) | (simp [*]; done)), H', ⟨by first | omega | exact Nat.le_refl _⟩, ⟨by (with_reducible repeat (first | refine blk_drewN ?_ _ | refine blk_drew ?_ | refine blk_alloc ?_ _)); exact BK128.out⟩, ⟨by repeat (first | (with_reducible first | exact HB.out | apply below_alloc | apply pw_below_drewN | apply below_drew1 | refine below_set ?_ GE128.out) | exact HB.out)⟩⟩
            · rw [if_neg c8] at H
              have c8b0 : decide (0 < (l0_5.length : Int)) = false := decide_eq_false c8
              have c8b1 : decide (0 < l0_5.length) = false := decide_eq_false (by omega)
              clear c8
              have H' := Aside0.mk H
              clear H
              have hcz12_0 : w3.cell? ⟨gb128, 0, none⟩ = some (.int .i64 a0_0) := (blk_cell BK128.out 0).trans rfl
              have hcz12_1 : w3.cell? ⟨gb128, 1, none⟩ = some (.bool true) := (blk_cell BK128.out 1).trans rfl
              have hcz12_2 : w3.cell? ⟨gb128, 2, none⟩ = some (.int .i64 a0_2) := (blk_cell BK128.out 2).trans rfl
              have hcz12_3 : w3.cell? ⟨gb128, 3, none⟩ = some (.string a0_3) := (blk_cell BK128.out 3).trans rfl
              have hcz12_4 : w3.cell? ⟨gb128, 4, none⟩ = some (.slice A0_4 l0_4.length c0_4) := (blk_cell BK128.out 4).trans rfl
              have hcz12_5 : w3.cell? ⟨gb128, 5, none⟩ = some (.slice A0_5 l0_5.length c0_5) := (blk_cell BK128.out 5).trans rfl
              have hfz12_0 := blk_frozen BK128.out 0
              have hfz12_1 := blk_frozen BK128.out 1
              have hfz12_2 := blk_frozen BK128.out 2
              have hfz12_3 := blk_frozen BK128.out 3
              have hfz12_4 := blk_frozen BK128.out 4
              have hfz12_5 := blk_frozen BK128.out 5
              go_wp2
              repeat (go_quiet (fail); try go_wp2)
              go_meet
              case rel => exact ⟨_, (false), (by first | rfl | (simp; done) | (simp [*]; done)), H', ⟨by first | omega | exact Nat.le_refl _⟩, ⟨by (with_reducible repeat (first | refine blk_drewN ?_ _ | refine blk_drew ?_ | refine blk_alloc ?_ _)); exact BK128.out⟩, ⟨by repeat (first | (with_reducible first | exact HB.out | apply below_alloc | apply pw_below_drewN | apply below_drew1 | refine below_set ?_ GE128.out) | exact HB.out)⟩⟩
          · rw [if_neg c7] at H
            have c7b0 : (a0_3.toList == ([] : List UInt8)) = false := beq_eq_false_iff_ne.mpr c7
            have c7b1 : (a0_3.toList != ([] : List UInt8)) = true := bne_iff_ne.mpr c7
            by_cases c13 : a0_0 = 4
            · rw [if_pos c13] at H
              have c13b0 : (a0_0 == 4) = true := beq_iff_eq.mpr c13
              have c13b1 : (a0_0 != 4) = false := bne_eq_false_iff_eq.mpr c13
              clear c13
              by_cases c14 : (l0_5.length : Int) > 0
              · rw [if_pos c14] at H
                have c14b0 : decide (0 < (l0_5.length : Int)) = true := decide_eq_true c14
                have c14b1 : decide (0 < l0_5.length) = true := decide_eq_true (by omega)
                clear c14
                by_cases c15 : a0_0 = 5
                · rw [if_pos c15] at H
                  have c15b0 : (a0_0 == 5) = true := beq_iff_eq.mpr c15
                  have c15b1 : (a0_0 != 5) = false := bne_eq_false_iff_eq.mpr c15
                  clear c15
                  have H' := Aside0.mk H
                  clear H
                  have hcz16_0 : w3.cell? ⟨gb128, 0, none⟩ = some (.int .i64 a0_0) := (blk_cell BK128.out 0).trans rfl
                  have hcz16_1 : w3.cell? ⟨gb128, 1, none⟩ = some (.bool true) := (blk_cell BK128.out 1).trans rfl
                  have hcz16_2 : w3.cell? ⟨gb128, 2, none⟩ = some (.int .i64 a0_2) := (blk_cell BK128.out 2).trans rfl
                  have hcz16_3 : w3.cell? ⟨gb128, 3, none⟩ = some (.string a0_3) := (blk_cell BK128.out 3).trans rfl
                  have hcz16_4 : w3.cell? ⟨gb128, 4, none⟩ = some (.slice A0_4 l0_4.length c0_4) := (blk_cell BK128.out 4).trans rfl
                  have hcz16_5 : w3.cell? ⟨gb128, 5, none⟩ = some (.slice A0_5 l0_5.length c0_5) := (blk_cell BK128.out 5).trans rfl
                  have hfz16_0 := blk_frozen BK128.out 0
                  have hfz16_1 := blk_frozen BK128.out 1
                  have hfz16_2 := blk_frozen BK128.out 2
                  have hfz16_3 := blk_frozen BK128.out 3
                  have hfz16_4 := blk_frozen BK128.out 4
                  have hfz16_5 := blk_frozen BK128.out 5
                  go_wp2
                  repeat (go_quiet (fail); try go_wp2)
                  go_meet
                  case rel => exact ⟨_, (false), (by first | rfl | (simp; done) | (simp [*]; done)), H', ⟨by first | omega | exact Nat.le_refl _⟩, ⟨by (with_reducible repeat (first | refine blk_drewN ?_ _ | refine blk_drew ?_ | refine blk_alloc ?_ _)); exact BK128.out⟩, ⟨by repeat (first | (with_reducible first | exact HB.out | apply below_alloc | apply pw_below_drewN | apply below_drew1 | refine below_set ?_ GE128.out) | exact HB.out)⟩⟩
                · rw [if_neg c15] at H
                  have c15b0 : (a0_0 == 5) = false := beq_eq_false_iff_ne.mpr c15
                  have c15b1 : (a0_0 != 5) = true := bne_iff_ne.mpr c15
                  have H' := Aside0.mk H
                  clear H
                  have hcz17_0 : w3.cell? ⟨gb128, 0, none⟩ = some (.int .i64 a0_0) := (blk_cell BK128.out 0).trans rfl
                  have hcz17_1 : w3.cell? ⟨gb128, 1, none⟩ = some (.bool true) := (blk_cell BK128.out 1).trans rfl
                  have hcz17_2 : w3.cell? ⟨gb128, 2, none⟩ = some (.int .i64 a0_2) := (blk_cell BK128.out 2).trans rfl
                  have hcz17_3 : w3.cell? ⟨gb128, 3, none⟩ = some (.string a0_3) := (blk_cell BK128.out 3).trans rfl
                  have hcz17_4 : w3.cell? ⟨gb128, 4, none⟩ = some (.slice A0_4 l0_4.length c0_4) := (blk_cell BK128.out 4).trans rfl
                  have hcz17_5 : w3.cell? ⟨gb128, 5, none⟩ = some (.slice A0_5 l0_5.length c0_5) := (blk_cell BK128.out 5).trans rfl
                  have hfz17_0 := blk_frozen BK128.out 0
                  have hfz17_1 := blk_frozen BK128.out 1
                  have hfz17_2 := blk_frozen BK128.out 2
                  have hfz17_3 := blk_frozen BK128.out 3
                  have hfz17_4 := blk_frozen BK128.out 4
                  have hfz17_5 := blk_frozen BK128.out 5
                  go_wp2
                  repeat (go_quiet (fail); try go_wp2)
                  go_meet
                  case rel => exact ⟨_, ((a0_0 != 6)), (by first | rfl | (simp; done) | (simp [*]; done)), H', ⟨by first | omega | exact Nat.le_refl _⟩, ⟨by (with_reducible repeat (first | refine blk_drewN ?_ _ | refine blk_drew ?_ | refine blk_alloc ?_ _)); exact BK128.out⟩, ⟨by repeat (first | (with_reducible first | exact HB.out | apply below_alloc | apply pw_below_drewN | apply below_drew1 | refine below_set ?_ GE128.out) | exact HB.out)⟩⟩
              · rw [if_neg c14] at H
                have c14b0 : decide (0 < (l0_5.length : Int)) = false := decide_eq_false c14
                have c14b1 : decide (0 < l0_5.length) = false := decide_eq_false (by omega)
                clear c14
                have H' := Aside0.mk H
                clear H
                have hcz18_0 : w3.cell? ⟨gb128, 0, none⟩ = some (.int .i64 a0_0) := (blk_cell BK128.out 0).trans rfl
                have hcz18_1 : w3.cell? ⟨gb128, 1, none⟩ = some (.bool true) := (blk_cell BK128.out 1).trans rfl
                have hcz18_2 : w3.cell? ⟨gb128, 2, none⟩ = some (.int .i64 a0_2) := (blk_cell BK128.out 2).trans rfl
                have hcz18_3 : w3.cell? ⟨gb128, 3, none⟩ = some (.string a0_3) := (blk_cell BK128.out 3).trans rfl
                have hcz18_4 : w3.cell? ⟨gb128, 4, none⟩ = some (.slice A0_4 l0_4.length c0_4) := (blk_cell BK128.out 4).trans rfl
                have hcz18_5 : w3.cell? ⟨gb128, 5, none⟩ = some (.slice A0_5 l0_5.length c0_5) := (blk_cell BK128.out 5).trans rfl
                have hfz18_0 := blk_frozen BK128.out 0
                have hfz18_1 := blk_frozen BK128.out 1
                have hfz18_2 := blk_frozen BK128.out 2
                have hfz18_3 := blk_frozen BK128.out 3
                have hfz18_4 := blk_frozen BK128.out 4
                have hfz18_5 := blk_frozen BK128.out 5
                go_wp2
                repeat (go_quiet (fail); try go_wp2)
                go_meet
                case rel => exact ⟨_, (false), (by first | rfl | (simp; done) | (simp [*]; done)), H', ⟨by first | omega | exact Nat.le_refl _⟩, ⟨by (with_reducible repeat (first | refine blk_drewN ?_ _ | refine blk_drew ?_ | refine blk_alloc ?_ _)); exact BK128.out⟩, ⟨by repeat (first | (with_reducible first | exact HB.out | apply below_alloc | apply pw_below_drewN | apply below_drew1 | refine below_set ?_ GE128.out) | exact HB.out)⟩⟩
            · rw [if_neg c13] at H
              have c13b0 : (a0_0 == 4) = false := beq_eq_false_iff_ne.mpr c13
              have c13b1 : (a0_0 != 4) = true := bne_iff_ne.mpr c13
              have H' := Aside0.mk H
              clear H
              have hcz19_0 : w3.cell? ⟨gb128, 0, none⟩ = some (.int .i64 a0_0) := (blk_cell BK128.out 0).trans rfl
              have hcz19_1 : w3.cell? ⟨gb128, 1, none⟩ = some (.bool true) := (blk_cell BK128.out 1).trans rfl
              have hcz19_2 : w3.cell? ⟨gb128, 2, none⟩ = some (.int .i64 a0_2) := (blk_cell BK128.out 2).trans rfl
              have hcz19_3 : w3.cell? ⟨gb128, 3, none⟩ = some (.string a0_3) := (blk_cell BK128.out 3).trans rfl
              have hcz19_4 : w3.cell? ⟨gb128, 4, none⟩ = some (.slice A0_4 l0_4.length c0_4) := (blk_cell BK128.out 4).trans rfl
              have hcz19_5 : w3.cell? ⟨gb128, 5, none⟩ = some (.slice A0_5 l0_5.length c0_5) := (blk_cell BK128.out 5).trans rfl
              have hfz19_0 := blk_frozen BK128.out 0
              have hfz19_1 := blk_frozen BK128.out 1
              have hfz19_2 := blk_frozen BK128.out 2
              have hfz19_3 := blk_frozen BK128.out 3
              have hfz19_4 := blk_frozen BK128.out 4
              have hfz19_5 := blk_frozen BK128.out 5
              go_wp2
              repeat (go_quiet (fail); try go_wp2)
              go_meet
              case rel => exact ⟨_, (true), (by first | rfl | (simp; done) | (simp [*]; done)), H', ⟨by first | omega | exact Nat.le_refl _⟩, ⟨by (with_reducible repeat (first | refine blk_drewN ?_ _ | refine blk_drew ?_ | refine blk_alloc ?_ _)); exact BK128.out⟩, ⟨by repeat (first | (with_reducible first | exact HB.out | apply below_alloc | apply pw_below_drewN | apply below_drew1 | refine below_set ?_ GE128.out) | exact HB.out)⟩⟩
        · rw [if_neg c6] at H
          have c6b0 : (a0_2 == 0) = false := beq_eq_false_iff_ne.mpr c6
          have c6b1 : (a0_2 != 0) = true := bne_iff_ne.mpr c6
          by_cases c20 : a0_0 = 3
          · rw [if_pos c20] at H
            have c20b0 : (a0_0 == 3) = true := beq_iff_eq.mpr c20
            have c20b1 : (a0_0 != 3) = false := bne_eq_false_iff_eq.mpr c20
            clear c20
            by_cases c21 : a0_3.toList = ([] : List UInt8)
            · rw [if_pos c21] at H
              have c21b0 : (a0_3.toList == ([] : List UInt8)) = true := beq_iff_eq.mpr c21
              have c21b1 : (a0_3.toList != ([] : List UInt8)) = false := bne_eq_false_iff_eq.mpr c21
              clear c21
              by_cases c22 : (l0_5.length : Int) > 0
              · rw [if_pos c22] at H
                have c22b0 : decide (0 < (l0_5.length : Int)) = true := decide_eq_true c22
                have c22b1 : decide (0 < l0_5.length) = true := decide_eq_true (by omega)
                clear c22
                by_cases c23 : a0_0 = 5
                · rw [if_pos c23] at H
                  have c23b0 : (a0_0 == 5) = true := beq_iff_eq.mpr c23
                  have c23b1 : (a0_0 != 5) = false := bne_eq_false_iff_eq.mpr c23
                  clear c23
                  have H' := Aside0.mk H
                  clear H
                  have hcz24_0 : w3.cell? ⟨gb128, 0, none⟩ = some (.int .i64 a0_0) := (blk_cell BK128.out 0).trans rfl
                  have hcz24_1 : w3.cell? ⟨gb128, 1, none⟩ = some (.bool true) := (blk_cell BK128.out 1).trans rfl
                  have hcz24_2 : w3.cell? ⟨gb128, 2, none⟩ = some (.int .i64 a0_2) := (blk_cell BK128.out 2).trans rfl
                  have hcz24_3 : w3.cell? ⟨gb128, 3, none⟩ = some (.string a0_3) := (blk_cell BK128.out 3).trans rfl
                  have hcz24_4 : w3.cell? ⟨gb128, 4, none⟩ = some (.slice A0_4 l0_4.length c0_4) := (blk_cell BK128.out 4).trans rfl
                  have hcz24_5 : w3.cell? ⟨gb128, 5, none⟩ = some (.slice A0_5 l0_5.length c0_5) := (blk_cell BK128.out 5).trans rfl
                  have hfz24_0 := blk_frozen BK128.out 0
                  have hfz24_1 := blk_frozen BK128.out 1
                  have hfz24_2 := blk_frozen BK128.out 2
                  have hfz24_3 := blk_frozen BK128.out 3
                  have hfz24_4 := blk_frozen BK128.out 4
                  have hfz24_5 := blk_frozen BK128.out 5
                  go_wp2
                  repeat (go_quiet (fail); try go_wp2)
                  go_meet
                  case rel => exact ⟨_, (false), (by first | rfl | (simp; done) | (simp [*]; done)), H', ⟨by first | omega | exact Nat.le_refl _⟩, ⟨by (with_reducible repeat (first | refine blk_drewN ?_ _ | refine blk_drew ?_ | refine blk_alloc ?_ _)); exact BK128.out⟩, ⟨by repeat (first | (with_reducible first | exact HB.out | apply below_alloc | apply pw_below_drewN | apply below_drew1 | refine below_set ?_ GE128.out) | exact HB.out)⟩⟩
                · rw [if_neg c23] at H
                  have c23b0 : (a0_0 == 5) = false := beq_eq_false_iff_ne.mpr c23
                  have c23b1 : (a0_0 != 5) = true := bne_iff_ne.mpr c23
                  have H' := Aside0.mk H
                  clear H
                  have hcz25_0 : w3.cell? ⟨gb128, 0, none⟩ = some (.int .i64 a0_0) := (blk_cell BK128.out 0).trans rfl
                  have hcz25_1 : w3.cell? ⟨gb128, 1, none⟩ = some (.bool true) := (blk_cell BK128.out 1).trans rfl
                  have hcz25_2 : w3.cell? ⟨gb128, 2, none⟩ = some (.int .i64 a0_2) := (blk_cell BK128.out 2).trans rfl
                  have hcz25_3 : w3.cell? ⟨gb128, 3, none⟩ = some (.string a0_3) := (blk_cell BK128.out 3).trans rfl
                  have hcz25_4 : w3.cell? ⟨gb128, 4, none⟩ = some (.slice A0_4 l0_4.length c0_4) := (blk_cell BK128.out 4).trans rfl
                  have hcz25_5 : w3.cell? ⟨gb128, 5, none⟩ = some (.slice A0_5 l0_5.length c0_5) := (blk_cell BK128.out 5).trans rfl
                  have hfz25_0 := blk_frozen BK128.out 0
                  have hfz25_1 := blk_frozen BK128.out 1
                  have hfz25_2 := blk_frozen BK128.out 2
                  have hfz25_3 := blk_frozen BK128.out 3
                  have hfz25_4 := blk_frozen BK128.out 4
                  have hfz25_5 := blk_frozen BK128.out 5
                  go_wp2
                  repeat (go_quiet (fail); try go_wp2)
                  go_meet
                  case rel => exact ⟨_, ((a0_0 != 6)), (by first | rfl | (simp; done) | (simp [*]; done)), H', ⟨by first | omega | exact Nat.le_refl _⟩, ⟨by (with_reducible repeat (first | refine blk_drewN ?_ _ | refine blk_drew ?_ | refine blk_alloc ?_ _)); exact BK128.out⟩, ⟨by repeat (first | (with_reducible first | exact HB.out | apply below_alloc | apply pw_below_drewN | apply below_drew1 | refine below_set ?_ GE128.out) | exact HB.out)⟩⟩
              · rw [if_neg c22] at H
                have c22b0 : decide (0 < (l0_5.length : Int)) = false := decide_eq_false c22
                have c22b1 : decide (0 < l0_5.length) = false := decide_eq_false (by omega)
                clear c22
                have H' := Aside0.mk H
                clear H
                have hcz26_0 : w3.cell? ⟨gb128, 0, none⟩ = some (.int .i64 a0_0) := (blk_cell BK128.out 0).trans rfl
                have hcz26_1 : w3.cell? ⟨gb128, 1, none⟩ = some (.bool true) := (blk_cell BK128.out 1).trans rfl
                have hcz26_2 : w3.cell? ⟨gb128, 2, none⟩ = some (.int .i64 a0_2) := (blk_cell BK128.out 2).trans rfl
                have hcz26_3 : w3.cell? ⟨gb128, 3, none⟩ = some (.string a0_3) := (blk_cell BK128.out 3).trans rfl
                have hcz26_4 : w3.cell? ⟨gb128, 4, none⟩ = some (.slice A0_4 l0_4.length c0_4) := (blk_cell BK128.out 4).trans rfl
                have hcz26_5 : w3.cell? ⟨gb128, 5, none⟩ = some (.slice A0_5 l0_5.length c0_5) := (blk_cell BK128.out 5).trans rfl
                have hfz26_0 := blk_frozen BK128.out 0
                have hfz26_1 := blk_frozen BK128.out 1
                have hfz26_2 := blk_frozen BK128.out 2
                have hfz26_3 := blk_frozen BK128.out 3
                have hfz26_4 := blk_frozen BK128.out 4
                have hfz26_5 := blk_frozen BK128.out 5
                go_wp2
                repeat (go_quiet (fail); try go_wp2)
                go_meet
                case rel => exact ⟨_, (false), (by first | rfl | (simp; done) | (simp [*]; done)), H', ⟨by first | omega | exact Nat.le_refl _⟩, ⟨by (with_reducible repeat (first | refine blk_drewN ?_ _ | refine blk_drew ?_ | refine blk_alloc ?_ _)); exact BK128.out⟩, ⟨by repeat (first | (with_reducible first | exact HB.out | apply below_alloc | apply pw_below_drewN | apply below_drew1 | refine below_set ?_ GE128.out) | exact HB.out)⟩⟩
            · rw [if_neg c21] at H
              have c21b0 : (a0_3.toList == ([] : List UInt8)) = false := beq_eq_false_iff_ne.mpr c21
              have c21b1 : (a0_3.toList != ([] : List UInt8)) = true := bne_iff_ne.mpr c21
              by_cases c27 : a0_0 = 4
              · rw [if_pos c27] at H
                have c27b0 : (a0_0 == 4) = true := beq_iff_eq.mpr c27
                have c27b1 : (a0_0 != 4) = false := bne_eq_false_iff_eq.mpr c27
                clear c27
                by_cases c28 : (l0_5.length : Int) > 0
                · rw [if_pos c28] at H
                  have c28b0 : decide (0 < (l0_5.length : Int)) = true := decide_eq_true c28
                  have c28b1 : decide (0 < l0_5.length) = true := decide_eq_true (by omega)
                  clear c28
                  by_cases c29 : a0_0 = 5
                  · rw [if_pos c29] at H
                    have c29b0 : (a0_0 == 5) = true := beq_iff_eq.mpr c29
                    have c29b1 : (a0_0 != 5) = false := bne_eq_false_iff_eq.mpr c29
                    clear c29
                    have H' := Aside0.mk H
                    clear H
                    have hcz30_0 : w3.cell? ⟨gb128, 0, none⟩ = some (.int .i64 a0_0) := (blk_cell BK128.out 0).trans rfl
                    have hcz30_1 : w3.cell? ⟨gb128, 1, none⟩ = some (.bool true) := (blk_cell BK128.out 1).trans rfl
                    have hcz30_2 : w3.cell? ⟨gb128, 2, none⟩ = some (.int .i64 a0_2) := (blk_cell BK128.out 2).trans rfl
                    have hcz30_3 : w3.cell? ⟨gb128, 3, none⟩ = some (.string a0_3) := (blk_cell BK128.out 3).trans rfl
                    have hcz30_4 : w3.cell? ⟨gb128, 4, none⟩ = some (.slice A0_4 l0_4.length c0_4) := (blk_cell BK128.out 4).trans rfl
                    have hcz30_5 : w3.cell? ⟨gb128, 5, none⟩ = some (.slice A0_5 l0_5.length c0_5) := (blk_cell BK128.out 5).trans rfl
                    have hfz30_0 := blk_frozen BK128.out 0
                    have hfz30_1 := blk_frozen BK128.out 1
                    have hfz30_2 := blk_frozen BK128.out 2
                    have hfz30_3 := blk_frozen BK128.out 3
                    have hfz30_4 := blk_frozen BK128.out 4
                    have hfz30_5 := blk_frozen BK128.out 5
                    go_wp2
                    repeat (go_quiet (fail); try go_wp2)
                    go_meet
                    case rel => exact ⟨_, (false), (by first | rfl | (simp; done) | (simp [*]; done)), H', ⟨by first | omega | exact Nat.le_refl _⟩, ⟨by (with_reducible repeat (first | refine blk_drewN ?_ _ | refine blk_drew ?_ | refine blk_alloc ?_ _)); exact BK128.out⟩, ⟨by repeat (first | (with_reducible first | exact HB.out | apply below_alloc | apply pw_below_drewN | apply below_drew1 | refine below_set ?_ GE128.out) | exact HB.out)⟩⟩
                  · rw [if_neg c29] at H
                    have c29b0 : (a0_0 == 5) = false := beq_eq_false_iff_ne.mpr c29
                    have c29b1 : (a0_0 != 5) = true := bne_iff_ne.mpr c29
                    have H' := Aside0.mk H
                    clear H
                    have hcz31_0 : w3.cell? ⟨gb128, 0, none⟩ = some (.int .i64 a0_0) := (blk_cell BK128.out 0).trans rfl
                    have hcz31_1 : w3.cell? ⟨gb128, 1, none⟩ = some (.bool true) := (blk_cell BK128.out 1).trans rfl
                    have hcz31_2 : w3.cell? ⟨gb128, 2, none⟩ = some (.int .i64 a0_2) := (blk_cell BK128.out 2).trans rfl
                    have hcz31_3 : w3.cell? ⟨gb128, 3, none⟩ = some (.string a0_3) := (blk_cell BK128.out 3).trans rfl
                    have hcz31_4 : w3.cell? ⟨gb128, 4, none⟩ = some (.slice A0_4 l0_4.length c0_4) := (blk_cell BK128.out 4).trans rfl
                    have hcz31_5 : w3.cell? ⟨gb128, 5, none⟩ = some (.slice A0_5 l0_5.length c0_5) := (blk_cell BK128.out 5).trans rfl
                    have hfz31_0 := blk_frozen BK128.out 0
                    have hfz31_1 := blk_frozen BK128.out 1
                    have hfz31_2 := blk_frozen BK128.out 2
                    have hfz31_3 := blk_frozen BK128.out 3
                    have hfz31_4 := blk_frozen BK128.out 4
                    have hfz31_5 := blk_frozen BK128.out 5
                    go_wp2
                    repeat (go_quiet (fail); try go_wp2)
                    go_meet
                    case rel => exact ⟨_, ((a0_0 != 6)), (by first | rfl | (simp; done) | (simp [*]; done)), H', ⟨by first | omega | exact Nat.le_refl _⟩, ⟨by (with_reducible repeat (first | refine blk_drewN ?_ _ | refine blk_drew ?_ | refine blk_alloc ?_ _)); exact BK128.out⟩, ⟨by repeat (first | (with_reducible first | exact HB.out | apply below_alloc | apply pw_below_drewN | apply below_drew1 | refine below_set ?_ GE128.out) | exact HB.out)⟩⟩
                · rw [if_neg c28] at H
                  have c28b0 : decide (0 < (l0_5.length : Int)) = false := decide_eq_false c28
                  have c28b1 : decide (0 < l0_5.length) = false := decide_eq_false (by omega)
                  clear c28
                  have H' := Aside0.mk H
                  clear H
                  have hcz32_0 : w3.cell? ⟨gb128, 0, none⟩ = some (.int .i64 a0_0) := (blk_cell BK128.out 0).trans rfl
                  have hcz32_1 : w3.cell? ⟨gb128, 1, none⟩ = some (.bool true) := (blk_cell BK128.out 1).trans rfl
                  have hcz32_2 : w3.cell? ⟨gb128, 2, none⟩ = some (.int .i64 a0_2) := (blk_cell BK128.out 2).trans rfl
                  have hcz32_3 : w3.cell? ⟨gb128, 3, none⟩ = some (.string a0_3) := (blk_cell BK128.out 3).trans rfl
                  have hcz32_4 : w3.cell? ⟨gb128, 4, none⟩ = some (.slice A0_4 l0_4.length c0_4) := (blk_cell BK128.out 4).trans rfl
                  have hcz32_5 : w3.cell? ⟨gb128, 5, none⟩ = some (.slice A0_5 l0_5.length c0_5) := (blk_cell BK128.out 5).trans rfl
                  have hfz32_0 := blk_frozen BK128.out 0
                  have hfz32_1 := blk_frozen BK128.out 1
                  have hfz32_2 := blk_frozen BK128.out 2
                  have hfz32_3 := blk_frozen BK128.out 3
                  have hfz32_4 := blk_frozen BK128.out 4
                  have hfz32_5 := blk_frozen BK128.out 5
                  go_wp2
                  repeat (go_quiet (fail); try go_wp2)
                  go_meet
                  case rel => exact ⟨_, (false), (by first | rfl | (simp; done) | (simp [*]; done)), H', ⟨by first | omega | exact Nat.le_refl _⟩, ⟨by (with_reducible repeat (first | refine blk_drewN ?_ _ | refine blk_drew ?_ | refine blk_alloc ?_ _)); exact BK128.out⟩, ⟨by repeat (first | (with_reducible first | exact HB.out | apply below_alloc | apply pw_below_drewN | apply below_drew1 | refine below_set ?_ GE128.out) | exact HB.out)⟩⟩
              · rw [if_neg c27] at H
                have c27b0 : (a0_0 == 4) = false := beq_eq_false_iff_ne.mpr c27
                have c27b1 : (a0_0 != 4) = true := bne_iff_ne.mpr c27
                have H' := Aside0.mk H
                clear H
                have hcz33_0 : w3.cell? ⟨gb128, 0, none⟩ = some (.int .i64 a0_0) := (blk_cell BK128.out 0).trans rfl
                have hcz33_1 : w3.cell? ⟨gb128, 1, none⟩ = some (.bool true) := (blk_cell BK128.out 1).trans rfl
                have hcz33_2 : w3.cell? ⟨gb128, 2, none⟩ = some (.int .i64 a0_2) := (blk_cell BK128.out 2).trans rfl
                have hcz33_3 : w3.cell? ⟨gb128, 3, none⟩ = some (.string a0_3) := (blk_cell BK128.out 3).trans rfl
                have hcz33_4 : w3.cell? ⟨gb128, 4, none⟩ = some (.slice A0_4 l0_4.length c0_4) := (blk_cell BK128.out 4).trans rfl
                have hcz33_5 : w3.cell? ⟨gb128, 5, none⟩ = some (.slice A0_5 l0_5.length c0_5) := (blk_cell BK128.out 5).trans rfl
                have hfz33_0 := blk_frozen BK128.out 0
                have hfz33_1 := blk_frozen BK128.out 1
                have hfz33_2 := blk_frozen BK128.out 2
                have hfz33_3 := blk_frozen BK128.out 3
                have hfz33_4 := blk_frozen BK128.out 4
                have hfz33_5 := blk_frozen BK128.out 5
                go_wp2
                repeat (go_quiet (fail); try go_wp2)
                go_meet
                case rel => exact ⟨_, (true), (by first | rfl | (simp; done) | (simp [*]; done)), H', ⟨by first | omega | exact Nat.le_refl _⟩, ⟨by (with_reducible repeat (first | refine blk_drewN ?_ _ | refine blk_drew ?_ | refine blk_alloc ?_ _)); exact BK128.out⟩, ⟨by repeat (first | (with_reducible first | exact HB.out | apply below_alloc | apply pw_below_drewN | apply below_drew1 | refine below_set ?_ GE128.out) | exact HB.out)⟩⟩
          · rw [if_neg c20] at H
            have c20b0 : (a0_0 == 3) = false := beq_eq_false_iff_ne.mpr c20
            have c20b1 : (a0_0 != 3) = true := bne_iff_ne.mpr c20
            have H' := Aside0.mk H
            clear H
            have hcz34_0 : w3.cell? ⟨gb128, 0, none⟩ = some (.int .i64 a0_0) := (blk_cell BK128.out 0).trans rfl
            have hcz34_1 : w3.cell? ⟨gb128, 1, none⟩ = some (.bool true) := (blk_cell BK128.out 1).trans rfl
            have hcz34_2 : w3.cell? ⟨gb128, 2, none⟩ = some (.int .i64 a0_2) := (blk_cell BK128.out 2).trans rfl
            have hcz34_3 : w3.cell? ⟨gb128, 3, none⟩ = some (.string a0_3) := (blk_cell BK128.out 3).trans rfl
            have hcz34_4 : w3.cell? ⟨gb128, 4, none⟩ = some (.slice A0_4 l0_4.length c0_4) := (blk_cell BK128.out 4).trans rfl
            have hcz34_5 : w3.cell? ⟨gb128, 5, none⟩ = some (.slice A0_5 l0_5.length c0_5) := (blk_cell BK128.out 5).trans rfl
            have hfz34_0 := blk_frozen BK128.out 0
            have hfz34_1 := blk_frozen BK128.out 1
            have hfz34_2 := blk_frozen BK128.out 2
            have hfz34_3 := blk_frozen BK128.out 3
            have hfz34_4 := blk_frozen BK128.out 4
            have hfz34_5 := blk_frozen BK128.out 5
            go_wp2
            repeat (go_quiet (fail); try go_wp2)
            go_meet
            case rel => exact ⟨_, (true), (by first | rfl | (simp; done) | (simp [*]; done)), H', ⟨by first | omega | exact Nat.le_refl _⟩, ⟨by (with_reducible repeat (first | refine blk_drewN ?_ _ | refine blk_drew ?_ | refine blk_alloc ?_ _)); exact BK128.out⟩, ⟨by repeat (first | (with_reducible first | exact HB.out | apply below_alloc | apply pw_below_drewN | apply below_drew1 | refine below_set ?_ GE128.out) | exact HB.out)⟩⟩
      · rw [if_neg c5] at H
        have c5b0 : (a0_0 == 2) = false := beq_eq_false_iff_ne.mpr c5
        have c5b1 : (a0_0 != 2) = true := bne_iff_ne.mpr c5
        (first | rw [c5b0] | (simp only [i64_w, i32_w]; rw [c5b0]) | skip)
        have H' := Aside0.mk H
        clear H
        have hcz35_0 : w3.cell? ⟨gb128, 0, none⟩ = some (.int .i64 a0_0) := (blk_cell BK128.out 0).trans rfl
        have hcz35_1 : w3.cell? ⟨gb128, 1, none⟩ = some (.bool true) := (blk_cell BK128.out 1).trans rfl
        have hcz35_2 : w3.cell? ⟨gb128, 2, none⟩ = some (.int .i64 a0_2) := (blk_cell BK128.out 2).trans rfl
        have hcz35_3 : w3.cell? ⟨gb128, 3, none⟩ = some (.string a0_3) := (blk_cell BK128.out 3).trans rfl
        have hcz35_4 : w3.cell? ⟨gb128, 4, none⟩ = some (.slice A0_4 l0_4.length c0_4) := (blk_cell BK128.out 4).trans rfl
        have hcz35_5 : w3.cell? ⟨gb128, 5, none⟩ = some (.slice A0_5 l0_5.length c0_5) := (blk_cell BK128.out 5).trans rfl
        have hfz35_0 := blk_frozen BK128.out 0
        have hfz35_1 := blk_frozen BK128.out 1
        have hfz35_2 := blk_frozen BK128.out 2
        have hfz35_3 := blk_frozen BK128.out 3
        have hfz35_4 := blk_frozen BK128.out 4
        have hfz35_5 := blk_frozen BK128.out 5
        go_wp2
        repeat (go_quiet (fail); try go_wp2)
        go_meet
        case rel => exact ⟨_, (true), (by first | rfl | (simp; done) | (simp [*]; done)), H', ⟨by first | omega | exact Nat.le_refl _⟩, ⟨by (with_reducible repeat (first | refine blk_drewN ?_ _ | refine blk_drew ?_ | refine blk_alloc ?_ _)); exact BK128.out⟩, ⟨by repeat (first | (with_reducible first | exact HB.out | apply below_alloc | apply pw_below_drewN | apply below_drew1 | refine below_set ?_ GE128.out) | exact HB.out)⟩⟩
    · replace c4 := Bool.eq_false_iff.mpr c4
      subst c4
      have H1 : (if a0_2 = 0 then (if a0_3.toList = ([] : List UInt8) then (if (l0_5.length : Int) > 0 then (if a0_0 = 5 then (haulierref03_plain.j0 k false a0_0 false a0_2 a0_3 l0_4 l0_5) else (haulierref03_plain.j0 k (a0_0 != 6) a0_0 false a0_2 a0_3 l0_4 l0_5)) else (haulierref03_plain.j0 k false a0_0 false a0_2 a0_3 l0_4 l0_5)) else (if a0_0 = 4 then (if (l0_5.length : Int) > 0 then (if a0_0 = 5 then (haulierref03_plain.j0 k false a0_0 false a0_2 a0_3 l0_4 l0_5) else (haulierref03_plain.j0 k (a0_0 != 6) a0_0 false a0_2 a0_3 l0_4 l0_5)) else (haulierref03_plain.j0 k false a0_0 false a0_2 a0_3 l0_4 l0_5)) else (haulierref03_plain.j0 k true a0_0 false a0_2 a0_3 l0_4 l0_5))) else (if a0_0 = 3 then (if a0_3.toList = ([] : List UInt8) then (if (l0_5.length : Int) > 0 then (if a0_0 = 5 then (haulierref03_plain.j0 k false a0_0 false a0_2 a0_3 l0_4 l0_5) else (haulierref03_plain.j0 k (a0_0 != 6) a0_0 false a0_2 a0_3 l0_4 l0_5)) else (haulierref03_plain.j0 k false a0_0 false a0_2 a0_3 l0_4 l0_5)) else (if a0_0 = 4 then (if (l0_5.length : Int) > 0 then (if a0_0 = 5 then (haulierref03_plain.j0 k false a0_0 false a0_2 a0_3 l0_4 l0_5) else (haulierref03_plain.j0 k (a0_0 != 6) a0_0 false a0_2 a0_3 l0_4 l0_5)) else (haulierref03_plain.j0 k false a0_0 false a0_2 a0_3 l0_4 l0_5)) else (haulierref03_plain.j0 k true a0_0 false a0_2 a0_3 l0_4 l0_5))) else (haulierref03_plain.j0 k true a0_0 false a0_2 a0_3 l0_4 l0_5))) = some r := by rw [if_neg (show ¬ (false = true) by decide)] at H; exact H
      clear H
      have H := H1
      clear H1
      by_cases c36 : a0_2 = 0
      · rw [if_pos c36] at H
        have c36b0 : (a0_2 == 0) = true := beq_iff_eq.mpr c36
        have c36b1 : (a0_2 != 0) = false := bne_eq_false_iff_eq.mpr c36
        clear c36
        by_cases c37 : a0_3.toList = ([] : List UInt8)
        · rw [if_pos c37] at H
          have c37b0 : (a0_3.toList == ([] : List UInt8)) = true := beq_iff_eq.mpr c37
          have c37b1 : (a0_3.toList != ([] : List UInt8)) = false := bne_eq_false_iff_eq.mpr c37
          clear c37
          by_cases c38 : (l0_5.length : Int) > 0
          · rw [if_pos c38] at H
            have c38b0 : decide (0 < (l0_5.length : Int)) = true := decide_eq_true c38
            have c38b1 : decide (0 < l0_5.length) = true := decide_eq_true (by omega)
            clear c38
            by_cases c39 : a0_0 = 5
            · rw [if_pos c39] at H
              have c39b0 : (a0_0 == 5) = true := beq_iff_eq.mpr c39
              have c39b1 : (a0_0 != 5) = false := bne_eq_false_iff_eq.mpr c39
              clear c39
              have H' := Aside0.mk H
              clear H
              have hcz40_0 : w3.cell? ⟨gb128, 0, none⟩ = some (.int .i64 a0_0) := (blk_cell BK128.out 0).trans rfl
              have hcz40_1 : w3.cell? ⟨gb128, 1, none⟩ = some (.bool false) := (blk_cell BK128.out 1).trans rfl
              have hcz40_2 : w3.cell? ⟨gb128, 2, none⟩ = some (.int .i64 a0_2) := (blk_cell BK128.out 2).trans rfl
              have hcz40_3 : w3.cell? ⟨gb128, 3, none⟩ = some (.string a0_3) := (blk_cell BK128.out 3).trans rfl
              have hcz40_4 : w3.cell? ⟨gb128, 4, none⟩ = some (.slice A0_4 l0_4.length c0_4) := (blk_cell BK128.out 4).trans rfl
              have hcz40_5 : w3.cell? ⟨gb128, 5, none⟩ = some (.slice A0_5 l0_5.length c0_5) := (blk_cell BK128.out 5).trans rfl
              have hfz40_0 := blk_frozen BK128.out 0
              have hfz40_1 := blk_frozen BK128.out 1
              have hfz40_2 := blk_frozen BK128.out 2
              have hfz40_3 := blk_frozen BK128.out 3
              have hfz40_4 := blk_frozen BK128.out 4
              have hfz40_5 := blk_frozen BK128.out 5
              go_wp2
              repeat (go_quiet (fail); try go_wp2)
              go_meet
              case rel => exact ⟨_, (false), (by first | rfl | (simp; done) | (simp [*]; done)), H', ⟨by first | omega | exact Nat.le_refl _⟩, ⟨by (with_reducible repeat (first | refine blk_drewN ?_ _ | refine blk_drew ?_ | refine blk_alloc ?_ _)); exact BK128.out⟩, ⟨by repeat (first | (with_reducible first | exact HB.out | apply below_alloc | apply pw_below_drewN | apply below_drew1 | refine below_set ?_ GE128.out) | exact HB.out)⟩⟩
            · rw [if_neg c39] at H
              have c39b0 : (a0_0 == 5) = false := beq_eq_false_iff_ne.mpr c39
              have c39b1 : (a0_0 != 5) = true := bne_iff_ne.mpr c39
              have H' := Aside0.mk H
              clear H
              have hcz41_0 : w3.cell? ⟨gb128, 0, none⟩ = some (.int .i64 a0_0) := (blk_cell BK128.out 0).trans rfl
              have hcz41_1 : w3.cell? ⟨gb128, 1, none⟩ = some (.bool false) := (blk_cell BK128.out 1).trans rfl
              have hcz41_2 : w3.cell? ⟨gb128, 2, none⟩ = some (.int .i64 a0_2) := (blk_cell BK128.out 2).trans rfl
              have hcz41_3 : w3.cell? ⟨gb128, 3, none⟩ = some (.string a0_3) := (blk_cell BK128.out 3).trans rfl
              have hcz41_4 : w3.cell? ⟨gb128, 4, none⟩ = some (.slice A0_4 l0_4.length c0_4) := (blk_cell BK128.out 4).trans rfl
              have hcz41_5 : w3.cell? ⟨gb128, 5, none⟩ = some (.slice A0_5 l0_5.length c0_5) := (blk_cell BK128.out 5).trans rfl
              have hfz41_0 := blk_frozen BK128.out 0
              have hfz41_1 := blk_frozen BK128.out 1
              have hfz41_2 := blk_frozen BK128.out 2
              have hfz41_3 := blk_frozen BK128.out 3
              have hfz41_4 := blk_frozen BK128.out 4
              have hfz41_5 := blk_frozen BK128.out 5
              go_wp2
              repeat (go_quiet (fail); try go_wp2)
              go_meet
              case rel => exact ⟨_, ((a0_0 != 6)), (by first | rfl | (simp; done) | (simp [*]; done)), H', ⟨by first | omega | exact Nat.le_refl _⟩, ⟨by (with_reducible repeat (first | refine blk_drewN ?_ _ | refine blk_drew ?_ | refine blk_alloc ?_ _)); exact BK128.out⟩, ⟨by repeat (first | (with_reducible first | exact HB.out | apply below_alloc | apply pw_below_drewN | apply below_drew1 | refine below_set ?_ GE128.out) | exact HB.out)⟩⟩
          · rw [if_neg c38] at H
            have c38b0 : decide (0 < (l0_5.length : Int)) = false := decide_eq_false c38
            have c38b1 : decide (0 < l0_5.length) = false := decide_eq_false (by omega)
            clear c38
            have H' := Aside0.mk H
            clear H
            have hcz42_0 : w3.cell? ⟨gb128, 0, none⟩ = some (.int .i64 a0_0) := (blk_cell BK128.out 0).trans rfl
            have hcz42_1 : w3.cell? ⟨gb128, 1, none⟩ = some (.bool false) := (blk_cell BK128.out 1).trans rfl
            have hcz42_2 : w3.cell? ⟨gb128, 2, none⟩ = some (.int .i64 a0_2) := (blk_cell BK128.out 2).trans rfl
            have hcz42_3 : w3.cell? ⟨gb128, 3, none⟩ = some (.string a0_3) := (blk_cell BK128.out 3).trans rfl
            have hcz42_4 : w3.cell? ⟨gb128, 4, none⟩ = some (.slice A0_4 l0_4.length c0_4) := (blk_cell BK128.out 4).trans rfl
            have hcz42_5 : w3.cell? ⟨gb128, 5, none⟩ = some (.slice A0_5 l0_5.length c0_5) := (blk_cell BK128.out 5).trans rfl
            have hfz42_0 := blk_frozen BK128.out 0
            have hfz42_1 := blk_frozen BK128.out 1
            have hfz42_2 := blk_frozen BK128.out 2
            have hfz42_3 := blk_frozen BK128.out 3
            have hfz42_4 := blk_frozen BK128.out 4
            have hfz42_5 := blk_frozen BK128.out 5
            go_wp2
            repeat (go_quiet (fail); try go_wp2)
            go_meet
            case rel => exact ⟨_, (false), (by first | rfl | (simp; done) | (simp [*]; done)), H', ⟨by first | omega | exact Nat.le_refl _⟩, ⟨by (with_reducible repeat (first | refine blk_drewN ?_ _ | refine blk_drew ?_ | refine blk_alloc ?_ _)); exact BK128.out⟩, ⟨by repeat (first | (with_reducible first | exact HB.out | apply below_alloc | apply pw_below_drewN | apply below_drew1 | refine below_set ?_ GE128.out) | exact HB.out)⟩⟩
        · rw [if_neg c37] at H
          have c37b0 : (a0_3.toList == ([] : List UInt8)) = false := beq_eq_false_iff_ne.mpr c37
          have c37b1 : (a0_3.toList != ([] : List UInt8)) = true := bne_iff_ne.mpr c37
          by_cases c43 : a0_0 = 4
          · rw [if_pos c43] at H
            have c43b0 : (a0_0 == 4) = true := beq_iff_eq.mpr c43
            have c43b1 : (a0_0 != 4) = false := bne_eq_false_iff_eq.mpr c43
            clear c43
            by_cases c44 : (l0_5.length : Int) > 0
            · rw [if_pos c44] at H
              have c44b0 : decide (0 < (l0_5.length : Int)) = true := decide_eq_true c44
              have c44b1 : decide (0 < l0_5.length) = true := decide_eq_true (by omega)
              clear c44
              by_cases c45 : a0_0 = 5
              · rw [if_pos c45] at H
                have c45b0 : (a0_0 == 5) = true := beq_iff_eq.mpr c45
                have c45b1 : (a0_0 != 5) = false := bne_eq_false_iff_eq.mpr c45
                clear c45
                have H' := Aside0.mk H
                clear H
                have hcz46_0 : w3.cell? ⟨gb128, 0, none⟩ = some (.int .i64 a0_0) := (blk_cell BK128.out 0).trans rfl
                have hcz46_1 : w3.cell? ⟨gb128, 1, none⟩ = some (.bool false) := (blk_cell BK128.out 1).trans rfl
                have hcz46_2 : w3.cell? ⟨gb128, 2, none⟩ = some (.int .i64 a0_2) := (blk_cell BK128.out 2).trans rfl
                have hcz46_3 : w3.cell? ⟨gb128, 3, none⟩ = some (.string a0_3) := (blk_cell BK128.out 3).trans rfl
                have hcz46_4 : w3.cell? ⟨gb128, 4, none⟩ = some (.slice A0_4 l0_4.length c0_4) := (blk_cell BK128.out 4).trans rfl
                have hcz46_5 : w3.cell? ⟨gb128, 5, none⟩ = some (.slice A0_5 l0_5.length c0_5) := (blk_cell BK128.out 5).trans rfl
                have hfz46_0 := blk_frozen BK128.out 0
                have hfz46_1 := blk_frozen BK128.out 1
                have hfz46_2 := blk_frozen BK128.out 2
                have hfz46_3 := blk_frozen BK128.out 3
                have hfz46_4 := blk_frozen BK128.out 4
                have hfz46_5 := blk_frozen BK128.out 5
                go_wp2
                repeat (go_quiet (fail); try go_wp2)
                go_meet
                case rel => exact ⟨_, (false), (by first | rfl | (simp; done) | (simp [*]; done)), H', ⟨by first | omega | exact Nat.le_refl _⟩, ⟨by (with_reducible repeat (first | refine blk_drewN ?_ _ | refine blk_drew ?_ | refine blk_alloc ?_ _)); exact BK128.out⟩, ⟨by repeat (first | (with_reducible first | exact HB.out | apply below_alloc | apply pw_below_drewN | apply below_drew1 | refine below_set ?_ GE128.out) | exact HB.out)⟩⟩
              · rw [if_neg c45] at H
                have c45b0 : (a0_0 == 5) = false := beq_eq_false_iff_ne.mpr c45
                have c45b1 : (a0_0 != 5) = true := bne_iff_ne.mpr c45
                have H' := Aside0.mk H
                clear H
                have hcz47_0 : w3.cell? ⟨gb128, 0, none⟩ = some (.int .i64 a0_0) := (blk_cell BK128.out 0).trans rfl
                have hcz47_1 : w3.cell? ⟨gb128, 1, none⟩ = some (.bool false) := (blk_cell BK128.out 1).trans rfl
                have hcz47_2 : w3.cell? ⟨gb128, 2, none⟩ = some (.int .i64 a0_2) := (blk_cell BK128.out 2).trans rfl
                have hcz47_3 : w3.cell? ⟨gb128, 3, none⟩ = some (.string a0_3) := (blk_cell BK128.out 3).trans rfl
                have hcz47_4 : w3.cell? ⟨gb128, 4, none⟩ = some (.slice A0_4 l0_4.length c0_4) := (blk_cell BK128.out 4).trans rfl
                have hcz47_5 : w3.cell? ⟨gb128, 5, none⟩ = some (.slice A0_5 l0_5.length c0_5) := (blk_cell BK128.out 5).trans rfl
                have hfz47_0 := blk_frozen BK128.out 0
                have hfz47_1 := blk_frozen BK128.out 1
                have hfz47_2 := blk_frozen BK128.out 2
                have hfz47_3 := blk_frozen BK128.out 3
                have hfz47_4 := blk_frozen BK128.out 4
                have hfz47_5 := blk_frozen BK128.out 5
                go_wp2
                repeat (go_quiet (fail); try go_wp2)
                go_meet
                case rel => exact ⟨_, ((a0_0 != 6)), (by first | rfl | (simp; done) | (simp [*]; done)), H', ⟨by first | omega | exact Nat.le_refl _⟩, ⟨by (with_reducible repeat (first | refine blk_drewN ?_ _ | refine blk_drew ?_ | refine blk_alloc ?_ _)); exact BK128.out⟩, ⟨by repeat (first | (with_reducible first | exact HB.out | apply below_alloc | apply pw_below_drewN | apply below_drew1 | refine below_set ?_ GE128.out) | exact HB.out)⟩⟩
            · rw [if_neg c44] at H
              have c44b0 : decide (0 < (l0_5.length : Int)) = false := decide_eq_false c44
              have c44b1 : decide (0 < l0_5.length) = false := decide_eq_false (by omega)
              clear c44
              have H' := Aside0.mk H
              clear H
              have hcz48_0 : w3.cell? ⟨gb128, 0, none⟩ = some (.int .i64 a0_0) := (blk_cell BK128.out 0).trans rfl
              have hcz48_1 : w3.cell? ⟨gb128, 1, none⟩ = some (.bool false) := (blk_cell BK128.out 1).trans rfl
              have hcz48_2 : w3.cell? ⟨gb128, 2, none⟩ = some (.int .i64 a0_2) := (blk_cell BK128.out 2).trans rfl
              have hcz48_3 : w3.cell? ⟨gb128, 3, none⟩ = some (.string a0_3) := (blk_cell BK128.out 3).trans rfl
              have hcz48_4 : w3.cell? ⟨gb128, 4, none⟩ = some (.slice A0_4 l0_4.length c0_4) := (blk_cell BK128.out 4).trans rfl
              have hcz48_5 : w3.cell? ⟨gb128, 5, none⟩ = some (.slice A0_5 l0_5.length c0_5) := (blk_cell BK128.out 5).trans rfl
              have hfz48_0 := blk_frozen BK128.out 0
              have hfz48_1 := blk_frozen BK128.out 1
              have hfz48_2 := blk_frozen BK128.out 2
              have hfz48_3 := blk_frozen BK128.out 3
              have hfz48_4 := blk_frozen BK128.out 4
              have hfz48_5 := blk_frozen BK128.out 5
              go_wp2
              repeat (go_quiet (fail); try go_wp2)
              go_meet
              case rel => exact ⟨_, (false), (by first | rfl | (simp; done) | (simp [*]; done)), H', ⟨by first | omega | exact Nat.le_refl _⟩, ⟨by (with_reducible repeat (first | refine blk_drewN ?_ _ | refine blk_drew ?_ | refine blk_alloc ?_ _)); exact BK128.out⟩, ⟨by repeat (first | (with_reducible first | exact HB.out | apply below_alloc | apply pw_below_drewN | apply below_drew1 | refine below_set ?_ GE128.out) | exact HB.out)⟩⟩
          · rw [if_neg c43] at H
            have c43b0 : (a0_0 == 4) = false := beq_eq_false_iff_ne.mpr c43
            have c43b1 : (a0_0 != 4) = true := bne_iff_ne.mpr c43
            have H' := Aside0.mk H
            clear H
            have hcz49_0 : w3.cell? ⟨gb128, 0, none⟩ = some (.int .i64 a0_0) := (blk_cell BK128.out 0).trans rfl
            have hcz49_1 : w3.cell? ⟨gb128, 1, none⟩ = some (.bool false) := (blk_cell BK128.out 1).trans rfl
            have hcz49_2 : w3.cell? ⟨gb128, 2, none⟩ = some (.int .i64 a0_2) := (blk_cell BK128.out 2).trans rfl
            have hcz49_3 : w3.cell? ⟨gb128, 3, none⟩ = some (.string a0_3) := (blk_cell BK128.out 3).trans rfl
            have hcz49_4 : w3.cell? ⟨gb128, 4, none⟩ = some (.slice A0_4 l0_4.length c0_4) := (blk_cell BK128.out 4).trans rfl
            have hcz49_5 : w3.cell? ⟨gb128, 5, none⟩ = some (.slice A0_5 l0_5.length c0_5) := (blk_cell BK128.out 5).trans rfl
            have hfz49_0 := blk_frozen BK128.out 0
            have hfz49_1 := blk_frozen BK128.out 1
            have hfz49_2 := blk_frozen BK128.out 2
            have hfz49_3 := blk_frozen BK128.out 3
            have hfz49_4 := blk_frozen BK128.out 4
            have hfz49_5 := blk_frozen BK128.out 5
            go_wp2
            repeat (go_quiet (fail); try go_wp2)
            go_meet
            case rel => exact ⟨_, (true), (by first | rfl | (simp; done) | (simp [*]; done)), H', ⟨by first | omega | exact Nat.le_refl _⟩, ⟨by (with_reducible repeat (first | refine blk_drewN ?_ _ | refine blk_drew ?_ | refine blk_alloc ?_ _)); exact BK128.out⟩, ⟨by repeat (first | (with_reducible first | exact HB.out | apply below_alloc | apply pw_below_drewN | apply below_drew1 | refine below_set ?_ GE128.out) | exact HB.out)⟩⟩
      · rw [if_neg c36] at H
        have c36b0 : (a0_2 == 0) = false := beq_eq_false_iff_ne.mpr c36
        have c36b1 : (a0_2 != 0) = true := bne_iff_ne.mpr c36
        by_cases c50 : a0_0 = 3
        · rw [if_pos c50] at H
          have c50b0 : (a0_0 == 3) = true := beq_iff_eq.mpr c50
          have c50b1 : (a0_0 != 3) = false := bne_eq_false_iff_eq.mpr c50
          clear c50
          by_cases c51 : a0_3.toList = ([] : List UInt8)
          · rw [if_pos c51] at H
            have c51b0 : (a0_3.toList == ([] : List UInt8)) = true := beq_iff_eq.mpr c51
            have c51b1 : (a0_3.toList != ([] : List UInt8)) = false := bne_eq_false_iff_eq.mpr c51
            clear c51
            by_cases c52 : (l0_5.length : Int) > 0
            · rw [if_pos c52] at H
              have c52b0 : decide (0 < (l0_5.length : Int)) = true := decide_eq_true c52
              have c52b1 : decide (0 < l0_5.length) = true := decide_eq_true (by omega)
              clear c52
              by_cases c53 : a0_0 = 5
              · rw [if_pos c53] at H
                have c53b0 : (a0_0 == 5) = true := beq_iff_eq.mpr c53
                have c53b1 : (a0_0 != 5) = false := bne_eq_false_iff_eq.mpr c53
                clear c53
                have H' := Aside0.mk H
                clear H
                have hcz54_0 : w3.cell? ⟨gb128, 0, none⟩ = some (.int .i64 a0_0) := (blk_cell BK128.out 0).trans rfl
                have hcz54_1 : w3.cell? ⟨gb128, 1, none⟩ = some (.bool false) := (blk_cell BK128.out 1).trans rfl
                have hcz54_2 : w3.cell? ⟨gb128, 2, none⟩ = some (.int .i64 a0_2) := (blk_cell BK128.out 2).trans rfl
                have hcz54_3 : w3.cell? ⟨gb128, 3, none⟩ = some (.string a0_3) := (blk_cell BK128.out 3).trans rfl
                have hcz54_4 : w3.cell? ⟨gb128, 4, none⟩ = some (.slice A0_4 l0_4.length c0_4) := (blk_cell BK128.out 4).trans rfl
                have hcz54_5 : w3.cell? ⟨gb128, 5, none⟩ = some (.slice A0_5 l0_5.length c0_5) := (blk_cell BK128.out 5).trans rfl
                have hfz54_0 := blk_frozen BK128.out 0
                have hfz54_1 := blk_frozen BK128.out 1
                have hfz54_2 := blk_frozen BK128.out 2
                have hfz54_3 := blk_frozen BK128.out 3
                have hfz54_4 := blk_frozen BK128.out 4
                have hfz54_5 := blk_frozen BK128.out 5
                go_wp2
                repeat (go_quiet (fail); try go_wp2)
                go_meet
                case rel => exact ⟨_, (false), (by first | rfl | (simp; done) | (simp [*]; done)), H', ⟨by first | omega | exact Nat.le_refl _⟩, ⟨by (with_reducible repeat (first | refine blk_drewN ?_ _ | refine blk_drew ?_ | refine blk_alloc ?_ _)); exact BK128.out⟩, ⟨by repeat (first | (with_reducible first | exact HB.out | apply below_alloc | apply pw_below_drewN | apply below_drew1 | refine below_set ?_ GE128.out) | exact HB.out)⟩⟩
              · rw [if_neg c53] at H
                have c53b0 : (a0_0 == 5) = false := beq_eq_false_iff_ne.mpr c53
                have c53b1 : (a0_0 != 5) = true := bne_iff_ne.mpr c53
                have H' := Aside0.mk H
                clear H
                have hcz55_0 : w3.cell? ⟨gb128, 0, none⟩ = some (.int .i64 a0_0) := (blk_cell BK128.out 0).trans rfl
                have hcz55_1 : w3.cell? ⟨gb128, 1, none⟩ = some (.bool false) := (blk_cell BK128.out 1).trans rfl
                have hcz55_2 : w3.cell? ⟨gb128, 2, none⟩ = some (.int .i64 a0_2) := (blk_cell BK128.out 2).trans rfl
                have hcz55_3 : w3.cell? ⟨gb128, 3, none⟩ = some (.string a0_3) := (blk_cell BK128.out 3).trans rfl
                have hcz55_4 : w3.cell? ⟨gb128, 4, none⟩ = some (.slice A0_4 l0_4.length c0_4) := (blk_cell BK128.out 4).trans rfl
                have hcz55_5 : w3.cell? ⟨gb128, 5, none⟩ = some (.slice A0_5 l0_5.length c0_5) := (blk_cell BK128.out 5).trans rfl
                have hfz55_0 := blk_frozen BK128.out 0
                have hfz55_1 := blk_frozen BK128.out 1
                have hfz55_2 := blk_frozen BK128.out 2
                have hfz55_3 := blk_frozen BK128.out 3
                have hfz55_4 := blk_frozen BK128.out 4
                have hfz55_5 := blk_frozen BK128.out 5
                go_wp2
                repeat (go_quiet (fail); try go_wp2)
                go_meet
                case rel => exact ⟨_, ((a0_0 != 6)), (by first | rfl | (simp; done) | (simp [*]; done)), H', ⟨by first | omega | exact Nat.le_refl _⟩, ⟨by (with_reducible repeat (first | refine blk_drewN ?_ _ | refine blk_drew ?_ | refine blk_alloc ?_ _)); exact BK128.out⟩, ⟨by repeat (first | (with_reducible first | exact HB.out | apply below_alloc | apply pw_below_drewN | apply below_drew1 | refine below_set ?_ GE128.out) | exact HB.out)⟩⟩
            · rw [if_neg c52] at H
              have c52b0 : decide (0 < (l0_5.length : Int)) = false := decide_eq_false c52
              have c52b1 : decide (0 < l0_5.length) = false := decide_eq_false (by omega)
              clear c52
              have H' := Aside0.mk H
              clear H
              have hcz56_0 : w3.cell? ⟨gb128, 0, none⟩ = some (.int .i64 a0_0) := (blk_cell BK128.out 0).trans rfl
              have hcz56_1 : w3.cell? ⟨gb128, 1, none⟩ = some (.bool false) := (blk_cell BK128.out 1).trans rfl
              have hcz56_2 : w3.cell? ⟨gb128, 2, none⟩ = some (.int .i64 a0_2) := (blk_cell BK128.out 2).trans rfl
              have hcz56_3 : w3.cell? ⟨gb128, 3, none⟩ = some (.string a0_3) := (blk_cell BK128.out 3).trans rfl
              have hcz56_4 : w3.cell? ⟨gb128, 4, none⟩ = some (.slice A0_4 l0_4.length c0_4) := (blk_cell BK128.out 4).trans rfl
              have hcz56_5 : w3.cell? ⟨gb128, 5, none⟩ = some (.slice A0_5 l0_5.length c0_5) := (blk_cell BK128.out 5).trans rfl
              have hfz56_0 := blk_frozen BK128.out 0
              have hfz56_1 := blk_frozen BK128.out 1
              have hfz56_2 := blk_frozen BK128.out 2
              have hfz56_3 := blk_frozen BK128.out 3
              have hfz56_4 := blk_frozen BK128.out 4
              have hfz56_5 := blk_frozen BK128.out 5
              go_wp2
              repeat (go_quiet (fail); try go_wp2)
              go_meet
              case rel => exact ⟨_, (false), (by first | rfl | (simp; done) | (simp [*]; done)), H', ⟨by first | omega | exact Nat.le_refl _⟩, ⟨by (with_reducible repeat (first | refine blk_drewN ?_ _ | refine blk_drew ?_ | refine blk_alloc ?_ _)); exact BK128.out⟩, ⟨by repeat (first | (with_reducible first | exact HB.out | apply below_alloc | apply pw_below_drewN | apply below_drew1 | refine below_set ?_ GE128.out) | exact HB.out)⟩⟩
          · rw [if_neg c51] at H
            have c51b0 : (a0_3.toList == ([] : List UInt8)) = false := beq_eq_false_iff_ne.mpr c51
            have c51b1 : (a0_3.toList != ([] : List UInt8)) = true := bne_iff_ne.mpr c51
            by_cases c57 : a0_0 = 4
            · rw [if_pos c57] at H
              have c57b0 : (a0_0 == 4) = true := beq_iff_eq.mpr c57
              have c57b1 : (a0_0 != 4) = false := bne_eq_false_iff_eq.mpr c57
              clear c57
              by_cases c58 : (l0_5.length : Int) > 0
              · rw [if_pos c58] at H
                have c58b0 : decide (0 < (l0_5.length : Int)) = true := decide_eq_true c58
                have c58b1 : decide (0 < l0_5.length) = true := decide_eq_true (by omega)
                clear c58
                by_cases c59 : a0_0 = 5
                · rw [if_pos c59] at H
                  have c59b0 : (a0_0 == 5) = true := beq_iff_eq.mpr c59
                  have c59b1 : (a0_0 != 5) = false := bne_eq_false_iff_eq.mpr c59
                  clear c59
                  have H' := Aside0.mk H
                  clear H
                  have hcz60_0 : w3.cell? ⟨gb128, 0, none⟩ = some (.int .i64 a0_0) := (blk_cell BK128.out 0).trans rfl
                  have hcz60_1 : w3.cell? ⟨gb128, 1, none⟩ = some (.bool false) := (blk_cell BK128.out 1).trans rfl
                  have hcz60_2 : w3.cell? ⟨gb128, 2, none⟩ = some (.int .i64 a0_2) := (blk_cell BK128.out 2).trans rfl
                  have hcz60_3 : w3.cell? ⟨gb128, 3, none⟩ = some (.string a0_3) := (blk_cell BK128.out 3).trans rfl
                  have hcz60_4 : w3.cell? ⟨gb128, 4, none⟩ = some (.slice A0_4 l0_4.length c0_4) := (blk_cell BK128.out 4).trans rfl
                  have hcz60_5 : w3.cell? ⟨gb128, 5, none⟩ = some (.slice A0_5 l0_5.length c0_5) := (blk_cell BK128.out 5).trans rfl
                  have hfz60_0 := blk_frozen BK128.out 0
                  have hfz60_1 := blk_frozen BK128.out 1
                  have hfz60_2 := blk_frozen BK128.out 2
                  have hfz60_3 := blk_frozen BK128.out 3
                  have hfz60_4 := blk_frozen BK128.out 4
                  have hfz60_5 := blk_frozen BK128.out 5
                  go_wp2
                  repeat (go_quiet (fail); try go_wp2)
                  go_meet
                  case rel => exact ⟨_, (false), (by first | rfl | (simp; done) | (simp [*]; done)), H', ⟨by first | omega | exact Nat.le_refl _⟩, ⟨by (with_reducible repeat (first | refine blk_drewN ?_ _ | refine blk_drew ?_ | refine blk_alloc ?_ _)); exact BK128.out⟩, ⟨by repeat (first | (with_reducible first | exact HB.out | apply below_alloc | apply pw_below_drewN | apply below_drew1 | refine below_set ?_ GE128.out) | exact HB.out)⟩⟩
                · rw [if_neg c59] at H
                  have c59b0 : (a0_0 == 5) = false := beq_eq_false_iff_ne.mpr c59
                  have c59b1 : (a0_0 != 5) = true := bne_iff_ne.mpr c59
                  have H' := Aside0.mk H
                  clear H
                  have hcz61_0 : w3.cell? ⟨gb128, 0, none⟩ = some (.int .i64 a0_0) := (blk_cell BK128.out 0).trans rfl
                  have hcz61_1 : w3.cell? ⟨gb128, 1, none⟩ = some (.bool false) := (blk_cell BK128.out 1).trans rfl
                  have hcz61_2 : w3.cell? ⟨gb128, 2, none⟩ = some (.int .i64 a0_2) := (blk_cell BK128.out 2).trans rfl
                  have hcz61_3 : w3.cell? ⟨gb128, 3, none⟩ = some (.string a0_3) := (blk_cell BK128.out 3).trans rfl
                  have hcz61_4 : w3.cell? ⟨gb128, 4, none⟩ = some (.slice A0_4 l0_4.length c0_4) := (blk_cell BK128.out 4).trans rfl
                  have hcz61_5 : w3.cell? ⟨gb128, 5, none⟩ = some (.slice A0_5 l0_5.length c0_5) := (blk_cell BK128.out 5).trans rfl
                  have hfz61_0 := blk_frozen BK128.out 0
                  have hfz61_1 := blk_frozen BK128.out 1
                  have hfz61_2 := blk_frozen BK128.out 2
                  have hfz61_3 := blk_frozen BK128.out 3
                  have hfz61_4 := blk_frozen BK128.out 4
                  have hfz61_5 := blk_frozen BK128.out 5
                  go_wp2
                  repeat (go_quiet (fail); try go_wp2)
                  go_meet
                  case rel => exact ⟨_, ((a0_0 != 6)), (by first | rfl | (simp; done) | (simp [*]; done)), H', ⟨by first | omega | exact Nat.le_refl _⟩, ⟨by (with_reducible repeat (first | refine blk_drewN ?_ _ | refine blk_drew ?_ | refine blk_alloc ?_ _)); exact BK128.out⟩, ⟨by repeat (first | (with_reducible first | exact HB.out | apply below_alloc | apply pw_below_drewN | apply below_drew1 | refine below_set ?_ GE128.out) | exact HB.out)⟩⟩
              · rw [if_neg c58] at H
                have c58b0 : decide (0 < (l0_5.length : Int)) = false := decide_eq_false c58
                have c58b1 : decide (0 < l0_5.length) = false := decide_eq_false (by omega)
                clear c58
                have H' := Aside0.mk H
                clear H
                have hcz62_0 : w3.cell? ⟨gb128, 0, none⟩ = some (.int .i64 a0_0) := (blk_cell BK128.out 0).trans rfl
                have hcz62_1 : w3.cell? ⟨gb128, 1, none⟩ = some (.bool false) := (blk_cell BK128.out 1).trans rfl
                have hcz62_2 : w3.cell? ⟨gb128, 2, none⟩ = some (.int .i64 a0_2) := (blk_cell BK128.out 2).trans rfl
                have hcz62_3 : w3.cell? ⟨gb128, 3, none⟩ = some (.string a0_3) := (blk_cell BK128.out 3).trans rfl
                have hcz62_4 : w3.cell? ⟨gb128, 4, none⟩ = some (.slice A0_4 l0_4.length c0_4) := (blk_cell BK128.out 4).trans rfl
                have hcz62_5 : w3.cell? ⟨gb128, 5, none⟩ = some (.slice A0_5 l0_5.length c0_5) := (blk_cell BK128.out 5).trans rfl
                have hfz62_0 := blk_frozen BK128.out 0
                have hfz62_1 := blk_frozen BK128.out 1
                have hfz62_2 := blk_frozen BK128.out 2
                have hfz62_3 := blk_frozen BK128.out 3
                have hfz62_4 := blk_frozen BK128.out 4
                have hfz62_5 := blk_frozen BK128.out 5
                go_wp2
                repeat (go_quiet (fail); try go_wp2)
                go_meet
                case rel => exact ⟨_, (false), (by first | rfl | (simp; done) | (simp [*]; done)), H', ⟨by first | omega | exact Nat.le_refl _⟩, ⟨by (with_reducible repeat (first | refine blk_drewN ?_ _ | refine blk_drew ?_ | refine blk_alloc ?_ _)); exact BK128.out⟩, ⟨by repeat (first | (with_reducible first | exact HB.out | apply below_alloc | apply pw_below_drewN | apply below_drew1 | refine below_set ?_ GE128.out) | exact HB.out)⟩⟩
            · rw [if_neg c57] at H
              have c57b0 : (a0_0 == 4) = false := beq_eq_false_iff_ne.mpr c57
              have c57b1 : (a0_0 != 4) = true := bne_iff_ne.mpr c57
              have H' := Aside0.mk H
              clear H
              have hcz63_0 : w3.cell? ⟨gb128, 0, none⟩ = some (.int .i64 a0_0) := (blk_cell BK128.out 0).trans rfl
              have hcz63_1 : w3.cell? ⟨gb128, 1, none⟩ = some (.bool false) := (blk_cell BK128.out 1).trans rfl
              have hcz63_2 : w3.cell? ⟨gb128, 2, none⟩ = some (.int .i64 a0_2) := (blk_cell BK128.out 2).trans rfl
              have hcz63_3 : w3.cell? ⟨gb128, 3, none⟩ = some (.string a0_3) := (blk_cell BK128.out 3).trans rfl
              have hcz63_4 : w3.cell? ⟨gb128, 4, none⟩ = some (.slice A0_4 l0_4.length c0_4) := (blk_cell BK128.out 4).trans rfl
              have hcz63_5 : w3.cell? ⟨gb128, 5, none⟩ = some (.slice A0_5 l0_5.length c0_5) := (blk_cell BK128.out 5).trans rfl
              have hfz63_0 := blk_frozen BK128.out 0
              have hfz63_1 := blk_frozen BK128.out 1
              have hfz63_2 := blk_frozen BK128.out 2
              have hfz63_3 := blk_frozen BK128.out 3
              have hfz63_4 := blk_frozen BK128.out 4
              have hfz63_5 := blk_frozen BK128.out 5
              go_wp2
              repeat (go_quiet (fail); try go_wp2)
              go_meet
              case rel => exact ⟨_, (true), (by first | rfl | (simp; done) | (simp [*]; done)), H', ⟨by first | omega | exact Nat.le_refl _⟩, ⟨by (with_reducible repeat (first | refine blk_drewN ?_ _ | refine blk_drew ?_ | refine blk_alloc ?_ _)); exact BK128.out⟩, ⟨by repeat (first | (with_reducible first | exact HB.out | apply below_alloc | apply pw_below_drewN | apply below_drew1 | refine below_set ?_ GE128.out) | exact HB.out)⟩⟩
        · rw [if_neg c50] at H
          have c50b0 : (a0_0 == 3) = false := beq_eq_false_iff_ne.mpr c50
          have c50b1 : (a0_0 != 3) = true := bne_iff_ne.mpr c50
          have H' := Aside0.mk H
          clear H
          have hcz64_0 : w3.cell? ⟨gb128, 0, none⟩ = some (.int .i64 a0_0) := (blk_cell BK128.out 0).trans rfl
          have hcz64_1 : w3.cell? ⟨gb128, 1, none⟩ = some (.bool false) := (blk_cell BK128.out 1).trans rfl
          have hcz64_2 : w3.cell? ⟨gb128, 2, none⟩ = some (.int .i64 a0_2) := (blk_cell BK128.out 2).trans rfl
          have hcz64_3 : w3.cell? ⟨gb128, 3, none⟩ = some (.string a0_3) := (blk_cell BK128.out 3).trans rfl
          have hcz64_4 : w3.cell? ⟨gb128, 4, none⟩ = some (.slice A0_4 l0_4.length c0_4) := (blk_cell BK128.out 4).trans rfl
          have hcz64_5 : w3.cell? ⟨gb128, 5, none⟩ = some (.slice A0_5 l0_5.length c0_5) := (blk_cell BK128.out 5).trans rfl
          have hfz64_0 := blk_frozen BK128.out 0
          have hfz64_1 := blk_frozen BK128.out 1
          have hfz64_2 := blk_frozen BK128.out 2
          have hfz64_3 := blk_frozen BK128.out 3
          have hfz64_4 := blk_frozen BK128.out 4
          have hfz64_5 := blk_frozen BK128.out 5
          go_wp2
          repeat (go_quiet (fail); try go_wp2)
          go_meet
          case rel => exact ⟨_, (true), (by first | rfl | (simp; done) | (simp [*]; done)), H', ⟨by first | omega | exact Nat.le_refl _⟩, ⟨by (with_reducible repeat (first | refine blk_drewN ?_ _ | refine blk_drew ?_ | refine blk_alloc ?_ _)); exact BK128.out⟩, ⟨by repeat (first | (with_reducible first | exact HB.out | apply below_alloc | apply pw_below_drewN | apply below_drew1 | refine below_set ?_ GE128.out) | exact HB.out)⟩⟩
  case rest =>
    clear HC2
    try clear c2
    try clear p2
    try clear c3
    try clear c4
    try clear c5
    try clear c5b0
    try clear c5b1
    try clear c20
    try clear c20b0
    try clear c20b1
    try clear c21
    try clear c21b0
    try clear c21b1
    try clear c22
    try clear c22b0
    try clear c22b1
    try clear c23
    try clear c23b0
    try clear c23b1
    try clear c27
    try clear c27b0
    try clear c27b1
    try clear c28
    try clear c28b0
    try clear c28b1
    try clear c29
    try clear c29b0
    try clear c29b1
    try clear c36
    try clear c36b0
    try clear c36b1
    try clear c37
    try clear c37b0
    try clear c37b1
    try clear c38
    try clear c38b0
    try clear c38b1
    try clear c39
    try clear c39b0
    try clear c39b1
    try clear c43
    try clear c43b0
    try clear c43b1
    try clear c44
    try clear c44b0
    try clear c44b1
    try clear c45
    try clear c45b0
    try clear c45b1
    try clear c50
    try clear c50b0
    try clear c50b1
    try clear c51
    try clear c51b0
    try clear c51b1
    try clear c52
    try clear c52b0
    try clear c52b1
    try clear c53
    try clear c53b0
    try clear c53b1
    try clear c57
    try clear c57b0
    try clear c57b1
    try clear c58
    try clear c58b0
    try clear c58b1
    try clear c59
    try clear c59b0
    try clear c59b1
    try clear hcz24_0
    try clear hcz24_1
    try clear hcz24_2
    try clear hcz24_3
    try clear hcz24_4
    try clear hcz24_5
    try clear hcz25_0
    try clear hcz25_1
    try clear hcz25_2
    try clear hcz25_3
    try clear hcz25_4
    try clear hcz25_5
    try clear hcz26_0
    try clear hcz26_1
    try clear hcz26_2
    try clear hcz26_3
    try clear hcz26_4
    try clear hcz26_5
    try clear hcz30_0
    try clear hcz30_1
    try clear hcz30_2
    try clear hcz30_3
    try clear hcz30_4
    try clear hcz30_5
    try clear hcz31_0
    try clear hcz31_1
    try clear hcz31_2
    try clear hcz31_3
    try clear hcz31_4
    try clear hcz31_5
    try clear hcz32_0
    try clear hcz32_1
    try clear hcz32_2
    try clear hcz32_3
    try clear hcz32_4
    try clear hcz32_5
    try clear hcz33_0
    try clear hcz33_1
    try clear hcz33_2
    try clear hcz33_3
    try clear hcz33_4
    try clear hcz33_5
    try clear hcz34_0
    try clear hcz34_1
    try clear hcz34_2
    try clear hcz34_3
    try clear hcz34_4
    try clear hcz34_5
    try clear hcz35_0
    try clear hcz35_1
    try clear hcz35_2
    try clear hcz35_3
    try clear hcz35_4
    try clear hcz35_5
    try clear hcz40_0
    try clear hcz40_1
    try clear hcz40_2
    try clear hcz40_3
    try clear hcz40_4
    try clear hcz40_5
    try clear hcz41_0
    try clear hcz41_1
    try clear hcz41_2
    try clear hcz41_3
    try clear hcz41_4
    try clear hcz41_5
    try clear hcz42_0
    try clear hcz42_1
    try clear hcz42_2
    try clear hcz42_3
    try clear hcz42_4
    try clear hcz42_5
    try clear hcz46_0
    try clear hcz46_1
    try clear hcz46_2
    try clear hcz46_3
    try clear hcz46_4
    try clear hcz46_5
    try clear hcz47_0
    try clear hcz47_1
    try clear hcz47_2
    try clear hcz47_3
    try clear hcz47_4
    try clear hcz47_5
    try clear hcz48_0
    try clear hcz48_1
    try clear hcz48_2
    try clear hcz48_3
    try clear hcz48_4
    try clear hcz48_5
    try clear hcz49_0
    try clear hcz49_1
    try clear hcz49_2
    try clear hcz49_3
    try clear hcz49_4
    try clear hcz49_5
    try clear hcz54_0
    try clear hcz54_1
    try clear hcz54_2
    try clear hcz54_3
    try clear hcz54_4
    try clear hcz54_5
    try clear hcz55_0
    try clear hcz55_1
    try clear hcz55_2
    try clear hcz55_3
    try clear hcz55_4
    try clear hcz55_5
    try clear hcz56_0
    try clear hcz56_1
    try clear hcz56_2
    try clear hcz56_3
    try clear hcz56_4
    try clear hcz56_5
    try clear hcz60_0
    try clear hcz60_1
    try clear hcz60_2
    try clear hcz60_3
    try clear hcz60_4
    try clear hcz60_5
    try clear hcz61_0
    try clear hcz61_1
    try clear hcz61_2
    try clear hcz61_3
    try clear hcz61_4
    try clear hcz61_5
    try clear hcz62_0
    try clear hcz62_1
    try clear hcz62_2
    try clear hcz62_3
    try clear hcz62_4
    try clear hcz62_5
    try clear hcz63_0
    try clear hcz63_1
    try clear hcz63_2
    try clear hcz63_3
    try clear hcz63_4
    try clear hcz63_5
    try clear hcz64_0
    try clear hcz64_1
    try clear hcz64_2
    try clear hcz64_3
    try clear hcz64_4
    try clear hcz64_5
    try clear hfz24_0
    try clear hfz24_1
    try clear hfz24_2
    try clear hfz24_3
    try clear hfz24_4
    try clear hfz24_5
    try clear hfz25_0
    try clear hfz25_1
    try clear hfz25_2
    try clear hfz25_3
    try clear hfz25_4
    try clear hfz25_5
    try clear hfz26_0
    try clear hfz26_1
    try clear hfz26_2
    try clear hfz26_3
    try clear hfz26_4
    try clear hfz26_5
    try clear hfz30_0
    try clear hfz30_1
    try clear hfz30_2
    try clear hfz30_3
    try clear hfz30_4
    try clear hfz30_5
    try clear hfz31_0
    try clear hfz31_1
    try clear hfz31_2
    try clear hfz31_3
    try clear hfz31_4
    try clear hfz31_5
    try clear hfz32_0
    try clear hfz32_1
    try clear hfz32_2
    try clear hfz32_3
    try clear hfz32_4
    try clear hfz32_5
    try clear hfz33_0
    try clear hfz33_1
    try clear hfz33_2
    try clear hfz33_3
    try clear hfz33_4
    try clear hfz33_5
    try clear hfz34_0
    try clear hfz34_1
    try clear hfz34_2
    try clear hfz34_3
    try clear hfz34_4
    try clear hfz34_5
    try clear hfz35_0
    try clear hfz35_1
    try clear hfz35_2
    try clear hfz35_3
    try clear hfz35_4
    try clear hfz35_5
    try clear hfz40_0
    try clear hfz40_1
    try clear hfz40_2
    try clear hfz40_3
    try clear hfz40_4
    try clear hfz40_5
    try clear hfz41_0
    try clear hfz41_1
    try clear hfz41_2
    try clear hfz41_3
    try clear hfz41_4
    try clear hfz41_5
    try clear hfz42_0
    try clear hfz42_1
    try clear hfz42_2
    try clear hfz42_3
    try clear hfz42_4
    try clear hfz42_5
    try clear hfz46_0
    try clear hfz46_1
    try clear hfz46_2
    try clear hfz46_3
    try clear hfz46_4
    try clear hfz46_5
    try clear hfz47_0
    try clear hfz47_1
    try clear hfz47_2
    try clear hfz47_3
    try clear hfz47_4
    try clear hfz47_5
    try clear hfz48_0
    try clear hfz48_1
    try clear hfz48_2
    try clear hfz48_3
    try clear hfz48_4
    try clear hfz48_5
    try clear hfz49_0
    try clear hfz49_1
    try clear hfz49_2
    try clear hfz49_3
    try clear hfz49_4
    try clear hfz49_5
    try clear hfz54_0
    try clear hfz54_1
    try clear hfz54_2
    try clear hfz54_3
    try clear hfz54_4
    try clear hfz54_5
    try clear hfz55_0
    try clear hfz55_1
    try clear hfz55_2
    try clear hfz55_3
    try clear hfz55_4
    try clear hfz55_5
    try clear hfz56_0
    try clear hfz56_1
    try clear hfz56_2
    try clear hfz56_3
    try clear hfz56_4
    try clear hfz56_5
    try clear hfz60_0
    try clear hfz60_1
    try clear hfz60_2
    try clear hfz60_3
    try clear hfz60_4
    try clear hfz60_5
    try clear hfz61_0
    try clear hfz61_1
    try clear hfz61_2
    try clear hfz61_3
    try clear hfz61_4
    try clear hfz61_5
    try clear hfz62_0
    try clear hfz62_1
    try clear hfz62_2
    try clear hfz62_3
    try clear hfz62_4
    try clear hfz62_5
    try clear hfz63_0
    try clear hfz63_1
    try clear hfz63_2
    try clear hfz63_3
    try clear hfz63_4
    try clear hfz63_5
    try clear hfz64_0
    try clear hfz64_1
    try clear hfz64_2
    try clear hfz64_3
    try clear hfz64_4
    try clear hfz64_5
    obtain ⟨kq, x47_1, rfl, HA, HJ1, BK128, HB⟩ := hcut
    cases kq with
    | zero => exact absurd HA.out (by simp [haulierref03_plain.j0])
    | succ kj1 =>
      have H := HA.out
      clear HA
      simp only [haulierref03_plain.j0] at H
      by_cases c65 : x47_1 = true
      · subst c65
        have H1 : (some false) = some r := by rw [if_pos rfl] at H; exact H
        clear H
        have H := H1
        clear H1
        obtain rfl := Option.some.inj H
        go_wp2
        repeat (go_quiet (fail); try go_wp2)
        go_ret
        exact ⟨by first | rfl | (simp [errW_none, errW_some] <;> rfl) | (simp [*, errW_none, errW_some] <;> rfl), by repeat (first | (with_reducible first | exact HB.out | apply below_alloc | apply pw_below_drewN | apply below_drew1 | refine below_set ?_ GE128.out) | exact HB.out)⟩
      · replace c65 := Bool.eq_false_iff.mpr c65
        subst c65
        have H1 : (if a0_0 < 1 then (haulierref03_plain.j1 kj1 true a0_0 a0_1 a0_2 a0_3 l0_4 l0_5) else (if a0_0 > 6 then (haulierref03_plain.j1 kj1 true a0_0 a0_1 a0_2 a0_3 l0_4 l0_5) else ((haulierref01_Fits.f a0_2).bind fun t129 => (if t129 = true then ((haulierref03_UTF.f a0_3).bind fun t130 => (haulierref03_plain.j1 kj1 (!t130) a0_0 a0_1 a0_2 a0_3 l0_4 l0_5)) else (haulierref03_plain.j1 kj1 true a0_0 a0_1 a0_2 a0_3 l0_4 l0_5))))) = some r := by rw [if_neg (show ¬ (false = true) by decide)] at H; exact H
        clear H
        have H := H1
        clear H1
        have HC66 := Aside0.mk H
        clear H
        go_upto_region 3 with (fail)
        repeat (go_quiet (fail); go_upto_region 3 with (fail))
        go_cut [67] (fun v67 wc => ∃ (kq : Nat) (x67_65 : Bool), v67 = .bool x67_65 ∧ Aside0 (haulierref03_plain.j1 kq x67_65 a0_0 a0_1 a0_2 a0_3 l0_4 l0_5 = some r) ∧ Aside0 (kq ≤ kj1) ∧ Aside0 (wc.heap[gb128]? = some (.cells #[.int .i64 a0_0, .bool a0_1, .int .i64 a0_2, .string a0_3, (.slice A0_4 l0_4.length c0_4), (.slice A0_5 l0_5.length c0_5)] 39 (0, 0))) ∧ Aside0 (Below w.heap.size w wc))
        case first =>
          have H := HC66.out
          clear HC66
          by_cases c67 : a0_0 < 1
          · rw [if_pos c67] at H
            have c67b0 : decide (a0_0 < 1) = true := decide_eq_true c67
            clear c67
            (first | rw [c67b0] | (simp only [i64_w, i32_w]; rw [c67b0]) | skip)
            have H' := Aside0.mk H
            clear H
            have hcz68_0 : wc.cell? ⟨gb128, 0, none⟩ = some (.int .i64 a0_0) := (blk_cell BK128.out 0).trans rfl
            have hcz68_1 : wc.cell? ⟨gb128, 1, none⟩ = some (.bool a0_1) := (blk_cell BK128.out 1).trans rfl
            have hcz68_2 : wc.cell? ⟨gb128, 2, none⟩ = some (.int .i64 a0_2) := (blk_cell BK128.out 2).trans rfl
            have hcz68_3 : wc.cell? ⟨gb128, 3, none⟩ = some (.string a0_3) := (blk_cell BK128.out 3).trans rfl
            have hcz68_4 : wc.cell? ⟨gb128, 4, none⟩ = some (.slice A0_4 l0_4.length c0_4) := (blk_cell BK128.out 4).trans rfl
            have hcz68_5 : wc.cell? ⟨gb128, 5, none⟩ = some (.slice A0_5 l0_5.length c0_5) := (blk_cell BK128.out 5).trans rfl
            have hfz68_0 := blk_frozen BK128.out 0
            have hfz68_1 := blk_frozen BK128.out 1
            have hfz68_2 := blk_frozen BK128.out 2
            have hfz68_3 := blk_frozen BK128.out 3
            have hfz68_4 := blk_frozen BK128.out 4
            have hfz68_5 := blk_frozen BK128.out 5
            go_wp2
            repeat (go_quiet (fail); try go_wp2)
            go_meet
            case rel => exact ⟨_, (true), (by first | rfl | (simp; done) | (simp [*]; done)), H', ⟨by have := HJ1.out; first | omega | exact Nat.le_refl _⟩, ⟨by (with_reducible repeat (first | refine blk_drewN ?_ _ | refine blk_drew ?_ | refine blk_alloc ?_ _)); exact BK128.out⟩, ⟨by repeat (first | (with_reducible first | exact HB.out | apply below_alloc | apply pw_below_drewN | apply below_drew1 | refine below_set ?_ GE128.out) | exact HB.out)⟩⟩
          · rw [if_neg c67] at H
            have c67b0 : decide (a0_0 < 1) = false := decide_eq_false c67
            clear c67
            (first | rw [c67b0] | (simp only [i64_w, i32_w]; rw [c67b0]) | skip)
            by_cases c69 : a0_0 > 6
            · rw [if_pos c69] at H
              have c69b0 : decide (6 < a0_0) = true := decide_eq_true c69
              clear c69
              have H' := Aside0.mk H
              clear H
              have hcz70_0 : wc.cell? ⟨gb128, 0, none⟩ = some (.int .i64 a0_0) := (blk_cell BK128.out 0).trans rfl
              have hcz70_1 : wc.cell? ⟨gb128, 1, none⟩ = some (.bool a0_1) := (blk_cell BK128.out 1).trans rfl
              have hcz70_2 : wc.cell? ⟨gb128, 2, none⟩ = some (.int .i64 a0_2) := (blk_cell BK128.out 2).trans rfl
              have hcz70_3 : wc.cell? ⟨gb128, 3, none⟩ = some (.string a0_3) := (blk_cell BK128.out 3).trans rfl
              have hcz70_4 : wc.cell? ⟨gb128, 4, none⟩ = some (.slice A0_4 l0_4.length c0_4) := (blk_cell BK128.out 4).trans rfl
              have hcz70_5 : wc.cell? ⟨gb128, 5, none⟩ = some (.slice A0_5 l0_5.length c0_5) := (blk_cell BK128.out 5).trans rfl
              have hfz70_0 := blk_frozen BK128.out 0
              have hfz70_1 := blk_frozen BK128.out 1
              have hfz70_2 := blk_frozen BK128.out 2
              have hfz70_3 := blk_frozen BK128.out 3
              have hfz70_4 := blk_frozen BK128.out 4
              have hfz70_5 := blk_frozen BK128.out 5
              go_wp2
              repeat (go_quiet (fail); try go_wp2)
              go_meet
              case rel => exact ⟨_, (true), (by first | rfl | (simp; done) | (simp [*]; done)), H', ⟨by have := HJ1.out; first | omega | exact Nat.le_refl _⟩, ⟨by (with_reducible repeat (first | refine blk_drewN ?_ _ | refine blk_drew ?_ | refine blk_alloc ?_ _)); exact BK128.out⟩, ⟨by repeat (first | (with_reducible first | exact HB.out | apply below_alloc | apply pw_below_drewN | apply below_drew1 | refine below_set ?_ GE128.out) | exact HB.out)⟩⟩
            · rw [if_neg c69] at H
              have c69b0 : decide (6 < a0_0) = false := decide_eq_false c69
              clear c69
              replace H := Option.bind_eq_some_iff.mp H
              obtain ⟨t129, A710, H⟩ := H
              replace H : (if t129 = true then ((haulierref03_UTF.f a0_3).bind fun t130 => (haulierref03_plain.j1 kj1 (!t130) a0_0 a0_1 a0_2 a0_3 l0_4 l0_5)) else (haulierref03_plain.j1 kj1 true a0_0 a0_1 a0_2 a0_3 l0_4 l0_5)) = some r := H
              have A71 := Aside0.mk A710
              clear A710
              by_cases c72 : t129 = true
              · subst c72
                have H1 : ((haulierref03_UTF.f a0_3).bind fun t130 => (haulierref03_plain.j1 kj1 (!t130) a0_0 a0_1 a0_2 a0_3 l0_4 l0_5)) = some r := by rw [if_pos rfl] at H; exact H
                clear H
                have H := H1
                clear H1
                replace H := Option.bind_eq_some_iff.mp H
                obtain ⟨t130, A730, H⟩ := H
                replace H : (haulierref03_plain.j1 kj1 (!t130) a0_0 a0_1 a0_2 a0_3 l0_4 l0_5) = some r := H
                have A73 := Aside0.mk A730
                clear A730
                have H' := Aside0.mk H
                clear H
                have hcz74_0 : wc.cell? ⟨gb128, 0, none⟩ = some (.int .i64 a0_0) := (blk_cell BK128.out 0).trans rfl
                have hcz74_1 : wc.cell? ⟨gb128, 1, none⟩ = some (.bool a0_1) := (blk_cell BK128.out 1).trans rfl
                have hcz74_2 : wc.cell? ⟨gb128, 2, none⟩ = some (.int .i64 a0_2) := (blk_cell BK128.out 2).trans rfl
                have hcz74_3 : wc.cell? ⟨gb128, 3, none⟩ = some (.string a0_3) := (blk_cell BK128.out 3).trans rfl
                have hcz74_4 : wc.cell? ⟨gb128, 4, none⟩ = some (.slice A0_4 l0_4.length c0_4) := (blk_cell BK128.out 4).trans rfl
                have hcz74_5 : wc.cell? ⟨gb128, 5, none⟩ = some (.slice A0_5 l0_5.length c0_5) := (blk_cell BK128.out 5).trans rfl
                have hfz74_0 := blk_frozen BK128.out 0
                have hfz74_1 := blk_frozen BK128.out 1
                have hfz74_2 := blk_frozen BK128.out 2
                have hfz74_3 := blk_frozen BK128.out 3
                have hfz74_4 := blk_frozen BK128.out 4
                have hfz74_5 := blk_frozen BK128.out 5
                go_wp2_with (first | (go_at_call 40; (with_reducible refine (haulierref01_Fits.calls a0_2 true _ ⟨by repeat (first | exact hG.out | exact hG.out.below (by repeat (first | (with_reducible first | exact HB.out | apply below_alloc | apply pw_below_drewN | apply below_drew1 | refine below_set ?_ GE128.out) | exact HB.out | exact Below.refl _ _)) | apply Glob.drewN | apply Glob.drew)⟩ A71.out).mono ?_); rintro e w' ⟨rfl, ⟨nd, rfl⟩⟩; (try first | exact ⟨rfl, _, World.drewN_drewN _ _ _⟩ | exact ⟨rfl, _, Eq.trans (World.drewN_drewN _ _ _) (congrArg (World.drewN _) (Nat.add_assoc _ _ _))⟩)) | (go_at_call 20; (with_reducible refine (haulierref03_UTF.calls a0_3 t130 _ ⟨by repeat (first | exact hG.out | exact hG.out.below (by repeat (first | (with_reducible first | exact HB.out | apply below_alloc | apply pw_below_drewN | apply below_drew1 | refine below_set ?_ GE128.out) | exact HB.out | exact Below.refl _ _)) | apply Glob.drewN | apply Glob.drew)⟩ A73.out).mono ?_); rintro e w75 ⟨rfl, hb⟩; have n0_ := Aside0.mk (blk_below (g := gb128) (o := .cells #[.int .i64 a0_0, .bool a0_1, .int .i64 a0_2, .string a0_3, .slice A0_4 l0_4.length c0_4, .slice A0_5 l0_5.length c0_5] 39 (0, 0)) (by (with_reducible repeat (first | refine blk_drewN ?_ _ | refine blk_drew ?_ | refine blk_alloc ?_ _)); exact BK128.out) hb); have n1_ := Aside0.mk (below_step (by repeat (first | (with_reducible first | exact HB.out | apply below_alloc | apply pw_below_drewN | apply below_drew1 | refine below_set ?_ GE128.out) | exact HB.out)) hb); clear BK128; clear HB; have BK128 := n0_; have HB := n1_; clear n0_ n1_; (try clear hb); (try clear hb2); (try clear hk); (try clear hi)))
                repeat (go_quiet (first | (go_at_call 40; (with_reducible refine (haulierref01_Fits.calls a0_2 true _ ⟨by repeat (first | exact hG.out | exact hG.out.below (by repeat (first | (with_reducible first | exact HB.out | apply below_alloc | apply pw_below_drewN | apply below_drew1 | refine below_set ?_ GE128.out) | exact HB.out | exact Below.refl _ _)) | apply Glob.drewN | apply Glob.drew)⟩ A71.out).mono ?_); rintro e w' ⟨rfl, ⟨nd, rfl⟩⟩; (try first | exact ⟨rfl, _, World.drewN_drewN _ _ _⟩ | exact ⟨rfl, _, Eq.trans (World.drewN_drewN _ _ _) (congrArg (World.drewN _) (Nat.add_assoc _ _ _))⟩)) | (go_at_call 20; (with_reducible refine (haulierref03_UTF.calls a0_3 t130 _ ⟨by repeat (first | exact hG.out | exact hG.out.below (by repeat (first | (with_reducible first | exact HB.out | apply below_alloc | apply pw_below_drewN | apply below_drew1 | refine below_set ?_ GE128.out) | exact HB.out | exact Below.refl _ _)) | apply Glob.drewN | apply Glob.drew)⟩ A73.out).mono ?_); rintro e w75 ⟨rfl, hb⟩; have n0_ := Aside0.mk (blk_below (g := gb128) (o := .cells #[.int .i64 a0_0, .bool a0_1, .int .i64 a0_2, .string a0_3, .slice A0_4 l0_4.length c0_4, .slice A0_5 l0_5.length c0_5] 39 (0, 0)) (by (with_reducible repeat (first | refine blk_drewN ?_ _ | refine blk_drew ?_ | refine blk_alloc ?_ _)); exact BK128.out) hb); have n1_ := Aside0.mk (below_step (by repeat (first | (with_reducible first | exact HB.out | apply below_alloc | apply pw_below_drewN | apply below_drew1 | refine below_set ?_ GE128.out) | exact HB.out)) hb); clear BK128; clear HB; have BK128 := n0_; have HB := n1_; clear n0_ n1_; (try clear hb); (try clear hb2); (try clear hk); (try clear hi))); try go_wp2_with (first | (go_at_call 40; (with_reducible refine (haulierref01_Fits.calls a0_2 true _ ⟨by repeat (first | exact hG.out | exact hG.out.below (by repeat (first | (with_reducible first | exact HB.out | apply below_alloc | apply pw_below_drewN | apply below_drew1 | refine below_set ?_ GE128.out) | exact HB.out | exact Below.refl _ _)) | apply Glob.drewN | apply Glob.drew)⟩ A71.out).mono ?_); rintro e w' ⟨rfl, ⟨nd, rfl⟩⟩; (try first | exact ⟨rfl, _, World.drewN_drewN _ _ _⟩ | exact ⟨rfl, _, Eq.trans (World.drewN_drewN _ _ _) (congrArg (World.drewN _) (Nat.add_assoc _ _ _))⟩)) | (go_at_call 20; (with_reducible refine (haulierref03_UTF.calls a0_3 t130 _ ⟨by repeat (first | exact hG.out | exact hG.out.below (by repeat (first | (with_reducible first | exact HB.out | apply below_alloc | apply pw_below_drewN | apply below_drew1 | refine below_set ?_ GE128.out) | exact HB.out | exact Below.refl _ _)) | apply Glob.drewN | apply Glob.drew)⟩ A73.out).mono ?_); rintro e w75 ⟨rfl, hb⟩; have n0_ := Aside0.mk (blk_below (g := gb128) (o := .cells #[.int .i64 a0_0, .bool a0_1, .int .i64 a0_2, .string a0_3, .slice A0_4 l0_4.length c0_4, .slice A0_5 l0_5.length c0_5] 39 (0, 0)) (by (with_reducible repeat (first | refine blk_drewN ?_ _ | refine blk_drew ?_ | refine blk_alloc ?_ _)); exact BK128.out) hb); have n1_ := Aside0.mk (below_step (by repeat (first | (with_reducible first | exact HB.out | apply below_alloc | apply pw_below_drewN | apply below_drew1 | refine below_set ?_ GE128.out) | exact HB.out)) hb); clear BK128; clear HB; have BK128 := n0_; have HB := n1_; clear n0_ n1_; (try clear hb); (try clear hb2); (try clear hk); (try clear hi))))
                go_meet
                case rel => exact ⟨_, (!t130), (by first | rfl | (simp; done) | (simp [*]; done)), H', ⟨by have := HJ1.out; first | omega | exact Nat.le_refl _⟩, ⟨by (with_reducible repeat (first | refine blk_drewN ?_ _ | refine blk_drew ?_ | refine blk_alloc ?_ _)); exact BK128.out⟩, ⟨by repeat (first | (with_reducible first | exact HB.out | apply below_alloc | apply pw_below_drewN | apply below_drew1 | refine below_set ?_ GE128.out) | exact HB.out)⟩⟩
              · replace c72 := Bool.eq_false_iff.mpr c72
                subst c72
                have H1 : (haulierref03_plain.j1 kj1 true a0_0 a0_1 a0_2 a0_3 l0_4 l0_5) = some r := by rw [if_neg (show ¬ (false = true) by decide)] at H; exact H
                clear H
                have H := H1
                clear H1
                have H' := Aside0.mk H
                clear H
                have hcz76_0 : wc.cell? ⟨gb128, 0, none⟩ = some (.int .i64 a0_0) := (blk_cell BK128.out 0).trans rfl
                have hcz76_1 : wc.cell? ⟨gb128, 1, none⟩ = some (.bool a0_1) := (blk_cell BK128.out 1).trans rfl
                have hcz76_2 : wc.cell? ⟨gb128, 2, none⟩ = some (.int .i64 a0_2) := (blk_cell BK128.out 2).trans rfl
                have hcz76_3 : wc.cell? ⟨gb128, 3, none⟩ = some (.string a0_3) := (blk_cell BK128.out 3).trans rfl
                have hcz76_4 : wc.cell? ⟨gb128, 4, none⟩ = some (.slice A0_4 l0_4.length c0_4) := (blk_cell BK128.out 4).trans rfl
                have hcz76_5 : wc.cell? ⟨gb128, 5, none⟩ = some (.slice A0_5 l0_5.length c0_5) := (blk_cell BK128.out 5).trans rfl
                have hfz76_0 := blk_frozen BK128.out 0
                have hfz76_1 := blk_frozen BK128.out 1
                have hfz76_2 := blk_frozen BK128.out 2
                have hfz76_3 := blk_frozen BK128.out 3
                have hfz76_4 := blk_frozen BK128.out 4
                have hfz76_5 := blk_frozen BK128.out 5
                go_wp2_with (first | (go_at_call 40; (with_reducible refine (haulierref01_Fits.calls a0_2 false _ ⟨by repeat (first | exact hG.out | exact hG.out.below (by repeat (first | (with_reducible first | exact HB.out | apply below_alloc | apply pw_below_drewN | apply below_drew1) | exact HB.out | exact Below.refl _ _)) | apply Glob.drewN | apply Glob.drew)⟩ A71.out).mono ?_); rintro e w' ⟨rfl, ⟨nd, rfl⟩⟩; (try first | exact ⟨rfl, _, World.drewN_drewN _ _ _⟩ | exact ⟨rfl, _, Eq.trans (World.drewN_drewN _ _ _) (congrArg (World.drewN _) (Nat.add_assoc _ _ _))⟩)))
                repeat (go_quiet (first | (go_at_call 40; (with_reducible refine (haulierref01_Fits.calls a0_2 false _ ⟨by repeat (first | exact hG.out | exact hG.out.below (by repeat (first | (with_reducible first | exact HB.out | apply below_alloc | apply pw_below_drewN | apply below_drew1) | exact HB.out | exact Below.refl _ _)) | apply Glob.drewN | apply Glob.drew)⟩ A71.out).mono ?_); rintro e w' ⟨rfl, ⟨nd, rfl⟩⟩; (try first | exact ⟨rfl, _, World.drewN_drewN _ _ _⟩ | exact ⟨rfl, _, Eq.trans (World.drewN_drewN _ _ _) (congrArg (World.drewN _) (Nat.add_assoc _ _ _))⟩))); try go_wp2_with (first | (go_at_call 40; (with_reducible refine (haulierref01_Fits.calls a0_2 false _ ⟨by repeat (first | exact hG.out | exact hG.out.below (by repeat (first | (with_reducible first | exact HB.out | apply below_alloc | apply pw_below_drewN | apply below_drew1) | exact HB.out | exact Below.refl _ _)) | apply Glob.drewN | apply Glob.drew)⟩ A71.out).mono ?_); rintro e w' ⟨rfl, ⟨nd, rfl⟩⟩; (try first | exact ⟨rfl, _, World.drewN_drewN _ _ _⟩ | exact ⟨rfl, _, Eq.trans (World.drewN_drewN _ _ _) (congrArg (World.drewN _) (Nat.add_assoc _ _ _))⟩))))
                go_meet
                case rel => exact ⟨_, (true), (by first | rfl | (simp; done) | (simp [*]; done)), H', ⟨by have := HJ1.out; first | omega | exact Nat.le_refl _⟩, ⟨by (with_reducible repeat (first | refine blk_drewN ?_ _ | refine blk_drew ?_ | refine blk_alloc ?_ _)); exact BK128.out⟩, ⟨by repeat (first | (with_reducible first | exact HB.out | apply below_alloc | apply pw_below_drewN | apply below_drew1 | refine below_set ?_ GE128.out) | exact HB.out)⟩⟩
        case rest =>
          clear HC66
          try clear c2
          try clear p2
          try clear c3
          try clear c4
          try clear c5
          try clear c5b0
          try clear c5b1
          try clear c6
          try clear c7
          try clear c20
          try clear c20b0
          try clear c20b1
          try clear c21
          try clear c21b0
          try clear c21b1
          try clear c22
          try clear c22b0
          try clear c22b1
          try clear c23
          try clear c23b0
          try clear c23b1
          try clear c27
          try clear c27b0
          try clear c27b1
          try clear c28
          try clear c28b0
          try clear c28b1
          try clear c29
          try clear c29b0
          try clear c29b1
          try clear c36
          try clear c36b0
          try clear c36b1
          try clear c37
          try clear c37b0
          try clear c37b1
          try clear c38
          try clear c38b0
          try clear c38b1
          try clear c39
          try clear c39b0
          try clear c39b1
          try clear c43
          try clear c43b0
          try clear c43b1
          try clear c44
          try clear c44b0
          try clear c44b1
          try clear c45
          try clear c45b0
          try clear c45b1
          try clear c50
          try clear c50b0
          try clear c50b1
          try clear c51
          try clear c51b0
          try clear c51b1
          try clear c52
          try clear c52b0
          try clear c52b1
          try clear c53
          try clear c53b0
          try clear c53b1
          try clear c57
          try clear c57b0
          try clear c57b1
          try clear c58
          try clear c58b0
          try clear c58b1
          try clear c59
          try clear c59b0
          try clear c59b1
          try clear c65
          try clear c67
          try clear c67b0
          try clear c69
          try clear c69b0
          try clear c72
          try clear hcz24_0
          try clear hcz24_1
          try clear hcz24_2
          try clear hcz24_3
          try clear hcz24_4
          try clear hcz24_5
          try clear hcz25_0
          try clear hcz25_1
          try clear hcz25_2
          try clear hcz25_3
          try clear hcz25_4
          try clear hcz25_5
          try clear hcz26_0
          try clear hcz26_1
          try clear hcz26_2
          try clear hcz26_3
          try clear hcz26_4
          try clear hcz26_5
          try clear hcz30_0
          try clear hcz30_1
          try clear hcz30_2
          try clear hcz30_3
          try clear hcz30_4
          try clear hcz30_5
          try clear hcz31_0
          try clear hcz31_1
          try clear hcz31_2
          try clear hcz31_3
          try clear hcz31_4
          try clear hcz31_5
          try clear hcz32_0
          try clear hcz32_1
          try clear hcz32_2
          try clear hcz32_3
          try clear hcz32_4
          try clear hcz32_5
          try clear hcz33_0
          try clear hcz33_1
          try clear hcz33_2
          try clear hcz33_3
          try clear hcz33_4
          try clear hcz33_5
          try clear hcz34_0
          try clear hcz34_1
          try clear hcz34_2
          try clear hcz34_3
          try clear hcz34_4
          try clear hcz34_5
          try clear hcz35_0
          try clear hcz35_1
          try clear hcz35_2
          try clear hcz35_3
          try clear hcz35_4
          try clear hcz35_5
          try clear hcz40_0
          try clear hcz40_1
          try clear hcz40_2
          try clear hcz40_3
          try clear hcz40_4
          try clear hcz40_5
          try clear hcz41_0
          try clear hcz41_1
          try clear hcz41_2
          try clear hcz41_3
          try clear hcz41_4
          try clear hcz41_5
          try clear hcz42_0
          try clear hcz42_1
          try clear hcz42_2
          try clear hcz42_3
          try clear hcz42_4
          try clear hcz42_5
          try clear hcz46_0
          try clear hcz46_1
          try clear hcz46_2
          try clear hcz46_3
          try clear hcz46_4
          try clear hcz46_5
          try clear hcz47_0
          try clear hcz47_1
          try clear hcz47_2
          try clear hcz47_3
          try clear hcz47_4
          try clear hcz47_5
          try clear hcz48_0
          try clear hcz48_1
          try clear hcz48_2
          try clear hcz48_3
          try clear hcz48_4
          try clear hcz48_5
          try clear hcz49_0
          try clear hcz49_1
          try clear hcz49_2
          try clear hcz49_3
          try clear hcz49_4
          try clear hcz49_5
          try clear hcz54_0
          try clear hcz54_1
          try clear hcz54_2
          try clear hcz54_3
          try clear hcz54_4
          try clear hcz54_5
          try clear hcz55_0
          try clear hcz55_1
          try clear hcz55_2
          try clear hcz55_3
          try clear hcz55_4
          try clear hcz55_5
          try clear hcz56_0
          try clear hcz56_1
          try clear hcz56_2
          try clear hcz56_3
          try clear hcz56_4
          try clear hcz56_5
          try clear hcz60_0
          try clear hcz60_1
          try clear hcz60_2
          try clear hcz60_3
          try clear hcz60_4
          try clear hcz60_5
          try clear hcz61_0
          try clear hcz61_1
          try clear hcz61_2
          try clear hcz61_3
          try clear hcz61_4
          try clear hcz61_5
          try clear hcz62_0
          try clear hcz62_1
          try clear hcz62_2
          try clear hcz62_3
          try clear hcz62_4
          try clear hcz62_5
          try clear hcz63_0
          try clear hcz63_1
          try clear hcz63_2
          try clear hcz63_3
          try clear hcz63_4
          try clear hcz63_5
          try clear hcz64_0
          try clear hcz64_1
          try clear hcz64_2
          try clear hcz64_3
          try clear hcz64_4
          try clear hcz64_5
          try clear hcz68_0
          try clear hcz68_1
          try clear hcz68_2
          try clear hcz68_3
          try clear hcz68_4
          try clear hcz68_5
          try clear hcz70_0
          try clear hcz70_1
          try clear hcz70_2
          try clear hcz70_3
          try clear hcz70_4
          try clear hcz70_5
          try clear hcz74_0
          try clear hcz74_1
          try clear hcz74_2
          try clear hcz74_3
          try clear hcz74_4
          try clear hcz74_5
          try clear hcz76_0
          try clear hcz76_1
          try clear hcz76_2
          try clear hcz76_3
          try clear hcz76_4
          try clear hcz76_5
          try clear hfz24_0
          try clear hfz24_1
          try clear hfz24_2
          try clear hfz24_3
          try clear hfz24_4
          try clear hfz24_5
          try clear hfz25_0
          try clear hfz25_1
          try clear hfz25_2
          try clear hfz25_3
          try clear hfz25_4
          try clear hfz25_5
          try clear hfz26_0
          try clear hfz26_1
          try clear hfz26_2
          try clear hfz26_3
          try clear hfz26_4
          try clear hfz26_5
          try clear hfz30_0
          try clear hfz30_1
          try clear hfz30_2
          try clear hfz30_3
          try clear hfz30_4
          try clear hfz30_5
          try clear hfz31_0
          try clear hfz31_1
          try clear hfz31_2
          try clear hfz31_3
          try clear hfz31_4
          try clear hfz31_5
          try clear hfz32_0
          try clear hfz32_1
          try clear hfz32_2
          try clear hfz32_3
          try clear hfz32_4
          try clear hfz32_5
          try clear hfz33_0
          try clear hfz33_1
          try clear hfz33_2
          try clear hfz33_3
          try clear hfz33_4
          try clear hfz33_5
          try clear hfz34_0
          try clear hfz34_1
          try clear hfz34_2
          try clear hfz34_3
          try clear hfz34_4
          try clear hfz34_5
          try clear hfz35_0
          try clear hfz35_1
          try clear hfz35_2
          try clear hfz35_3
          try clear hfz35_4
          try clear hfz35_5
          try clear hfz40_0
          try clear hfz40_1
          try clear hfz40_2
          try clear hfz40_3
          try clear hfz40_4
          try clear hfz40_5
          try clear hfz41_0
          try clear hfz41_1
          try clear hfz41_2
          try clear hfz41_3
          try clear hfz41_4
          try clear hfz41_5
          try clear hfz42_0
          try clear hfz42_1
          try clear hfz42_2
          try clear hfz42_3
          try clear hfz42_4
          try clear hfz42_5
          try clear hfz46_0
          try clear hfz46_1
          try clear hfz46_2
          try clear hfz46_3
          try clear hfz46_4
          try clear hfz46_5
          try clear hfz47_0
          try clear hfz47_1
          try clear hfz47_2
          try clear hfz47_3
          try clear hfz47_4
          try clear hfz47_5
          try clear hfz48_0
          try clear hfz48_1
          try clear hfz48_2
          try clear hfz48_3
          try clear hfz48_4
          try clear hfz48_5
          try clear hfz49_0
          try clear hfz49_1
          try clear hfz49_2
          try clear hfz49_3
          try clear hfz49_4
          try clear hfz49_5
          try clear hfz54_0
          try clear hfz54_1
          try clear hfz54_2
          try clear hfz54_3
          try clear hfz54_4
          try clear hfz54_5
          try clear hfz55_0
          try clear hfz55_1
          try clear hfz55_2
          try clear hfz55_3
          try clear hfz55_4
          try clear hfz55_5
          try clear hfz56_0
          try clear hfz56_1
          try clear hfz56_2
          try clear hfz56_3
          try clear hfz56_4
          try clear hfz56_5
          try clear hfz60_0
          try clear hfz60_1
          try clear hfz60_2
          try clear hfz60_3
          try clear hfz60_4
          try clear hfz60_5
          try clear hfz61_0
          try clear hfz61_1
          try clear hfz61_2
          try clear hfz61_3
          try clear hfz61_4
          try clear hfz61_5
          try clear hfz62_0
          try clear hfz62_1
          try clear hfz62_2
          try clear hfz62_3
          try clear hfz62_4
          try clear hfz62_5
          try clear hfz63_0
          try clear hfz63_1
          try clear hfz63_2
          try clear hfz63_3
          try clear hfz63_4
          try clear hfz63_5
          try clear hfz64_0
          try clear hfz64_1
          try clear hfz64_2
          try clear hfz64_3
          try clear hfz64_4
          try clear hfz64_5
          try clear hfz68_0
          try clear hfz68_1
          try clear hfz68_2
          try clear hfz68_3
          try clear hfz68_4
          try clear hfz68_5
          try clear hfz70_0
          try clear hfz70_1
          try clear hfz70_2
          try clear hfz70_3
          try clear hfz70_4
          try clear hfz70_5
          try clear hfz74_0
          try clear hfz74_1
          try clear hfz74_2
          try clear hfz74_3
          try clear hfz74_4
          try clear hfz74_5
          try clear hfz76_0
          try clear hfz76_1
          try clear hfz76_2
          try clear hfz76_3
          try clear hfz76_4
          try clear hfz76_5
          try clear p2
          obtain ⟨kq, x67_65, rfl, HA, HJ65, BK128, HB⟩ := hcut
          cases kq with
          | zero => exact absurd HA.out (by simp [haulierref03_plain.j1])
          | succ kj65 =>
            have H := HA.out
            clear HA
            simp only [haulierref03_plain.j1] at H
            by_cases c77 : x67_65 = true
            · subst c77
              have H1 : (some false) = some r := by rw [if_pos rfl] at H; exact H
              clear H
              have H := H1
              clear H1
              obtain rfl := Option.some.inj H
              go_wp2
              repeat (go_quiet (fail); try go_wp2)
              go_ret
              exact ⟨by first | rfl | (simp [errW_none, errW_some] <;> rfl) | (simp [*, errW_none, errW_some] <;> rfl), by repeat (first | (with_reducible first | exact HB.out | apply below_alloc | apply pw_below_drewN | apply below_drew1 | refine below_set ?_ GE128.out) | exact HB.out)⟩
            · replace c77 := Bool.eq_false_iff.mpr c77
              subst c77
              have H1 : (if a0_0 = 6 then (haulierref03_plain.l0 kj65 0 a0_0 a0_1 a0_2 a0_3 l0_4 l0_5) else (some ((l0_4.length : Int) == 0))) = some r := by rw [if_neg (show ¬ (false = true) by decide)] at H; exact H
              clear H
              have H := H1
              clear H1
              by_cases c78 : a0_0 = 6
              · rw [if_pos c78] at H
                have c78b0 : (a0_0 == 6) = true := beq_iff_eq.mpr c78
                have c78b1 : (a0_0 != 6) = false := bne_eq_false_iff_eq.mpr c78
                clear c78
                have H' := Aside0.mk H
                clear H
                have hcz79_0 : wc.cell? ⟨gb128, 0, none⟩ = some (.int .i64 a0_0) := (blk_cell BK128.out 0).trans rfl
                have hcz79_1 : wc.cell? ⟨gb128, 1, none⟩ = some (.bool a0_1) := (blk_cell BK128.out 1).trans rfl
                have hcz79_2 : wc.cell? ⟨gb128, 2, none⟩ = some (.int .i64 a0_2) := (blk_cell BK128.out 2).trans rfl
                have hcz79_3 : wc.cell? ⟨gb128, 3, none⟩ = some (.string a0_3) := (blk_cell BK128.out 3).trans rfl
                have hcz79_4 : wc.cell? ⟨gb128, 4, none⟩ = some (.slice A0_4 l0_4.length c0_4) := (blk_cell BK128.out 4).trans rfl
                have hcz79_5 : wc.cell? ⟨gb128, 5, none⟩ = some (.slice A0_5 l0_5.length c0_5) := (blk_cell BK128.out 5).trans rfl
                have hfz79_0 := blk_frozen BK128.out 0
                have hfz79_1 := blk_frozen BK128.out 1
                have hfz79_2 := blk_frozen BK128.out 2
                have hfz79_3 := blk_frozen BK128.out 3
                have hfz79_4 := blk_frozen BK128.out 4
                have hfz79_5 := blk_frozen BK128.out 5
                go_wp2
                repeat (go_quiet (fail); try go_wp2)
                go_loopg [3] kj65 (fun kq v3 w' => ∃ (x3_3 : Int), v3 = .int .i64 x3_3 ∧ Aside0 (haulierref03_plain.l0 kq x3_3 a0_0 a0_1 a0_2 a0_3 l0_4 l0_5 = some r) ∧ Aside0 (kq ≤ kj65) ∧ Aside0 (w'.heap[gb128]? = some (.cells #[.int .i64 a0_0, .bool a0_1, .int .i64 a0_2, .string a0_3, (.slice A0_4 l0_4.length c0_4), (.slice A0_5 l0_5.length c0_5)] 39 (0, 0))) ∧ Aside0 (Below w.heap.size w w'))
                case atStart => exact ⟨(0), (by first | rfl | (simp; done) | (simp [*]; done)), H', ⟨Nat.le_refl _⟩, ⟨by (with_reducible repeat (first | refine blk_drewN ?_ _ | refine blk_drew ?_ | refine blk_alloc ?_ _)); exact BK128.out⟩, ⟨by repeat (first | (with_reducible first | exact HB.out | apply below_alloc | apply pw_below_drewN | apply below_drew1 | refine below_set ?_ GE128.out) | exact HB.out)⟩⟩
                case round =>
                  clear H'
                  try clear c2
                  try clear p2
                  try clear c3
                  try clear c4
                  try clear c5
                  try clear c5b0
                  try clear c5b1
                  try clear c6
                  try clear c7
                  try clear c20
                  try clear c20b0
                  try clear c20b1
                  try clear c21
                  try clear c21b0
                  try clear c21b1
                  try clear c22
                  try clear c22b0
                  try clear c22b1
                  try clear c23
                  try clear c23b0
                  try clear c23b1
                  try clear c27
                  try clear c27b0
                  try clear c27b1
                  try clear c28
                  try clear c28b0
                  try clear c28b1
                  try clear c29
                  try clear c29b0
                  try clear c29b1
                  try clear c36
                  try clear c36b0
                  try clear c36b1
                  try clear c37
                  try clear c37b0
                  try clear c37b1
                  try clear c38
                  try clear c38b0
                  try clear c38b1
                  try clear c39
                  try clear c39b0
                  try clear c39b1
                  try clear c43
                  try clear c43b0
                  try clear c43b1
                  try clear c44
                  try clear c44b0
                  try clear c44b1
                  try clear c45
                  try clear c45b0
                  try clear c45b1
                  try clear c50
                  try clear c50b0
                  try clear c50b1
                  try clear c51
                  try clear c51b0
                  try clear c51b1
                  try clear c52
                  try clear c52b0
                  try clear c52b1
                  try clear c53
                  try clear c53b0
                  try clear c53b1
                  try clear c57
                  try clear c57b0
                  try clear c57b1
                  try clear c58
                  try clear c58b0
                  try clear c58b1
                  try clear c59
                  try clear c59b0
                  try clear c59b1
                  try clear c65
                  try clear c67
                  try clear c67b0
                  try clear c69
                  try clear c69b0
                  try clear c72
                  try clear c77
                  try clear c78
                  try clear c78b0
                  try clear c78b1
                  try clear hcz24_0
                  try clear hcz24_1
                  try clear hcz24_2
                  try clear hcz24_3
                  try clear hcz24_4
                  try clear hcz24_5
                  try clear hcz25_0
                  try clear hcz25_1
                  try clear hcz25_2
                  try clear hcz25_3
                  try clear hcz25_4
                  try clear hcz25_5
                  try clear hcz26_0
                  try clear hcz26_1
                  try clear hcz26_2
                  try clear hcz26_3
                  try clear hcz26_4
                  try clear hcz26_5
                  try clear hcz30_0
                  try clear hcz30_1
                  try clear hcz30_2
                  try clear hcz30_3
                  try clear hcz30_4
                  try clear hcz30_5
                  try clear hcz31_0
                  try clear hcz31_1
                  try clear hcz31_2
                  try clear hcz31_3
                  try clear hcz31_4
                  try clear hcz31_5
                  try clear hcz32_0
                  try clear hcz32_1
                  try clear hcz32_2
                  try clear hcz32_3
                  try clear hcz32_4
                  try clear hcz32_5
                  try clear hcz33_0
                  try clear hcz33_1
                  try clear hcz33_2
                  try clear hcz33_3
                  try clear hcz33_4
                  try clear hcz33_5
                  try clear hcz34_0
                  try clear hcz34_1
                  try clear hcz34_2
                  try clear hcz34_3
                  try clear hcz34_4
                  try clear hcz34_5
                  try clear hcz35_0
                  try clear hcz35_1
                  try clear hcz35_2
                  try clear hcz35_3
                  try clear hcz35_4
                  try clear hcz35_5
                  try clear hcz40_0
                  try clear hcz40_1
                  try clear hcz40_2
                  try clear hcz40_3
                  try clear hcz40_4
                  try clear hcz40_5
                  try clear hcz41_0
                  try clear hcz41_1
                  try clear hcz41_2
                  try clear hcz41_3
                  try clear hcz41_4
                  try clear hcz41_5
                  try clear hcz42_0
                  try clear hcz42_1
                  try clear hcz42_2
                  try clear hcz42_3
                  try clear hcz42_4
                  try clear hcz42_5
                  try clear hcz46_0
                  try clear hcz46_1
                  try clear hcz46_2
                  try clear hcz46_3
                  try clear hcz46_4
                  try clear hcz46_5
                  try clear hcz47_0
                  try clear hcz47_1
                  try clear hcz47_2
                  try clear hcz47_3
                  try clear hcz47_4
                  try clear hcz47_5
                  try clear hcz48_0
                  try clear hcz48_1
                  try clear hcz48_2
                  try clear hcz48_3
                  try clear hcz48_4
                  try clear hcz48_5
                  try clear hcz49_0
                  try clear hcz49_1
                  try clear hcz49_2
                  try clear hcz49_3
                  try clear hcz49_4
                  try clear hcz49_5
                  try clear hcz54_0
                  try clear hcz54_1
                  try clear hcz54_2
                  try clear hcz54_3
                  try clear hcz54_4
                  try clear hcz54_5
                  try clear hcz55_0
                  try clear hcz55_1
                  try clear hcz55_2
                  try clear hcz55_3
                  try clear hcz55_4
                  try clear hcz55_5
                  try clear hcz56_0
                  try clear hcz56_1
                  try clear hcz56_2
                  try clear hcz56_3
                  try clear hcz56_4
                  try clear hcz56_5
                  try clear hcz60_0
                  try clear hcz60_1
                  try clear hcz60_2
                  try clear hcz60_3
                  try clear hcz60_4
                  try clear hcz60_5
                  try clear hcz61_0
                  try clear hcz61_1
                  try clear hcz61_2
                  try clear hcz61_3
                  try clear hcz61_4
                  try clear hcz61_5
                  try clear hcz62_0
                  try clear hcz62_1
                  try clear hcz62_2
                  try clear hcz62_3
                  try clear hcz62_4
                  try clear hcz62_5
                  try clear hcz63_0
                  try clear hcz63_1
                  try clear hcz63_2
                  try clear hcz63_3
                  try clear hcz63_4
                  try clear hcz63_5
                  try clear hcz64_0
                  try clear hcz64_1
                  try clear hcz64_2
                  try clear hcz64_3
                  try clear hcz64_4
                  try clear hcz64_5
                  try clear hcz68_0
                  try clear hcz68_1
                  try clear hcz68_2
                  try clear hcz68_3
                  try clear hcz68_4
                  try clear hcz68_5
                  try clear hcz70_0
                  try clear hcz70_1
                  try clear hcz70_2
                  try clear hcz70_3
                  try clear hcz70_4
                  try clear hcz70_5
                  try clear hcz74_0
                  try clear hcz74_1
                  try clear hcz74_2
                  try clear hcz74_3
                  try clear hcz74_4
                  try clear hcz74_5
                  try clear hcz76_0
                  try clear hcz76_1
                  try clear hcz76_2
                  try clear hcz76_3
                  try clear hcz76_4
                  try clear hcz76_5
                  try clear hcz79_0
                  try clear hcz79_1
                  try clear hcz79_2
                  try clear hcz79_3
                  try clear hcz79_4
                  try clear hcz79_5
                  try clear hfz24_0
                  try clear hfz24_1
                  try clear hfz24_2
                  try clear hfz24_3
                  try clear hfz24_4
                  try clear hfz24_5
                  try clear hfz25_0
                  try clear hfz25_1
                  try clear hfz25_2
                  try clear hfz25_3
                  try clear hfz25_4
                  try clear hfz25_5
                  try clear hfz26_0
                  try clear hfz26_1
                  try clear hfz26_2
                  try clear hfz26_3
                  try clear hfz26_4
                  try clear hfz26_5
                  try clear hfz30_0
                  try clear hfz30_1
                  try clear hfz30_2
                  try clear hfz30_3
                  try clear hfz30_4
                  try clear hfz30_5
                  try clear hfz31_0
                  try clear hfz31_1
                  try clear hfz31_2
                  try clear hfz31_3
                  try clear hfz31_4
                  try clear hfz31_5
                  try clear hfz32_0
                  try clear hfz32_1
                  try clear hfz32_2
                  try clear hfz32_3
                  try clear hfz32_4
                  try clear hfz32_5
                  try clear hfz33_0
                  try clear hfz33_1
                  try clear hfz33_2
                  try clear hfz33_3
                  try clear hfz33_4
                  try clear hfz33_5
                  try clear hfz34_0
                  try clear hfz34_1
                  try clear hfz34_2
                  try clear hfz34_3
                  try clear hfz34_4
                  try clear hfz34_5
                  try clear hfz35_0
                  try clear hfz35_1
                  try clear hfz35_2
                  try clear hfz35_3
                  try clear hfz35_4
                  try clear hfz35_5
                  try clear hfz40_0
                  try clear hfz40_1
                  try clear hfz40_2
                  try clear hfz40_3
                  try clear hfz40_4
                  try clear hfz40_5
                  try clear hfz41_0
                  try clear hfz41_1
                  try clear hfz41_2
                  try clear hfz41_3
                  try clear hfz41_4
                  try clear hfz41_5
                  try clear hfz42_0
                  try clear hfz42_1
                  try clear hfz42_2
                  try clear hfz42_3
                  try clear hfz42_4
                  try clear hfz42_5
                  try clear hfz46_0
                  try clear hfz46_1
                  try clear hfz46_2
                  try clear hfz46_3
                  try clear hfz46_4
                  try clear hfz46_5
                  try clear hfz47_0
                  try clear hfz47_1
                  try clear hfz47_2
                  try clear hfz47_3
                  try clear hfz47_4
                  try clear hfz47_5
                  try clear hfz48_0
                  try clear hfz48_1
                  try clear hfz48_2
                  try clear hfz48_3
                  try clear hfz48_4
                  try clear hfz48_5
                  try clear hfz49_0
                  try clear hfz49_1
                  try clear hfz49_2
                  try clear hfz49_3
                  try clear hfz49_4
                  try clear hfz49_5
                  try clear hfz54_0
                  try clear hfz54_1
                  try clear hfz54_2
                  try clear hfz54_3
                  try clear hfz54_4
                  try clear hfz54_5
                  try clear hfz55_0
                  try clear hfz55_1
                  try clear hfz55_2
                  try clear hfz55_3
                  try clear hfz55_4
                  try clear hfz55_5
                  try clear hfz56_0
                  try clear hfz56_1
                  try clear hfz56_2
                  try clear hfz56_3
                  try clear hfz56_4
                  try clear hfz56_5
                  try clear hfz60_0
                  try clear hfz60_1
                  try clear hfz60_2
                  try clear hfz60_3
                  try clear hfz60_4
                  try clear hfz60_5
                  try clear hfz61_0
                  try clear hfz61_1
                  try clear hfz61_2
                  try clear hfz61_3
                  try clear hfz61_4
                  try clear hfz61_5
                  try clear hfz62_0
                  try clear hfz62_1
                  try clear hfz62_2
                  try clear hfz62_3
                  try clear hfz62_4
                  try clear hfz62_5
                  try clear hfz63_0
                  try clear hfz63_1
                  try clear hfz63_2
                  try clear hfz63_3
                  try clear hfz63_4
                  try clear hfz63_5
                  try clear hfz64_0
                  try clear hfz64_1
                  try clear hfz64_2
                  try clear hfz64_3
                  try clear hfz64_4
                  try clear hfz64_5
                  try clear hfz68_0
                  try clear hfz68_1
                  try clear hfz68_2
                  try clear hfz68_3
                  try clear hfz68_4
                  try clear hfz68_5
                  try clear hfz70_0
                  try clear hfz70_1
                  try clear hfz70_2
                  try clear hfz70_3
                  try clear hfz70_4
                  try clear hfz70_5
                  try clear hfz74_0
                  try clear hfz74_1
                  try clear hfz74_2
                  try clear hfz74_3
                  try clear hfz74_4
                  try clear hfz74_5
                  try clear hfz76_0
                  try clear hfz76_1
                  try clear hfz76_2
                  try clear hfz76_3
                  try clear hfz76_4
                  try clear hfz76_5
                  try clear hfz79_0
                  try clear hfz79_1
                  try clear hfz79_2
                  try clear hfz79_3
                  try clear hfz79_4
                  try clear hfz79_5
                  try clear p2
                  obtain ⟨x3_3, rfl, HA, HK3, BK128, HB⟩ := hrel
                  cases gk with
                  | zero => exact absurd HA.out (by simp [haulierref03_plain.l0])
                  | succ k3 =>
                    have H := HA.out
                    clear HA
                    simp only [haulierref03_plain.l0] at H
                    by_cases c80 : x3_3 < (l0_4.length : Int)
                    · rw [if_pos c80] at H
                      have c80b0 : decide (x3_3 < (l0_4.length : Int)) = true := decide_eq_true c80
                      clear c80
                      by_cases c81 : 0 ≤ x3_3
                      · rw [if_pos c81] at H
                        have c81b0 : decide (0 ≤ x3_3) = true := decide_eq_true c81
                        clear c81
                        replace H := Option.bind_eq_some_iff.mp H
                        obtain ⟨t132, A820, H⟩ := H
                        replace H : (if t132 = true then (haulierref03_plain.l1 k3 x3_3 0 a0_0 a0_1 a0_2 a0_3 l0_4 l0_5) else (some false)) = some r := H
                        have A82 := Aside0.mk A820
                        clear A820
                        by_cases c83 : t132 = true
                        · subst c83
                          have H1 : (haulierref03_plain.l1 k3 x3_3 0 a0_0 a0_1 a0_2 a0_3 l0_4 l0_5) = some r := by rw [if_pos rfl] at H; exact H
                          clear H
                          have H := H1
                          clear H1
                          have H' := Aside0.mk H
                          clear H
                          have hcz84_0 : wr.cell? ⟨gb128, 0, none⟩ = some (.int .i64 a0_0) := (blk_cell BK128.out 0).trans rfl
                          have hcz84_1 : wr.cell? ⟨gb128, 1, none⟩ = some (.bool a0_1) := (blk_cell BK128.out 1).trans rfl
                          have hcz84_2 : wr.cell? ⟨gb128, 2, none⟩ = some (.int .i64 a0_2) := (blk_cell BK128.out 2).trans rfl
                          have hcz84_3 : wr.cell? ⟨gb128, 3, none⟩ = some (.string a0_3) := (blk_cell BK128.out 3).trans rfl
                          have hcz84_4 : wr.cell? ⟨gb128, 4, none⟩ = some (.slice A0_4 l0_4.length c0_4) := (blk_cell BK128.out 4).trans rfl
                          have hcz84_5 : wr.cell? ⟨gb128, 5, none⟩ = some (.slice A0_5 l0_5.length c0_5) := (blk_cell BK128.out 5).trans rfl
                          have hfz84_0 := blk_frozen BK128.out 0
                          have hfz84_1 := blk_frozen BK128.out 1
                          have hfz84_2 := blk_frozen BK128.out 2
                          have hfz84_3 := blk_frozen BK128.out 3
                          have hfz84_4 := blk_frozen BK128.out 4
                          have hfz84_5 := blk_frozen BK128.out 5
                          have p131 : 0 ≤ (x3_3 : Int) := of_decide_eq_true (by first | (with_reducible assumption) | assumption)
                          have q131 : x3_3 < (l0_4.length : Int) := of_decide_eq_true (by first | (with_reducible assumption) | assumption)
                          obtain ⟨ad131, e131, hx131_0⟩ := Kd.at_string HR0_4.out x3_3 p131 q131
                          cases e131
                          replace hx131_0 := (HB.out.cell (World.block_lt_of_cell? w _ hx131_0)).trans hx131_0
                          replace p131 := eq_true p131
                          replace q131 := eq_true q131
                          go_wp2_with (first | (go_at_call 20; (with_reducible refine (haulierref03_UTF.calls (rdOf ByteArray.empty l0_4 x3_3) true _ ⟨by repeat (first | exact hG.out | exact hG.out.below (by repeat (first | (with_reducible first | exact HB.out | apply below_alloc | apply pw_below_drewN | apply below_drew1 | refine below_set ?_ GE128.out) | exact HB.out | exact Below.refl _ _)) | apply Glob.drewN | apply Glob.drew)⟩ A82.out).mono ?_); rintro e w85 ⟨rfl, hb⟩; have n0_ := Aside0.mk (blk_below (g := gb128) (o := .cells #[.int .i64 a0_0, .bool a0_1, .int .i64 a0_2, .string a0_3, .slice (some ad131) l0_4.length c0_4, .slice A0_5 l0_5.length c0_5] 39 (0, 0)) (by (with_reducible repeat (first | refine blk_drewN ?_ _ | refine blk_drew ?_ | refine blk_alloc ?_ _)); exact BK128.out) hb); have n1_ := Aside0.mk (below_step (by repeat (first | (with_reducible first | exact HB.out | apply below_alloc | apply pw_below_drewN | apply below_drew1 | refine below_set ?_ GE128.out) | exact HB.out)) hb); clear BK128; clear HB; have BK128 := n0_; have HB := n1_; clear n0_ n1_; (try clear hb); (try clear hb2); (try clear hk); (try clear hi)))
                          repeat (go_quiet (first | (go_at_call 20; (with_reducible refine (haulierref03_UTF.calls (rdOf ByteArray.empty l0_4 x3_3) true _ ⟨by repeat (first | exact hG.out | exact hG.out.below (by repeat (first | (with_reducible first | exact HB.out | apply below_alloc | apply pw_below_drewN | apply below_drew1 | refine below_set ?_ GE128.out) | exact HB.out | exact Below.refl _ _)) | apply Glob.drewN | apply Glob.drew)⟩ A82.out).mono ?_); rintro e w85 ⟨rfl, hb⟩; have n0_ := Aside0.mk (blk_below (g := gb128) (o := .cells #[.int .i64 a0_0, .bool a0_1, .int .i64 a0_2, .string a0_3, .slice (some ad131) l0_4.length c0_4, .slice A0_5 l0_5.length c0_5] 39 (0, 0)) (by (with_reducible repeat (first | refine blk_drewN ?_ _ | refine blk_drew ?_ | refine blk_alloc ?_ _)); exact BK128.out) hb); have n1_ := Aside0.mk (below_step (by repeat (first | (with_reducible first | exact HB.out | apply below_alloc | apply pw_below_drewN | apply below_drew1 | refine below_set ?_ GE128.out) | exact HB.out)) hb); clear BK128; clear HB; have BK128 := n0_; have HB := n1_; clear n0_ n1_; (try clear hb); (try clear hb2); (try clear hk); (try clear hi))); try go_wp2_with (first | (go_at_call 20; (with_reducible refine (haulierref03_UTF.calls (rdOf ByteArray.empty l0_4 x3_3) true _ ⟨by repeat (first | exact hG.out | exact hG.out.below (by repeat (first | (with_reducible first | exact HB.out | apply below_alloc | apply pw_below_drewN | apply below_drew1 | refine below_set ?_ GE128.out) | exact HB.out | exact Below.refl _ _)) | apply Glob.drewN | apply Glob.drew)⟩ A82.out).mono ?_); rintro e w85 ⟨rfl, hb⟩; have n0_ := Aside0.mk (blk_below (g := gb128) (o := .cells #[.int .i64 a0_0, .bool a0_1, .int .i64 a0_2, .string a0_3, .slice (some ad131) l0_4.length c0_4, .slice A0_5 l0_5.length c0_5] 39 (0, 0)) (by (with_reducible repeat (first | refine blk_drewN ?_ _ | refine blk_drew ?_ | refine blk_alloc ?_ _)); exact BK128.out) hb); have n1_ := Aside0.mk (below_step (by repeat (first | (with_reducible first | exact HB.out | apply below_alloc | apply pw_below_drewN | apply below_drew1 | refine below_set ?_ GE128.out) | exact HB.out)) hb); clear BK128; clear HB; have BK128 := n0_; have HB := n1_; clear n0_ n1_; (try clear hb); (try clear hb2); (try clear hk); (try clear hi))))
                          go_loopg [4] k3 (fun kq v4 w' => ∃ (x4_4 : Int), v4 = .int .i64 x4_4 ∧ Aside0 (haulierref03_plain.l1 kq x3_3 x4_4 a0_0 a0_1 a0_2 a0_3 l0_4 l0_5 = some r) ∧ Aside0 (kq ≤ k3) ∧ Aside0 (w'.heap[gb128]? = some (.cells #[.int .i64 a0_0, .bool a0_1, .int .i64 a0_2, .string a0_3, (.slice (some ad131) l0_4.length c0_4), (.slice A0_5 l0_5.length c0_5)] 39 (0, 0))) ∧ Aside0 (Below w.heap.size w w'))
                          case atStart => exact ⟨(0), (by first | rfl | (simp; done) | (simp [*]; done)), H', ⟨Nat.le_refl _⟩, ⟨by (with_reducible repeat (first | refine blk_drewN ?_ _ | refine blk_drew ?_ | refine blk_alloc ?_ _)); exact BK128.out⟩, ⟨by repeat (first | (with_reducible first | exact HB.out | apply below_alloc | apply pw_below_drewN | apply below_drew1 | refine below_set ?_ GE128.out) | exact HB.out)⟩⟩
                          case round =>
                            clear H'
                            try clear p1
                            try clear q1
                            try clear hx1
                            try clear c2
                            try clear p2
                            try clear c3
                            try clear c4
                            try clear c5
                            try clear c5b0
                            try clear c5b1
                            try clear c6
                            try clear c7
                            try clear c8
                            try clear p13
                            try clear q13
                            try clear hx13
                            try clear c20
                            try clear c20b0
                            try clear c20b1
                            try clear c21
                            try clear c21b0
                            try clear c21b1
                            try clear c22
                            try clear c22b0
                            try clear c22b1
                            try clear c23
                            try clear c23b0
                            try clear c23b1
                            try clear c27
                            try clear c27b0
                            try clear c27b1
                            try clear c28
                            try clear c28b0
                            try clear c28b1
                            try clear c29
                            try clear c29b0
                            try clear c29b1
                            try clear c36
                            try clear c36b0
                            try clear c36b1
                            try clear c37
                            try clear c37b0
                            try clear c37b1
                            try clear c38
                            try clear c38b0
                            try clear c38b1
                            try clear c39
                            try clear c39b0
                            try clear c39b1
                            try clear c43
                            try clear c43b0
                            try clear c43b1
                            try clear c44
                            try clear c44b0
                            try clear c44b1
                            try clear c45
                            try clear c45b0
                            try clear c45b1
                            try clear c50
                            try clear c50b0
                            try clear c50b1
                            try clear c51
                            try clear c51b0
                            try clear c51b1
                            try clear c52
                            try clear c52b0
                            try clear c52b1
                            try clear c53
                            try clear c53b0
                            try clear c53b1
                            try clear c57
                            try clear c57b0
                            try clear c57b1
                            try clear c58
                            try clear c58b0
                            try clear c58b1
                            try clear c59
                            try clear c59b0
                            try clear c59b1
                            try clear c65
                            try clear c67
                            try clear c67b0
                            try clear c69
                            try clear c69b0
                            try clear c72
                            try clear c77
                            try clear c78
                            try clear c78b0
                            try clear c78b1
                            try clear c80
                            try clear c80b0
                            try clear c81
                            try clear c81b0
                            try clear c83
                            try clear hcz24_0
                            try clear hcz24_1
                            try clear hcz24_2
                            try clear hcz24_3
                            try clear hcz24_4
                            try clear hcz24_5
                            try clear hcz25_0
                            try clear hcz25_1
                            try clear hcz25_2
                            try clear hcz25_3
                            try clear hcz25_4
                            try clear hcz25_5
                            try clear hcz26_0
                            try clear hcz26_1
                            try clear hcz26_2
                            try clear hcz26_3
                            try clear hcz26_4
                            try clear hcz26_5
                            try clear hcz30_0
                            try clear hcz30_1
                            try clear hcz30_2
                            try clear hcz30_3
                            try clear hcz30_4
                            try clear hcz30_5
                            try clear hcz31_0
                            try clear hcz31_1
                            try clear hcz31_2
                            try clear hcz31_3
                            try clear hcz31_4
                            try clear hcz31_5
                            try clear hcz32_0
                            try clear hcz32_1
                            try clear hcz32_2
                            try clear hcz32_3
                            try clear hcz32_4
                            try clear hcz32_5
                            try clear hcz33_0
                            try clear hcz33_1
                            try clear hcz33_2
                            try clear hcz33_3
                            try clear hcz33_4
                            try clear hcz33_5
                            try clear hcz34_0
                            try clear hcz34_1
                            try clear hcz34_2
                            try clear hcz34_3
                            try clear hcz34_4
                            try clear hcz34_5
                            try clear hcz35_0
                            try clear hcz35_1
                            try clear hcz35_2
                            try clear hcz35_3
                            try clear hcz35_4
                            try clear hcz35_5
                            try clear hcz40_0
                            try clear hcz40_1
                            try clear hcz40_2
                            try clear hcz40_3
                            try clear hcz40_4
                            try clear hcz40_5
                            try clear hcz41_0
                            try clear hcz41_1
                            try clear hcz41_2
                            try clear hcz41_3
                            try clear hcz41_4
                            try clear hcz41_5
                            try clear hcz42_0
                            try clear hcz42_1
                            try clear hcz42_2
                            try clear hcz42_3
                            try clear hcz42_4
                            try clear hcz42_5
                            try clear hcz46_0
                            try clear hcz46_1
                            try clear hcz46_2
                            try clear hcz46_3
                            try clear hcz46_4
                            try clear hcz46_5
                            try clear hcz47_0
                            try clear hcz47_1
                            try clear hcz47_2
                            try clear hcz47_3
                            try clear hcz47_4
                            try clear hcz47_5
                            try clear hcz48_0
                            try clear hcz48_1
                            try clear hcz48_2
                            try clear hcz48_3
                            try clear hcz48_4
                            try clear hcz48_5
                            try clear hcz49_0
                            try clear hcz49_1
                            try clear hcz49_2
                            try clear hcz49_3
                            try clear hcz49_4
                            try clear hcz49_5
                            try clear hcz54_0
                            try clear hcz54_1
                            try clear hcz54_2
                            try clear hcz54_3
                            try clear hcz54_4
                            try clear hcz54_5
                            try clear hcz55_0
                            try clear hcz55_1
                            try clear hcz55_2
                            try clear hcz55_3
                            try clear hcz55_4
                            try clear hcz55_5
                            try clear hcz56_0
                            try clear hcz56_1
                            try clear hcz56_2
                            try clear hcz56_3
                            try clear hcz56_4
                            try clear hcz56_5
                            try clear hcz60_0
                            try clear hcz60_1
                            try clear hcz60_2
                            try clear hcz60_3
                            try clear hcz60_4
                            try clear hcz60_5
                            try clear hcz61_0
                            try clear hcz61_1
                            try clear hcz61_2
                            try clear hcz61_3
                            try clear hcz61_4
                            try clear hcz61_5
                            try clear hcz62_0
                            try clear hcz62_1
                            try clear hcz62_2
                            try clear hcz62_3
                            try clear hcz62_4
                            try clear hcz62_5
                            try clear hcz63_0
                            try clear hcz63_1
                            try clear hcz63_2
                            try clear hcz63_3
                            try clear hcz63_4
                            try clear hcz63_5
                            try clear hcz64_0
                            try clear hcz64_1
                            try clear hcz64_2
                            try clear hcz64_3
                            try clear hcz64_4
                            try clear hcz64_5
                            try clear hcz68_0
                            try clear hcz68_1
                            try clear hcz68_2
                            try clear hcz68_3
                            try clear hcz68_4
                            try clear hcz68_5
                            try clear hcz70_0
                            try clear hcz70_1
                            try clear hcz70_2
                            try clear hcz70_3
                            try clear hcz70_4
                            try clear hcz70_5
                            try clear hcz74_0
                            try clear hcz74_1
                            try clear hcz74_2
                            try clear hcz74_3
                            try clear hcz74_4
                            try clear hcz74_5
                            try clear hcz76_0
                            try clear hcz76_1
                            try clear hcz76_2
                            try clear hcz76_3
                            try clear hcz76_4
                            try clear hcz76_5
                            try clear hcz79_0
                            try clear hcz79_1
                            try clear hcz79_2
                            try clear hcz79_3
                            try clear hcz79_4
                            try clear hcz79_5
                            try clear hcz84_0
                            try clear hcz84_1
                            try clear hcz84_2
                            try clear hcz84_3
                            try clear hcz84_4
                            try clear hcz84_5
                            try clear hfz24_0
                            try clear hfz24_1
                            try clear hfz24_2
                            try clear hfz24_3
                            try clear hfz24_4
                            try clear hfz24_5
                            try clear hfz25_0
                            try clear hfz25_1
                            try clear hfz25_2
                            try clear hfz25_3
                            try clear hfz25_4
                            try clear hfz25_5
                            try clear hfz26_0
                            try clear hfz26_1
                            try clear hfz26_2
                            try clear hfz26_3
                            try clear hfz26_4
                            try clear hfz26_5
                            try clear hfz30_0
                            try clear hfz30_1
                            try clear hfz30_2
                            try clear hfz30_3
                            try clear hfz30_4
                            try clear hfz30_5
                            try clear hfz31_0
                            try clear hfz31_1
                            try clear hfz31_2
                            try clear hfz31_3
                            try clear hfz31_4
                            try clear hfz31_5
                            try clear hfz32_0
                            try clear hfz32_1
                            try clear hfz32_2
                            try clear hfz32_3
                            try clear hfz32_4
                            try clear hfz32_5
                            try clear hfz33_0
                            try clear hfz33_1
                            try clear hfz33_2
                            try clear hfz33_3
                            try clear hfz33_4
                            try clear hfz33_5
                            try clear hfz34_0
                            try clear hfz34_1
                            try clear hfz34_2
                            try clear hfz34_3
                            try clear hfz34_4
                            try clear hfz34_5
                            try clear hfz35_0
                            try clear hfz35_1
                            try clear hfz35_2
                            try clear hfz35_3
                            try clear hfz35_4
                            try clear hfz35_5
                            try clear hfz40_0
                            try clear hfz40_1
                            try clear hfz40_2
                            try clear hfz40_3
                            try clear hfz40_4
                            try clear hfz40_5
                            try clear hfz41_0
                            try clear hfz41_1
                            try clear hfz41_2
                            try clear hfz41_3
                            try clear hfz41_4
                            try clear hfz41_5
                            try clear hfz42_0
                            try clear hfz42_1
                            try clear hfz42_2
                            try clear hfz42_3
                            try clear hfz42_4
                            try clear hfz42_5
                            try clear hfz46_0
                            try clear hfz46_1
                            try clear hfz46_2
                            try clear hfz46_3
                            try clear hfz46_4
                            try clear hfz46_5
                            try clear hfz47_0
                            try clear hfz47_1
                            try clear hfz47_2
                            try clear hfz47_3
                            try clear hfz47_4
                            try clear hfz47_5
                            try clear hfz48_0
                            try clear hfz48_1
                            try clear hfz48_2
                            try clear hfz48_3
                            try clear hfz48_4
                            try clear hfz48_5
                            try clear hfz49_0
                            try clear hfz49_1
                            try clear hfz49_2
                            try clear hfz49_3
                            try clear hfz49_4
                            try clear hfz49_5
                            try clear hfz54_0
                            try clear hfz54_1
                            try clear hfz54_2
                            try clear hfz54_3
                            try clear hfz54_4
                            try clear hfz54_5
                            try clear hfz55_0
                            try clear hfz55_1
                            try clear hfz55_2
                            try clear hfz55_3
                            try clear hfz55_4
                            try clear hfz55_5
                            try clear hfz56_0
                            try clear hfz56_1
                            try clear hfz56_2
                            try clear hfz56_3
                            try clear hfz56_4
                            try clear hfz56_5
                            try clear hfz60_0
                            try clear hfz60_1
                            try clear hfz60_2
                            try clear hfz60_3
                            try clear hfz60_4
                            try clear hfz60_5
                            try clear hfz61_0
                            try clear hfz61_1
                            try clear hfz61_2
                            try clear hfz61_3
                            try clear hfz61_4
                            try clear hfz61_5
                            try clear hfz62_0
                            try clear hfz62_1
                            try clear hfz62_2
                            try clear hfz62_3
                            try clear hfz62_4
                            try clear hfz62_5
                            try clear hfz63_0
                            try clear hfz63_1
                            try clear hfz63_2
                            try clear hfz63_3
                            try clear hfz63_4
                            try clear hfz63_5
                            try clear hfz64_0
                            try clear hfz64_1
                            try clear hfz64_2
                            try clear hfz64_3
                            try clear hfz64_4
                            try clear hfz64_5
                            try clear hfz68_0
                            try clear hfz68_1
                            try clear hfz68_2
                            try clear hfz68_3
                            try clear hfz68_4
                            try clear hfz68_5
                            try clear hfz70_0
                            try clear hfz70_1
                            try clear hfz70_2
                            try clear hfz70_3
                            try clear hfz70_4
                            try clear hfz70_5
                            try clear hfz74_0
                            try clear hfz74_1
                            try clear hfz74_2
                            try clear hfz74_3
                            try clear hfz74_4
                            try clear hfz74_5
                            try clear hfz76_0
                            try clear hfz76_1
                            try clear hfz76_2
                            try clear hfz76_3
                            try clear hfz76_4
                            try clear hfz76_5
                            try clear hfz79_0
                            try clear hfz79_1
                            try clear hfz79_2
                            try clear hfz79_3
                            try clear hfz79_4
                            try clear hfz79_5
                            try clear hfz84_0
                            try clear hfz84_1
                            try clear hfz84_2
                            try clear hfz84_3
                            try clear hfz84_4
                            try clear hfz84_5
                            try clear hx131_0
                            try clear p131
                            try clear p2
                            try clear q131
                            obtain ⟨x4_4, rfl, HA, HK4, BK128, HB⟩ := hrel
                            cases gk with
                            | zero => exact absurd HA.out (by simp [haulierref03_plain.l1])
                            | succ k4 =>
                              have H := HA.out
                              clear HA
                              simp only [haulierref03_plain.l1] at H
                              by_cases c86 : x4_4 < x3_3
                              · rw [if_pos c86] at H
                                have c86b0 : decide (x4_4 < x3_3) = true := decide_eq_true c86
                                clear c86
                                by_cases c87 : 0 ≤ x4_4
                                · rw [if_pos c87] at H
                                  have c87b0 : decide (0 ≤ x4_4) = true := decide_eq_true c87
                                  clear c87
                                  by_cases c88 : x4_4 < (l0_4.length : Int)
                                  · rw [if_pos c88] at H
                                    have c88b0 : decide (x4_4 < (l0_4.length : Int)) = true := decide_eq_true c88
                                    clear c88
                                    by_cases c89 : 0 ≤ x3_3
                                    · rw [if_pos c89] at H
                                      have c89b0 : decide (0 ≤ x3_3) = true := decide_eq_true c89
                                      clear c89
                                      by_cases c90 : x3_3 < (l0_4.length : Int)
                                      · rw [if_pos c90] at H
                                        have c90b0 : decide (x3_3 < (l0_4.length : Int)) = true := decide_eq_true c90
                                        clear c90
                                        by_cases c91 : (rdOf ByteArray.empty l0_4 x4_4).toList = (rdOf ByteArray.empty l0_4 x3_3).toList
                                        · rw [if_pos c91] at H
                                          have c91b0 : ((rdOf ByteArray.empty l0_4 x4_4).toList == (rdOf ByteArray.empty l0_4 x3_3).toList) = true := beq_iff_eq.mpr c91
                                          have c91b1 : ((rdOf ByteArray.empty l0_4 x4_4).toList != (rdOf ByteArray.empty l0_4 x3_3).toList) = false := bne_eq_false_iff_eq.mpr c91
                                          clear c91
                                          obtain rfl := Option.some.inj H
                                          have hcz92_0 : wr.cell? ⟨gb128, 0, none⟩ = some (.int .i64 a0_0) := (blk_cell BK128.out 0).trans rfl
                                          have hcz92_1 : wr.cell? ⟨gb128, 1, none⟩ = some (.bool a0_1) := (blk_cell BK128.out 1).trans rfl
                                          have hcz92_2 : wr.cell? ⟨gb128, 2, none⟩ = some (.int .i64 a0_2) := (blk_cell BK128.out 2).trans rfl
                                          have hcz92_3 : wr.cell? ⟨gb128, 3, none⟩ = some (.string a0_3) := (blk_cell BK128.out 3).trans rfl
                                          have hcz92_4 : wr.cell? ⟨gb128, 4, none⟩ = some (.slice (some ad131) l0_4.length c0_4) := (blk_cell BK128.out 4).trans rfl
                                          have hcz92_5 : wr.cell? ⟨gb128, 5, none⟩ = some (.slice A0_5 l0_5.length c0_5) := (blk_cell BK128.out 5).trans rfl
                                          have hfz92_0 := blk_frozen BK128.out 0
                                          have hfz92_1 := blk_frozen BK128.out 1
                                          have hfz92_2 := blk_frozen BK128.out 2
                                          have hfz92_3 := blk_frozen BK128.out 3
                                          have hfz92_4 := blk_frozen BK128.out 4
                                          have hfz92_5 := blk_frozen BK128.out 5
                                          have p133 : 0 ≤ (x4_4 : Int) := of_decide_eq_true (by first | (with_reducible assumption) | assumption)
                                          have q133 : x4_4 < (l0_4.length : Int) := of_decide_eq_true (by first | (with_reducible assumption) | assumption)
                                          obtain ⟨ad133, e133, hx133_0⟩ := Kd.at_string HR0_4.out x4_4 p133 q133
                                          obtain rfl : ad131 = ad133 := (by injection e133)
                                          replace hx133_0 := (HB.out.cell (World.block_lt_of_cell? w _ hx133_0)).trans hx133_0
                                          replace p133 := eq_true p133
                                          replace q133 := eq_true q133
                                          have p134 : 0 ≤ (x3_3 : Int) := of_decide_eq_true (by first | (with_reducible assumption) | assumption)
                                          have q134 : x3_3 < (l0_4.length : Int) := of_decide_eq_true (by first | (with_reducible assumption) | assumption)
                                          obtain ⟨ad134, e134, hx134_0⟩ := Kd.at_string HR0_4.out x3_3 p134 q134
                                          obtain rfl : ad131 = ad134 := (by injection e134)
                                          replace hx134_0 := (HB.out.cell (World.block_lt_of_cell? w _ hx134_0)).trans hx134_0
                                          replace p134 := eq_true p134
                                          replace q134 := eq_true q134
                                          go_wp2
                                          repeat (go_quiet (fail); try go_wp2)
                                          go_ret
                                          exact ⟨by first | rfl | (simp [errW_none, errW_some] <;> rfl) | (simp [*, errW_none, errW_some] <;> rfl), by repeat (first | (with_reducible first | exact HB.out | apply below_alloc | apply pw_below_drewN | apply below_drew1 | refine below_set ?_ GE128.out) | exact HB.out)⟩
                                        · rw [if_neg c91] at H
                                          have c91b0 : ((rdOf ByteArray.empty l0_4 x4_4).toList == (rdOf ByteArray.empty l0_4 x3_3).toList) = false := beq_eq_false_iff_ne.mpr c91
                                          have c91b1 : ((rdOf ByteArray.empty l0_4 x4_4).toList != (rdOf ByteArray.empty l0_4 x3_3).toList) = true := bne_iff_ne.mpr c91
                                          have H' := Aside0.mk H
                                          clear H
                                          have hcz93_0 : wr.cell? ⟨gb128, 0, none⟩ = some (.int .i64 a0_0) := (blk_cell BK128.out 0).trans rfl
                                          have hcz93_1 : wr.cell? ⟨gb128, 1, none⟩ = some (.bool a0_1) := (blk_cell BK128.out 1).trans rfl
                                          have hcz93_2 : wr.cell? ⟨gb128, 2, none⟩ = some (.int .i64 a0_2) := (blk_cell BK128.out 2).trans rfl
                                          have hcz93_3 : wr.cell? ⟨gb128, 3, none⟩ = some (.string a0_3) := (blk_cell BK128.out 3).trans rfl
                                          have hcz93_4 : wr.cell? ⟨gb128, 4, none⟩ = some (.slice (some ad131) l0_4.length c0_4) := (blk_cell BK128.out 4).trans rfl
                                          have hcz93_5 : wr.cell? ⟨gb128, 5, none⟩ = some (.slice A0_5 l0_5.length c0_5) := (blk_cell BK128.out 5).trans rfl
                                          have hfz93_0 := blk_frozen BK128.out 0
                                          have hfz93_1 := blk_frozen BK128.out 1
                                          have hfz93_2 := blk_frozen BK128.out 2
                                          have hfz93_3 := blk_frozen BK128.out 3
                                          have hfz93_4 := blk_frozen BK128.out 4
                                          have hfz93_5 := blk_frozen BK128.out 5
                                          have p133 : 0 ≤ (x4_4 : Int) := of_decide_eq_true (by first | (with_reducible assumption) | assumption)
                                          have q133 : x4_4 < (l0_4.length : Int) := of_decide_eq_true (by first | (with_reducible assumption) | assumption)
                                          obtain ⟨ad133, e133, hx133_0⟩ := Kd.at_string HR0_4.out x4_4 p133 q133
                                          obtain rfl : ad131 = ad133 := (by injection e133)
                                          replace hx133_0 := (HB.out.cell (World.block_lt_of_cell? w _ hx133_0)).trans hx133_0
                                          replace p133 := eq_true p133
                                          replace q133 := eq_true q133
                                          have p134 : 0 ≤ (x3_3 : Int) := of_decide_eq_true (by first | (with_reducible assumption) | assumption)
                                          have q134 : x3_3 < (l0_4.length : Int) := of_decide_eq_true (by first | (with_reducible assumption) | assumption)
                                          obtain ⟨ad134, e134, hx134_0⟩ := Kd.at_string HR0_4.out x3_3 p134 q134
                                          obtain rfl : ad131 = ad134 := (by injection e134)
                                          replace hx134_0 := (HB.out.cell (World.block_lt_of_cell? w _ hx134_0)).trans hx134_0
                                          replace p134 := eq_true p134
                                          replace q134 := eq_true q134
                                          go_wp2
                                          repeat (go_quiet (fail); try go_wp2)
                                          go_roundg k4
                                          case measure => have := HJ1.out; have := HJ65.out; have := HK3.out; have := HK4.out; omega
                                          case rel => exact ⟨(wrap64 (x4_4 + 1)), (by first | rfl | (simp; done) | (simp [*]; done)), H', ⟨by have := HJ1.out; have := HJ65.out; have := HK3.out; have := HK4.out; omega⟩, ⟨by (with_reducible repeat (first | refine blk_drewN ?_ _ | refine blk_drew ?_ | refine blk_alloc ?_ _)); exact BK128.out⟩, ⟨by repeat (first | (with_reducible first | exact HB.out | apply below_alloc | apply pw_below_drewN | apply below_drew1 | refine below_set ?_ GE128.out) | exact HB.out)⟩⟩
                                      · rw [if_neg c90] at H
                                        exact absurd H (by simp)
                                    · rw [if_neg c89] at H
                                      exact absurd H (by simp)
                                  · rw [if_neg c88] at H
                                    exact absurd H (by simp)
                                · rw [if_neg c87] at H
                                  exact absurd H (by simp)
                              · rw [if_neg c86] at H
                                have c86b0 : decide (x4_4 < x3_3) = false := decide_eq_false c86
                                clear c86
                                have H' := Aside0.mk H
                                clear H
                                go_wp2
                                repeat (go_quiet (fail); try go_wp2)
                                go_roundg k4
                                case measure => have := HJ1.out; have := HJ65.out; have := HK3.out; have := HK4.out; omega
                                case rel => exact ⟨(wrap64 (x3_3 + 1)), (by first | rfl | (simp; done) | (simp [*]; done)), H', ⟨by have := HJ1.out; have := HJ65.out; have := HK3.out; have := HK4.out; omega⟩, ⟨by (with_reducible repeat (first | refine blk_drewN ?_ _ | refine blk_drew ?_ | refine blk_alloc ?_ _)); exact BK128.out⟩, ⟨by repeat (first | (with_reducible first | exact HB.out | apply below_alloc | apply pw_below_drewN | apply below_drew1 | refine below_set ?_ GE128.out) | exact HB.out)⟩⟩
                        · replace c83 := Bool.eq_false_iff.mpr c83
                          subst c83
                          have H1 : (some false) = some r := by rw [if_neg (show ¬ (false = true) by decide)] at H; exact H
                          clear H
                          have H := H1
                          clear H1
                          obtain rfl := Option.some.inj H
                          have hcz94_0 : wr.cell? ⟨gb128, 0, none⟩ = some (.int .i64 a0_0) := (blk_cell BK128.out 0).trans rfl
                          have hcz94_1 : wr.cell? ⟨gb128, 1, none⟩ = some (.bool a0_1) := (blk_cell BK128.out 1).trans rfl
                          have hcz94_2 : wr.cell? ⟨gb128, 2, none⟩ = some (.int .i64 a0_2) := (blk_cell BK128.out 2).trans rfl
                          have hcz94_3 : wr.cell? ⟨gb128, 3, none⟩ = some (.string a0_3) := (blk_cell BK128.out 3).trans rfl
                          have hcz94_4 : wr.cell? ⟨gb128, 4, none⟩ = some (.slice A0_4 l0_4.length c0_4) := (blk_cell BK128.out 4).trans rfl
                          have hcz94_5 : wr.cell? ⟨gb128, 5, none⟩ = some (.slice A0_5 l0_5.length c0_5) := (blk_cell BK128.out 5).trans rfl
                          have hfz94_0 := blk_frozen BK128.out 0
                          have hfz94_1 := blk_frozen BK128.out 1
                          have hfz94_2 := blk_frozen BK128.out 2
                          have hfz94_3 := blk_frozen BK128.out 3
                          have hfz94_4 := blk_frozen BK128.out 4
                          have hfz94_5 := blk_frozen BK128.out 5
                          have p131 : 0 ≤ (x3_3 : Int) := of_decide_eq_true (by first | (with_reducible assumption) | assumption)
                          have q131 : x3_3 < (l0_4.length : Int) := of_decide_eq_true (by first | (with_reducible assumption) | assumption)
                          obtain ⟨ad131, e131, hx131_0⟩ := Kd.at_string HR0_4.out x3_3 p131 q131
                          cases e131
                          replace hx131_0 := (HB.out.cell (World.block_lt_of_cell? w _ hx131_0)).trans hx131_0
                          replace p131 := eq_true p131
                          replace q131 := eq_true q131
                          go_wp2_with (first | (go_at_call 20; (with_reducible refine (haulierref03_UTF.calls (rdOf ByteArray.empty l0_4 x3_3) false _ ⟨by repeat (first | exact hG.out | exact hG.out.below (by repeat (first | (with_reducible first | exact HB.out | apply below_alloc | apply pw_below_drewN | apply below_drew1 | refine below_set ?_ GE128.out) | exact HB.out | exact Below.refl _ _)) | apply Glob.drewN | apply Glob.drew)⟩ A82.out).mono ?_); rintro e w95 ⟨rfl, hb⟩; have n0_ := Aside0.mk (blk_below (g := gb128) (o := .cells #[.int .i64 a0_0, .bool a0_1, .int .i64 a0_2, .string a0_3, .slice (some ad131) l0_4.length c0_4, .slice A0_5 l0_5.length c0_5] 39 (0, 0)) (by (with_reducible repeat (first | refine blk_drewN ?_ _ | refine blk_drew ?_ | refine blk_alloc ?_ _)); exact BK128.out) hb); have n1_ := Aside0.mk (below_step (by repeat (first | (with_reducible first | exact HB.out | apply below_alloc | apply pw_below_drewN | apply below_drew1 | refine below_set ?_ GE128.out) | exact HB.out)) hb); clear BK128; clear HB; have BK128 := n0_; have HB := n1_; clear n0_ n1_; (try clear hb); (try clear hb2); (try clear hk); (try clear hi)))
                          repeat (go_quiet (first | (go_at_call 20; (with_reducible refine (haulierref03_UTF.calls (rdOf ByteArray.empty l0_4 x3_3) false _ ⟨by repeat (first | exact hG.out | exact hG.out.below (by repeat (first | (with_reducible first | exact HB.out | apply below_alloc | apply pw_below_drewN | apply below_drew1 | refine below_set ?_ GE128.out) | exact HB.out | exact Below.refl _ _)) | apply Glob.drewN | apply Glob.drew)⟩ A82.out).mono ?_); rintro e w95 ⟨rfl, hb⟩; have n0_ := Aside0.mk (blk_below (g := gb128) (o := .cells #[.int .i64 a0_0, .bool a0_1, .int .i64 a0_2, .string a0_3, .slice (some ad131) l0_4.length c0_4, .slice A0_5 l0_5.length c0_5] 39 (0, 0)) (by (with_reducible repeat (first | refine blk_drewN ?_ _ | refine blk_drew ?_ | refine blk_alloc ?_ _)); exact BK128.out) hb); have n1_ := Aside0.mk (below_step (by repeat (first | (with_reducible first | exact HB.out | apply below_alloc | apply pw_below_drewN | apply below_drew1 | refine below_set ?_ GE128.out) | exact HB.out)) hb); clear BK128; clear HB; have BK128 := n0_; have HB := n1_; clear n0_ n1_; (try clear hb); (try clear hb2); (try clear hk); (try clear hi))); try go_wp2_with (first | (go_at_call 20; (with_reducible refine (haulierref03_UTF.calls (rdOf ByteArray.empty l0_4 x3_3) false _ ⟨by repeat (first | exact hG.out | exact hG.out.below (by repeat (first | (with_reducible first | exact HB.out | apply below_alloc | apply pw_below_drewN | apply below_drew1 | refine below_set ?_ GE128.out) | exact HB.out | exact Below.refl _ _)) | apply Glob.drewN | apply Glob.drew)⟩ A82.out).mono ?_); rintro e w95 ⟨rfl, hb⟩; have n0_ := Aside0.mk (blk_below (g := gb128) (o := .cells #[.int .i64 a0_0, .bool a0_1, .int .i64 a0_2, .string a0_3, .slice (some ad131) l0_4.length c0_4, .slice A0_5 l0_5.length c0_5] 39 (0, 0)) (by (with_reducible repeat (first | refine blk_drewN ?_ _ | refine blk_drew ?_ | refine blk_alloc ?_ _)); exact BK128.out) hb); have n1_ := Aside0.mk (below_step (by repeat (first | (with_reducible first | exact HB.out | apply below_alloc | apply pw_below_drewN | apply below_drew1 | refine below_set ?_ GE128.out) | exact HB.out)) hb); clear BK128; clear HB; have BK128 := n0_; have HB := n1_; clear n0_ n1_; (try clear hb); (try clear hb2); (try clear hk); (try clear hi))))
                          go_ret
                          exact ⟨by first | rfl | (simp [errW_none, errW_some] <;> rfl) | (simp [*, errW_none, errW_some] <;> rfl), by repeat (first | (with_reducible first | exact HB.out | apply below_alloc | apply pw_below_drewN | apply below_drew1 | refine below_set ?_ GE128.out) | exact HB.out)⟩
                      · rw [if_neg c81] at H
                        exact absurd H (by simp)
                    · rw [if_neg c80] at H
                      have c80b0 : decide (x3_3 < (l0_4.length : Int)) = false := decide_eq_false c80
                      clear c80
                      obtain rfl := Option.some.inj H
                      have hcz96_0 : wr.cell? ⟨gb128, 0, none⟩ = some (.int .i64 a0_0) := (blk_cell BK128.out 0).trans rfl
                      have hcz96_1 : wr.cell? ⟨gb128, 1, none⟩ = some (.bool a0_1) := (blk_cell BK128.out 1).trans rfl
                      have hcz96_2 : wr.cell? ⟨gb128, 2, none⟩ = some (.int .i64 a0_2) := (blk_cell BK128.out 2).trans rfl
                      have hcz96_3 : wr.cell? ⟨gb128, 3, none⟩ = some (.string a0_3) := (blk_cell BK128.out 3).trans rfl
                      have hcz96_4 : wr.cell? ⟨gb128, 4, none⟩ = some (.slice A0_4 l0_4.length c0_4) := (blk_cell BK128.out 4).trans rfl
                      have hcz96_5 : wr.cell? ⟨gb128, 5, none⟩ = some (.slice A0_5 l0_5.length c0_5) := (blk_cell BK128.out 5).trans rfl
                      have hfz96_0 := blk_frozen BK128.out 0
                      have hfz96_1 := blk_frozen BK128.out 1
                      have hfz96_2 := blk_frozen BK128.out 2
                      have hfz96_3 := blk_frozen BK128.out 3
                      have hfz96_4 := blk_frozen BK128.out 4
                      have hfz96_5 := blk_frozen BK128.out 5
                      go_wp2
                      repeat (go_quiet (fail); try go_wp2)
                      go_ret
                      exact ⟨by first | rfl | (simp [errW_none, errW_some] <;> rfl) | (simp [*, errW_none, errW_some] <;> rfl), by repeat (first | (with_reducible first | exact HB.out | apply below_alloc | apply pw_below_drewN | apply below_drew1 | refine below_set ?_ GE128.out) | exact HB.out)⟩
              · rw [if_neg c78] at H
                have c78b0 : (a0_0 == 6) = false := beq_eq_false_iff_ne.mpr c78
                have c78b1 : (a0_0 != 6) = true := bne_iff_ne.mpr c78
                obtain rfl := Option.some.inj H
                have hcz97_0 : wc.cell? ⟨gb128, 0, none⟩ = some (.int .i64 a0_0) := (blk_cell BK128.out 0).trans rfl
                have hcz97_1 : wc.cell? ⟨gb128, 1, none⟩ = some (.bool a0_1) := (blk_cell BK128.out 1).trans rfl
                have hcz97_2 : wc.cell? ⟨gb128, 2, none⟩ = some (.int .i64 a0_2) := (blk_cell BK128.out 2).trans rfl
                have hcz97_3 : wc.cell? ⟨gb128, 3, none⟩ = some (.string a0_3) := (blk_cell BK128.out 3).trans rfl
                have hcz97_4 : wc.cell? ⟨gb128, 4, none⟩ = some (.slice A0_4 l0_4.length c0_4) := (blk_cell BK128.out 4).trans rfl
                have hcz97_5 : wc.cell? ⟨gb128, 5, none⟩ = some (.slice A0_5 l0_5.length c0_5) := (blk_cell BK128.out 5).trans rfl
                have hfz97_0 := blk_frozen BK128.out 0
                have hfz97_1 := blk_frozen BK128.out 1
                have hfz97_2 := blk_frozen BK128.out 2
                have hfz97_3 := blk_frozen BK128.out 3
                have hfz97_4 := blk_frozen BK128.out 4
                have hfz97_5 := blk_frozen BK128.out 5
                go_wp2
                repeat (go_quiet (fail); try go_wp2)
                go_ret
                exact ⟨by first | rfl | (simp [errW_none, errW_some] <;> rfl) | (simp [*, errW_none, errW_some] <;> rfl), by repeat (first | (with_reducible first | exact HB.out | apply below_alloc | apply pw_below_drewN | apply below_drew1 | refine below_set ?_ GE128.out) | exact HB.out)⟩
end Go.Proofs.YtldlkoncndlbhaaDoor.PSh
