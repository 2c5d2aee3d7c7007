/- YtldlkoncndlbhaaDoorZSb16: texts of the seat (Reader11), one behind the other, without what this claim's theorem does not rest on. -/
import Derived.Test.YtldlkoncndlbhaaDoorZSb15

set_option linter.unusedVariables false
set_option linter.unusedSimpArgs false
namespace Go.Proofs.YtldlkoncndlbhaaDoor.Js
open Go.RowKit Go.Lib Go.Proofs.YtldlkoncndlbhaaDoor.PSh Go.Proofs.YtldlkoncndlbhaaDoor.Np Go.Proofs.YtldlkoncndlbhaaDoorW.PrintWords Go.Proofs.YtldlkoncndlbhaaDoorW.PrintLast Go.Proofs.YtldlkoncndlbhaaDoorW.PrintMore
theorem infoStr : (Tryd.prog.info? 9).map (fun i => (i.zero, i.size, i.bytes)) = some (some (.string ⟨#[]⟩), 1, 16) := by kernel_rfl
section
variable {w0 w wr w' : World} {b vb : Nat} {s : ByteArray} {p : Nat} {ok : Nat → Prop} {tv : Value} {f0 : Int} {tv' tv'' v4 v5 v' : Value} {names : List ByteArray} {kids : List Int} {t t' : List S39}
/-- Is the name there? -/
theorem LSt.contains_ (h : LSt w0 w b vb s p ok tv f0 tv' v4 v5 names kids t wr) (hn : names.length ≤ 65536) (x : ByteArray) :
    Calls Tryd.prog 60 #[v4, .string x] wr fun e w' => e = .returned (.bool (containsS names x)) ∧ w' = wr := by
  rcases Nat.eq_zero_or_pos names.length with h0 | h0
  · obtain ⟨A, c, e⟩ := own_slice h.names_
    have hz : names = [] := List.eq_nil_of_length_eq_zero h0
    subst hz
    rw [e]
    have hc : containsS ([] : List ByteArray) x = false := by
      cases hb : containsS ([] : List ByteArray) x with
      | false => rfl
      | true => exact absurd ((containsS_iff _ _).1 hb) (List.not_mem_nil)
    rw [hc]
    exact Tryd.slices_Contains_string_empty A c x wr
  · obtain ⟨g, cap, e, _, _⟩ := World.ownsRow.form h.names_ h0
    have hc := World.ownsRow.cells h.names_ (g := g) (by rw [e]; rfl)
    rw [e]
    have key := Tryd.slices_Contains_string g 0 names.length cap names x wr (Nat.le_refl _) (by omega) (fun j hj => by
      have h2 := hc j (.string (names.getD j ByteArray.empty)) (by
        unfold encs
        rw [List.getElem?_map, List.getD_eq_getElem?_getD, List.getElem?_eq_getElem hj]
        rfl)
      rw [Lib.add_plain] at h2
      exact h2)
    rw [List.take_length] at key
    exact key
end
def object.T15 : Bool × List (List Nat × List Nat) := (true, [([], []), ([0], [0]), ([], []), ([], []), ([3], [3]), ([2, 4], [2, 4]), ([5], [5]), ([1, 6, 5], [1, 6]), ([0, 1, 2, 3, 4, 5, 6, 7], []), ([8, 7, 7, 0, 1, 2, 3, 4, 5, 6, 7], [7, 8])])
def object.B15 : List Nat := [0, 1, 0, 0, 8, 28, 60, 127, 255, 511]
theorem object.tab15 : rtab .any (opsOf Tryd.f51 15) = object.T15 := by kernel_rfl
theorem object.bits15 : waitsOk object.T15.2 object.B15 = true := by kernel_rfl
set_option maxHeartbeats 40000000 in
set_option maxRecDepth 100000 in
theorem object_step (w0 : World) (b : Nat) (s : ByteArray) (f : Nat) (hG : Aside0 (Glob w0)) (hs : s.size ≤ 65536) (hV : ∀ g, g < f → VT w0 b s g) : OT w0 b s f := by
  intro deep fr p ok tv t w g hd hf
  have HVT := Aside0.mk hV
  clear hV
  have hst := LSt.start (f0 := 6) g g.rdr.1.2.1.size
  have hbw := hst.rdr.1
  have hh := here_walk w0 _ b s p tv hst.rdr.1 g.place hs
  have hok := here_ok (s.data.toList.drop p) p
  have hadv := here_adv (s.data.toList.drop p) p
  obtain ⟨res, hres⟩ : ∃ r, objectF f deep fr (s.data.toList.drop p) p t = r := ⟨_, rfl⟩
  rw [hres]
  unfold objectF at hres
  generalize here (s.data.toList.drop p) p = r at *
  cases r with
  | no pp ee =>
    have hw2 : Calls Tryd.prog 45 #[.pointer (some ⟨b, 0, none⟩)] _ fun e w' => e = halted (pp : Int) ee ∧ Below w0.heap.size w0 w' := hh
    have HRes := Aside0.mk (show R.no pp ee = res from hres)
    clear hh hok hadv hres
    go_enter Tryd.func51, Tryd.ntmps51
    go_wp2_with (go_at_call 45; refine hw2.mono ?_; rintro e w1 ⟨rfl, hB1⟩)
    rw [← HRes.out]
    exact ⟨rfl, rfl, hB1⟩
  | ok l q c =>
    have hlc := hok l q c rfl
    have hpq := hadv l q c rfl
    have hw2 : Calls Tryd.prog 45 #[.pointer (some ⟨b, 0, none⟩)] _ fun e w' => e = .returned (.int .u8 (c.toNat : Int)) ∧ l = s.data.toList.drop q ∧ q ≤ s.size ∧ At w0 b s (q : Int) tv w' ∧ KeepBut _ w' b none := hh
    clear hh hok hadv
    by_cases hq : l = s.data.toList.drop q ∧ q ≤ s.size
    rotate_left
    · have HQ := Aside0.mk hq
      clear hq hres
      go_enter Tryd.func51, Tryd.ntmps51
      go_wp2_with (go_at_call 45; refine hw2.mono ?_; rintro e w1 ⟨rfl, hl1, hq1, hA1, hk1⟩; exact absurd ⟨hl1, hq1⟩ HQ.out)
    obtain ⟨hlq, hqs⟩ := hq
    obtain ⟨hlt, htl⟩ := drop_tail hlc hlq
    have hw3 : Calls Tryd.prog 45 #[.pointer (some ⟨b, 0, none⟩)] _ fun e w' => e = .returned (.int .u8 (c.toNat : Int)) ∧ At w0 b s (q : Int) tv w' ∧ KeepBut _ w' b none := hw2.mono fun e w' h => ⟨h.1, h.2.2.2⟩
    clear hw2
    rw [R.bind_ok] at hres
    rw [htl] at hres
    rw [hlq] at hres
    clear hlc
    have hzq0 : (0 : Int) ≤ (q : Int) := by omega
    have hzq1 : (q : Int) ≤ 65536 := by omega
    have hcu := c.toNat_lt
    have hc93 : ((c.toNat : Int) == 125) = decide (c = 125) := byte_eq c 125
    obtain ⟨cn, hcn⟩ : ∃ cn : Int, (c.toNat : Int) = cn := ⟨_, rfl⟩
    rw [hcn] at hw3 hc93
    have hcn0 : 0 ≤ cn := by omega
    have hcn1 : cn < 256 := by omega
    by_cases h93 : c = 125
    · rw [if_pos h93] at hres
      have e93 : (cn == 125) = true := hc93.trans (decide_eq_true h93)
      unfold put at hres
      by_cases hbig : 8192 ≤ t.length
      · rw [if_pos hbig] at hres
        have HRes := Aside0.mk hres
        clear hres hc93 hcn hlq htl h93
        go_enter Tryd.func51, Tryd.ntmps51
        go_wp2_with (first
          | (go_at_call 45; refine hw3.mono ?_; rintro e w1 ⟨rfl, hA1, hk1⟩; have hL1 := hst.moved hA1 hk1; have hc1 := hA1.c1; have hf1 := hA1.fr 1; have hL2 := hL1.step; obtain ⟨hx0, hx1, hx2, hx3, hx4, hx5⟩ := hL2.cells)
          | (go_at_call 47; refine (hL2.put_no fr hbig).mono ?_; rintro e w3 ⟨rfl, hB3⟩))
        rw [← HRes.out]
        exact ⟨rfl, rfl, hB3⟩
      · rw [if_neg hbig] at hres
        have HRes := Aside0.mk hres
        clear hres hc93 hcn hlq htl h93
        go_enter Tryd.func51, Tryd.ntmps51
        go_wp2_with (first
          | (go_at_call 45; refine hw3.mono ?_; rintro e w1 ⟨rfl, hA1, hk1⟩; have hL1 := hst.moved hA1 hk1; have hc1 := hA1.c1; have hf1 := hA1.fr 1; have hL2 := hL1.step; obtain ⟨hx0, hx1, hx2, hx3, hx4, hx5⟩ := hL2.cells)
          | (go_at_call 47; refine (hL2.put_ok fr hbig).mono ?_; rintro e w3 ⟨rfl, hR3⟩))
        go_ret
        rw [← HRes.out]
        exact ⟨rfl, rfl, hlt, hR3⟩
    · rw [if_neg h93] at hres
      have e93 : (cn == 125) = false := hc93.trans (decide_eq_false h93)
      have HRes := Aside0.mk hres
      have HQ := Aside0.mk (show q ≤ s.size ∧ 2 * (s.size - q) + 1 < f from ⟨hqs, by omega⟩)
      clear hres hc93 hcn hlq htl h93 hlt
      go_enter Tryd.func51, Tryd.ntmps51
      go_wp2_with (go_at_call 45; refine hw3.mono ?_; rintro e w1 ⟨rfl, hA1, hk1⟩; have hL1 := hst.moved hA1 hk1)
      go_loopg [] f (fun kq wr => ∃ (q : Nat) (tv' v4 v5 : Value) (names : List ByteArray) (kids : List Int) (t' : List S39), Aside0 (kq ≤ f ∧ q ≤ s.size ∧ 2 * (s.size - q) + 1 < kq ∧ (names.length ≤ q ∧ kids.length ≤ q) ∧ object kq deep fr names kids (s.data.toList.drop q) q t' = res) ∧ LSt w0 w b w.heap.size s q ok tv 6 tv' v4 v5 names kids t' wr)
      case atStart => exact ⟨q, tv, .slice none 0 0, .slice none 0 0, [], [], t, ⟨Nat.le_refl _, HQ.out.1, HQ.out.2, ⟨Nat.zero_le _, Nat.zero_le _⟩, HRes.out⟩, hL1⟩
      case round =>
        clear hL1 hA1 hk1 HRes HQ hzq0 hzq1 hpq hw3 e93 hcn0 hcn1 hcu hst hbw hqs q
        obtain ⟨q, tv', v4, v5, names, kids, t', HZ, hL⟩ := hrel
        obtain ⟨f1, hff⟩ : ∃ f1, gk = f1 + 1 := ⟨gk - 1, by have := HZ.out; omega⟩
        subst hff
        obtain ⟨A4, c4, rfl⟩ := own_slice hL.names_
        obtain ⟨A, c, rfl⟩ := own_slice hL.kids_
        have hnl : names.length ≤ 65536 := by have := HZ.out; omega
        have hkl : kids.length ≤ 65536 := by have := HZ.out; omega
        have hd0 : (0 : Int) ≤ (deep : Int) := by omega
        have hd1 : (deep : Int) ≤ 15 := by omega
        have hwd : wrap64 ((deep : Int) + 1) = (deep : Int) + 1 := by unfold wrap64; omega
        have hobj := HZ.out.2.2.2.2
        rw [object_succ] at hobj
        have hh := here_walk w0 wr b s q tv' hL.rdr.1 HZ.out.2.1 hs
        have hok := here_ok (s.data.toList.drop q) q
        have hadv := here_adv (s.data.toList.drop q) q
        generalize here (s.data.toList.drop q) q = r at *
        cases r with
        | no pp ee =>
          have hw2 : Calls Tryd.prog 45 #[.pointer (some ⟨b, 0, none⟩)] _ fun e w' => e = halted (pp : Int) ee ∧ Below w0.heap.size w0 w' := hh
          have HRes := Aside0.mk (show R.no pp ee = res from hobj)
          clear hh hok hadv hobj
          go_wp2_with (go_at_call 45; refine hw2.mono ?_; rintro e w1 ⟨rfl, hB1⟩)
          rw [← HRes.out]
          exact ⟨rfl, rfl, hB1⟩
        | ok l1 q1 x1 =>
          have hlc := hok l1 q1 x1 rfl
          have hpq := hadv l1 q1 x1 rfl
          have hw2 : Calls Tryd.prog 45 #[.pointer (some ⟨b, 0, none⟩)] wr fun e w' => e = .returned (.int .u8 (x1.toNat : Int)) ∧ l1 = s.data.toList.drop q1 ∧ q1 ≤ s.size ∧ At w0 b s (q1 : Int) tv' w' ∧ KeepBut wr w' b none := hh
          clear hh hok hadv
          by_cases hq1 : l1 = s.data.toList.drop q1 ∧ q1 ≤ s.size
          rotate_left
          · have HQ := Aside0.mk hq1
            clear hq1 hobj
            go_wp2_with (go_at_call 45; refine hw2.mono ?_; rintro e w1 ⟨rfl, hl1, hq1, hA1, hk1⟩; exact absurd ⟨hl1, hq1⟩ HQ.out)
          obtain ⟨hl1, hq1s⟩ := hq1
          obtain ⟨hlt1, htl1⟩ := drop_tail hlc hl1
          have hw3 : Calls Tryd.prog 45 #[.pointer (some ⟨b, 0, none⟩)] wr fun e w' => e = .returned (.int .u8 (x1.toNat : Int)) ∧ At w0 b s (q1 : Int) tv' w' ∧ KeepBut wr w' b none := hw2.mono fun e w' h => ⟨h.1, h.2.2.2⟩
          clear hw2 hlc
          rw [R.bind_ok] at hobj
          rw [htl1] at hobj
          clear htl1 hl1
          have hzq0 : (0 : Int) ≤ (q1 : Int) := by omega
          have hzq1 : (q1 : Int) ≤ 65536 := by omega
          have hcu := x1.toNat_lt
          have hc34 : ((x1.toNat : Int) == 34) = decide (x1 = 34) := byte_eq x1 34
          obtain ⟨xn, hxn⟩ : ∃ xn : Int, (x1.toNat : Int) = xn := ⟨_, rfl⟩
          rw [hxn] at hw3 hc34
          have hxn0 : 0 ≤ xn := by omega
          have hxn1 : xn < 256 := by omega
          by_cases h34 : x1 = 34
          rotate_left
          · rw [if_neg h34] at hobj
            have e34 : (xn == 34) = false := hc34.trans (decide_eq_false h34)
            have HRes := Aside0.mk hobj
            clear hobj hc34 hxn hcu h34
            go_wp2_with (first
              | (go_at_call 45; with_reducible refine hw3.mono ?_; rintro e w1 ⟨rfl, hA1, hk1⟩; have hL1 := hL.moved hA1 hk1; have hc1 := hA1.c1; have hf1 := hA1.fr 1)
              | (go_at_call 35; refine (fail_walk _ _ _).mono ?_; rintro e w9 ⟨rfl, rfl⟩))
            rw [← HRes.out]
            exact ⟨rfl, rfl, hA1.2.1⟩
          rw [if_pos h34] at hobj
          have e34 : (xn == 34) = true := hc34.trans (decide_eq_true h34)
          clear hc34 hxn hcu h34
          have htw := fun (W : World) (h : At w0 b s (q1 : Int) tv' W) => text_walk w0 W b s q1 tv' hG h hlt1 hs
          have hadt := adv_text (s.data.toList.drop (q1 + 1)) (q1 + 1)
          generalize text (s.data.toList.drop (q1 + 1)) (q1 + 1) = rt at *
          have HTW := Aside0.mk htw
          clear htw
          cases rt with
          | no pp ee =>
            have HRes := Aside0.mk (show R.no pp ee = res from hobj)
            clear hobj hadt
            go_wp2_with (first
              | (go_at_call 45; with_reducible refine hw3.mono ?_; rintro e w1 ⟨rfl, hA1, hk1⟩; have hL1 := hL.moved hA1 hk1; have hc1 := hA1.c1; have hf1 := hA1.fr 1)
              | (go_at_call 48; refine (HTW.out w1 hA1).mono ?_; rintro e w2 ⟨rfl, hB2⟩))
            rw [← HRes.out]
            exact ⟨rfl, rfl, hB2⟩
          | ok l2 q2 nm =>
            have hpq2 := hadt l2 q2 nm rfl
            clear hadt
            rw [R.bind_ok] at hobj
            obtain ⟨sn, hsn⟩ : ∃ sn, str nm = sn := ⟨_, rfl⟩
            rw [hsn] at hobj
            have htx : ∀ W, At w0 b s (q1 : Int) tv' W → Calls Tryd.prog 48 #[.pointer (some ⟨b, 0, none⟩)] W fun e w' => e = .returned (.string sn) ∧ (l2 = s.data.toList.drop q2 ∧ q2 ≤ s.size) ∧ At w0 b s (q2 : Int) tv' w' ∧ KeepBut W w' b none := fun W h => (HTW.out W h).mono fun e w' he => ⟨by rw [← hsn]; exact he.1, ⟨he.2.1, he.2.2.1⟩, he.2.2.2⟩
            have HTX := Aside0.mk htx
            clear htx HTW hsn
            by_cases hq2 : l2 = s.data.toList.drop q2 ∧ q2 ≤ s.size
            rotate_left
            · have HQ := Aside0.mk hq2
              clear hq2 hobj
              go_wp2_with (first
                | (go_at_call 45; with_reducible refine hw3.mono ?_; rintro e w1 ⟨rfl, hA1, hk1⟩; have hL1 := hL.moved hA1 hk1; have hc1 := hA1.c1; have hf1 := hA1.fr 1)
                | (go_at_call 48; refine (HTX.out w1 hA1).mono ?_; rintro e w2 ⟨rfl, hl2, hA2, hk2⟩; exact absurd hl2 HQ.out))
            obtain ⟨hl2, hq2s⟩ := hq2
            by_cases hcs : containsS names sn = true
            · rw [if_pos hcs] at hobj
              have HRes := Aside0.mk hobj
              clear hobj
              go_wp2_with (first
                | (go_at_call 45; with_reducible refine hw3.mono ?_; rintro e w1 ⟨rfl, hA1, hk1⟩; have hL1 := hL.moved hA1 hk1; have hc1 := hA1.c1; have hf1 := hA1.fr 1)
                | (go_at_call 48; refine (HTX.out w1 hA1).mono ?_; rintro e w2 ⟨rfl, -, hA2, hk2⟩; have hL2 := hL1.moved hA2 hk2; obtain ⟨hx0, hx1, hx2, hx3, hx4, hx5⟩ := hL2.cells)
                | (go_at_call 60; refine (hL2.contains_ hnl sn).mono ?_; rintro e w8 ⟨rfl, rfl⟩)
                | (go_at_call 35; refine (fail_walk _ _ _).mono ?_; rintro e w9 ⟨rfl, rfl⟩))
              rw [← HRes.out]
              exact ⟨rfl, rfl, hA2.2.1⟩
            rw [if_neg hcs] at hobj
            have hcs2 : containsS names sn = false := Bool.eq_false_iff.2 hcs
            rw [hl2] at hobj
            clear hl2 hcs
            have hhw := fun (W : World) (h : At w0 b s (q2 : Int) tv' W) => here_walk w0 W b s q2 tv' h hq2s hs
            have hok := here_ok (s.data.toList.drop q2) q2
            have hadv := here_adv (s.data.toList.drop q2) q2
            generalize here (s.data.toList.drop q2) q2 = r2 at *
            have HHW := Aside0.mk hhw
            clear hhw
            cases r2 with
            | no pp ee =>
              have HRes := Aside0.mk (show R.no pp ee = res from hobj)
              clear hobj hok hadv
              go_wp2_with (first
                | (go_at_call 45; with_reducible refine hw3.mono ?_; rintro e w1 ⟨rfl, hA1, hk1⟩; have hL1 := hL.moved hA1 hk1; have hc1 := hA1.c1; have hf1 := hA1.fr 1)
                | (go_at_call 48; refine (HTX.out w1 hA1).mono ?_; rintro e w2 ⟨rfl, -, hA2, hk2⟩; have hL2 := hL1.moved hA2 hk2; obtain ⟨hx0, hx1, hx2, hx3, hx4, hx5⟩ := hL2.cells)
                | (go_at_call 60; refine (hL2.contains_ hnl sn).mono ?_; rintro e w8 ⟨rfl, rfl⟩)
                | (go_at_call 45; refine (HHW.out _ hA2).mono ?_; rintro e w3 ⟨rfl, hB3⟩))
              rw [← HRes.out]
              exact ⟨rfl, rfl, hB3⟩
            | ok l3 q3 x3 =>
              have hlc := hok l3 q3 x3 rfl
              have hpq3 := hadv l3 q3 x3 rfl
              clear hok hadv
              have hh2 : ∀ W, At w0 b s (q2 : Int) tv' W → Calls Tryd.prog 45 #[.pointer (some ⟨b, 0, none⟩)] W fun e w' => e = .returned (.int .u8 (x3.toNat : Int)) ∧ (l3 = s.data.toList.drop q3 ∧ q3 ≤ s.size) ∧ At w0 b s (q3 : Int) tv' w' ∧ KeepBut W w' b none := fun W h => (HHW.out W h).mono fun e w' he => ⟨he.1, ⟨he.2.1, he.2.2.1⟩, he.2.2.2⟩
              clear HHW
              by_cases hq3 : l3 = s.data.toList.drop q3 ∧ q3 ≤ s.size
              rotate_left
              · have HQ := Aside0.mk hq3
                have HH2 := Aside0.mk hh2
                clear hq3 hobj hh2
                go_wp2_with (first
                  | (go_at_call 45; with_reducible refine hw3.mono ?_; rintro e w1 ⟨rfl, hA1, hk1⟩; have hL1 := hL.moved hA1 hk1; have hc1 := hA1.c1; have hf1 := hA1.fr 1)
                  | (go_at_call 48; refine (HTX.out w1 hA1).mono ?_; rintro e w2 ⟨rfl, -, hA2, hk2⟩; have hL2 := hL1.moved hA2 hk2; obtain ⟨hx0, hx1, hx2, hx3, hx4, hx5⟩ := hL2.cells)
                  | (go_at_call 60; refine (hL2.contains_ hnl sn).mono ?_; rintro e w8 ⟨rfl, rfl⟩)
                  | (go_at_call 45; refine (HH2.out _ hA2).mono ?_; rintro e w3 ⟨rfl, hl3, hA3, hk3⟩; exact absurd hl3 HQ.out))
              obtain ⟨hl3, hq3s⟩ := hq3
              obtain ⟨hlt3, htl3⟩ := drop_tail hlc hl3
              clear hlc
              rw [R.bind_ok] at hobj
              rw [htl3] at hobj
              clear htl3 hl3
              have hz3 : (0 : Int) ≤ (q3 : Int) := by omega
              have hz31 : (q3 : Int) ≤ 65536 := by omega
              have hcu := x3.toNat_lt
              have hc58 : ((x3.toNat : Int) == 58) = decide (x3 = 58) := byte_eq x3 58
              obtain ⟨yn, hyn⟩ : ∃ yn : Int, (x3.toNat : Int) = yn := ⟨_, rfl⟩
              rw [hyn] at hh2 hc58
              have hyn0 : 0 ≤ yn := by omega
              have hyn1 : yn < 256 := by omega
              have HH2 := Aside0.mk hh2
              clear hh2
              by_cases h58 : x3 = 58
              rotate_left
              · rw [if_neg h58] at hobj
                have e58 : (yn == 58) = false := hc58.trans (decide_eq_false h58)
                have HRes := Aside0.mk hobj
                clear hobj hc58 hyn hcu h58
                go_wp2_with (first
                  | (go_at_call 45; with_reducible refine hw3.mono ?_; rintro e w1 ⟨rfl, hA1, hk1⟩; have hL1 := hL.moved hA1 hk1; have hc1 := hA1.c1; have hf1 := hA1.fr 1)
                  | (go_at_call 48; refine (HTX.out w1 hA1).mono ?_; rintro e w2 ⟨rfl, -, hA2, hk2⟩; have hL2 := hL1.moved hA2 hk2; obtain ⟨hx0, hx1, hx2, hx3, hx4, hx5⟩ := hL2.cells)
                  | (go_at_call 60; refine (hL2.contains_ hnl sn).mono ?_; rintro e w8 ⟨rfl, rfl⟩)
                  | (go_at_call 45; refine (HH2.out _ hA2).mono ?_; rintro e w3 ⟨rfl, -, hA3, hk3⟩; have hL3 := hL2.moved hA3 hk3; have hc3 := hA3.c1; have hf3 := hA3.fr 1)
                  | (go_at_call 35; refine (fail_walk _ _ _).mono ?_; rintro e w9 ⟨rfl, rfl⟩))
                rw [← HRes.out]
                exact ⟨rfl, rfl, hA3.2.1⟩
              rw [if_pos h58] at hobj
              have e58 : (yn == 58) = true := hc58.trans (decide_eq_true h58)
              clear hc58 hyn hcu h58
              have hcv := fun (A4' : Option Addr) (c4' : Nat) (W : World) (h : LSt w0 w b w.heap.size s (q3 + 1) ok tv 6 tv' (.slice A4' (names.length + 1) c4') (.slice A kids.length c) (names ++ [sn]) kids t' W) => HVT.out f1 (by have := HZ.out; omega) (deep + 1) (q3 + 1) _ tv' t' W (h.given hlt3) (by omega) (by have := HZ.out; omega)
              rw [show ((deep + 1 : Nat) : Int) = (deep : Int) + 1 from by omega] at hcv
              have hadl := (adv_all f1).1 (deep + 1) (s.data.toList.drop (q3 + 1)) (q3 + 1) t'
              generalize value f1 (deep + 1) (s.data.toList.drop (q3 + 1)) (q3 + 1) t' = rv at *
              have HCV := Aside0.mk hcv
              clear hcv
              cases rv with
              | no pp ee =>
                have HRes := Aside0.mk (show R.no pp ee = res from hobj)
                clear hobj hadl
                go_wp2_with (first
                  | (go_at_call 45; with_reducible refine hw3.mono ?_; rintro e w1 ⟨rfl, hA1, hk1⟩; have hL1 := hL.moved hA1 hk1; have hc1 := hA1.c1; have hf1 := hA1.fr 1)
                  | (go_at_call 48; refine (HTX.out w1 hA1).mono ?_; rintro e w2 ⟨rfl, -, hA2, hk2⟩; have hL2 := hL1.moved hA2 hk2; obtain ⟨hx0, hx1, hx2, hx3, hx4, hx5⟩ := hL2.cells)
                  | (go_at_call 60; refine (hL2.contains_ hnl sn).mono ?_; rintro e w8 ⟨rfl, rfl⟩)
                  | (go_at_call 45; refine (HH2.out _ hA2).mono ?_; rintro e w3 ⟨rfl, -, hA3, hk3⟩; have hL3 := hL2.moved hA3 hk3; have hc3 := hA3.c1; have hf3 := hA3.fr 1; have hL4 := hL3.step; obtain ⟨hy0, hy1, hy2, hy3, hy4, hy5⟩ := hL4.cells; have hfy := blk_frozen hL4.box 4; have hsz : (w3.setCell ⟨b, 1, none⟩ (.int .i64 ((q3 : Int) + 1))).heap.size = w3.heap.size := by simp [World.setCell])
                  | ((with_reducible refine gate_dst (N := 63) rfl ?_); refine Kd.event_run (v := .slice (some ⟨(w3.setCell ⟨b, 1, none⟩ (.int .i64 ((q3 : Int) + 1))).heap.size, 0, none⟩) 1 1) (w1 := (w3.setCell ⟨b, 1, none⟩ (.int .i64 ((q3 : Int) + 1))).alloc (.cells #[.string sn] 9)) rfl ?hrun ?_; (case hrun => (first | (go_simp; done) | (go_simp; rfl))); refine Kd.R_append Kd.string (w0 := (w3.setCell ⟨b, 1, none⟩ (.int .i64 ((q3 : Int) + 1)))) (W := (w3.setCell ⟨b, 1, none⟩ (.int .i64 ((q3 : Int) + 1)))) w.heap.size rfl (.tmp 61) (.tmp 63) 36 9 _ 16 rfl Tryd.underlying36 infoStr rfl (by decide) (by decide) (.slice A4 names.length c4) names sn [.string sn] (fun _ => True) (fun _ => False) ?h1 ?h2 rfl (fun _ hk => hk.elim) (fun _ _ => trivial) ?h3 (Below.refl _ _) ?h4 ?h5 ?_; (case h1 => rfl); (case h2 => rfl); (case h3 => exact Kd.R_of_own hL4.names_ (fun _ _ => trivial)); (case h4 => exact hL4.keep.1); (case h5 => omega); intro v1 w5 hR1 hBl1 hg1 hat1; obtain ⟨A4', c4', rfl⟩ := Kd.R_slice hR1; have hL5 := hL4.named (Kd.own_of_R hR1) hg1 hat1; have hln : (names ++ [sn]).length = names.length + 1 := (by rw [List.length_append]; rfl); rw [hln] at hL5; have hbx5 := blk_grown hL4.box hg1 hL4.vb4; have hfx5 := blk_frozen hbx5 4; have hcx5 := blk_cell hbx5 4))
                clear hx0 hx1 hx2 hx3 hx4 hx5 hy0 hy1 hy2 hy3 hy4 hy5 hfy hfx5 hcx5 hbx5 hc1 hf1 hc3 hf3 hR1 hBl1 hg1 hat1
                refine start_ (n := 10) (S := fun w' => w'.cell? ⟨w.heap.size, 5, none⟩ = some (.slice A kids.length c)) (ds := [9]) #[false, false, false, false, false, false, false, false, false, false] (by kernel_rfl) rfl rfl (hL5.drew.cells.2.2.2.2.2) (fun hHeld => ?_)
                refine with_tabW object.tab15 object.bits15 (fun HT_ HW_ => ?_)
                refine pure_ (i := 0) (N := some 66) (v := ?_) (a' := ?_) #[true, false, false, false, false, false, false, false, false, false] rfl rfl (any_of HT_.out (by kernel_rfl)) (fun _ _ _ h => h) (Or.inl ⟨by rfl, ?_⟩) ?_ ?_
                rotate_left
                · intro w'
                  go_simp
                  with_reducible rfl
                rotate_left
                · simp only [Act.put, List.setIfInBounds_toArray, List.set_cons_zero, List.set_cons_succ, i64_w, i32_w]
                  rfl
                refine take_ (i := 1) (N := some 67) (v := ?_) (a' := ?_) #[true, true, false, false, false, false, false, false, false, false] rfl rfl (take_ofW HT_.out HW_.out (by kernel_rfl)) (fun _ _ _ h => h) (Or.inl ⟨by rfl, ?_⟩) hHeld ?_ ?_
                rotate_left
                · rintro w' s0
                  go_simp
                  with_reducible rfl
                rotate_left
                · simp only [Act.put, List.setIfInBounds_toArray, List.set_cons_zero, List.set_cons_succ, i64_w, i32_w]
                  rfl
                refine pure_ (i := 2) (N := some 68) (v := ?_) (a' := ?_) #[true, true, true, false, false, false, false, false, false, false] rfl rfl (any_of HT_.out (by kernel_rfl)) (fun _ _ _ h => h) (Or.inl ⟨by rfl, ?_⟩) ?_ ?_
                rotate_left
                · intro w'
                  go_simp
                  with_reducible rfl
                rotate_left
                · simp only [Act.put, List.setIfInBounds_toArray, List.set_cons_zero, List.set_cons_succ, i64_w, i32_w]
                  rfl
                refine pure_ (i := 3) (N := some 69) (v := ?_) (a' := ?_) #[true, true, true, true, false, false, false, false, false, false] rfl rfl (any_of HT_.out (by kernel_rfl)) (fun _ _ _ h => h) (Or.inl ⟨by rfl, ?_⟩) ?_ ?_
                rotate_left
                · intro w'
                  go_simp
                  with_reducible rfl
                rotate_left
                · simp only [Act.put, List.setIfInBounds_toArray, List.set_cons_zero, List.set_cons_succ, i64_w, i32_w]
                  rfl
                refine pure_ (i := 4) (N := some 70) (v := (.int .i64 ((deep : Int) + 1))) (a' := ?_) #[true, true, true, true, true, false, false, false, false, false] rfl rfl (any_of HT_.out (by kernel_rfl)) (fun _ _ _ h => h) (Or.inl ⟨by rfl, ?_⟩) ?_ ?_
                · intro w'
                  go_simp
                  try (first | exact hwd | simp [hwd, i64_w] | rw [hwd])
                rotate_left
                · simp only [Act.put, List.setIfInBounds_toArray, List.set_cons_zero, List.set_cons_succ, i64_w, i32_w]
                  rfl
                refine one_ (i := 5) (N := some 71) #[true, true, true, true, true, true, false, false, false, false] rfl rfl (one_of HT_.out (by kernel_rfl)) (by decide) (fun K hK => ?_)
                refine goesP_ Tryd.func33 (by kernel_rfl) rfl #[.pointer (some ⟨b, 0, none⟩), .int .i64 ((deep : Int) + 1)] (by rfl) rfl (by kernel_rfl) ?_
                refine (HCV.out _ _ _ hL5.drew).mono ?_
                rintro e w6 ⟨rfl, hB6⟩
                refine ⟨_, rfl, ?_⟩
                clear hK K
                go_wp2
                rw [← HRes.out]
                exact ⟨rfl, rfl, hB6⟩
              | ok l5 q5 vv =>
                have hqp := hadl l5 q5 vv rfl
                clear hadl
                rw [R.bind_ok] at hobj
                have hcg : ∀ (A4' : Option Addr) (c4' : Nat) (W : World), LSt w0 w b w.heap.size s (q3 + 1) ok tv 6 tv' (.slice A4' (names.length + 1) c4') (.slice A kids.length c) (names ++ [sn]) kids t' W → Calls Tryd.prog 33 #[.pointer (some ⟨b, 0, none⟩), .int .i64 ((deep : Int) + 1)] W fun e w' => e = .returned (.int .i64 vv.2) ∧ (l5 = s.data.toList.drop q5 ∧ q5 ≤ s.size) ∧ ∃ tv'', LSt w0 w b w.heap.size s q5 ok tv 6 tv'' (.slice A4' (names.length + 1) c4') (.slice A kids.length c) (names ++ [sn]) kids vv.1 w' := fun A4' c4' W h => (HCV.out A4' c4' W h).mono fun e w' he => ⟨he.1, ⟨he.2.1, he.2.2.1⟩, h.grewn he.2.2.2⟩
                have HCG := Aside0.mk hcg
                clear hcg HCV
                by_cases hq5 : l5 = s.data.toList.drop q5 ∧ q5 ≤ s.size
                rotate_left
                · have HQ := Aside0.mk hq5
                  clear hq5 hobj
                  go_wp2_with (first
                    | (go_at_call 45; with_reducible refine hw3.mono ?_; rintro e w1 ⟨rfl, hA1, hk1⟩; have hL1 := hL.moved hA1 hk1; have hc1 := hA1.c1; have hf1 := hA1.fr 1)
                    | (go_at_call 48; refine (HTX.out w1 hA1).mono ?_; rintro e w2 ⟨rfl, -, hA2, hk2⟩; have hL2 := hL1.moved hA2 hk2; obtain ⟨hx0, hx1, hx2, hx3, hx4, hx5⟩ := hL2.cells)
                    | (go_at_call 60; refine (hL2.contains_ hnl sn).mono ?_; rintro e w8 ⟨rfl, rfl⟩)
                    | (go_at_call 45; refine (HH2.out _ hA2).mono ?_; rintro e w3 ⟨rfl, -, hA3, hk3⟩; have hL3 := hL2.moved hA3 hk3; have hc3 := hA3.c1; have hf3 := hA3.fr 1; have hL4 := hL3.step; obtain ⟨hy0, hy1, hy2, hy3, hy4, hy5⟩ := hL4.cells; have hfy := blk_frozen hL4.box 4; have hsz : (w3.setCell ⟨b, 1, none⟩ (.int .i64 ((q3 : Int) + 1))).heap.size = w3.heap.size := by simp [World.setCell])
                    | ((with_reducible refine gate_dst (N := 63) rfl ?_); refine Kd.event_run (v := .slice (some ⟨(w3.setCell ⟨b, 1, none⟩ (.int .i64 ((q3 : Int) + 1))).heap.size, 0, none⟩) 1 1) (w1 := (w3.setCell ⟨b, 1, none⟩ (.int .i64 ((q3 : Int) + 1))).alloc (.cells #[.string sn] 9)) rfl ?hrun ?_; (case hrun => (first | (go_simp; done) | (go_simp; rfl))); refine Kd.R_append Kd.string (w0 := (w3.setCell ⟨b, 1, none⟩ (.int .i64 ((q3 : Int) + 1)))) (W := (w3.setCell ⟨b, 1, none⟩ (.int .i64 ((q3 : Int) + 1)))) w.heap.size rfl (.tmp 61) (.tmp 63) 36 9 _ 16 rfl Tryd.underlying36 infoStr rfl (by decide) (by decide) (.slice A4 names.length c4) names sn [.string sn] (fun _ => True) (fun _ => False) ?h1 ?h2 rfl (fun _ hk => hk.elim) (fun _ _ => trivial) ?h3 (Below.refl _ _) ?h4 ?h5 ?_; (case h1 => rfl); (case h2 => rfl); (case h3 => exact Kd.R_of_own hL4.names_ (fun _ _ => trivial)); (case h4 => exact hL4.keep.1); (case h5 => omega); intro v1 w5 hR1 hBl1 hg1 hat1; obtain ⟨A4', c4', rfl⟩ := Kd.R_slice hR1; have hL5 := hL4.named (Kd.own_of_R hR1) hg1 hat1; have hln : (names ++ [sn]).length = names.length + 1 := (by rw [List.length_append]; rfl); rw [hln] at hL5; have hbx5 := blk_grown hL4.box hg1 hL4.vb4; have hfx5 := blk_frozen hbx5 4; have hcx5 := blk_cell hbx5 4))
                  clear hx0 hx1 hx2 hx3 hx4 hx5 hy0 hy1 hy2 hy3 hy4 hy5 hfy hfx5 hcx5 hbx5 hc1 hf1 hc3 hf3 hR1 hBl1 hg1 hat1
                  refine start_ (n := 10) (S := fun w' => w'.cell? ⟨w.heap.size, 5, none⟩ = some (.slice A kids.length c)) (ds := [9]) #[false, false, false, false, false, false, false, false, false, false] (by kernel_rfl) rfl rfl (hL5.drew.cells.2.2.2.2.2) (fun hHeld => ?_)
                  refine with_tabW object.tab15 object.bits15 (fun HT_ HW_ => ?_)
                  refine pure_ (i := 0) (N := some 66) (v := ?_) (a' := ?_) #[true, false, false, false, false, false, false, false, false, false] rfl rfl (any_of HT_.out (by kernel_rfl)) (fun _ _ _ h => h) (Or.inl ⟨by rfl, ?_⟩) ?_ ?_
                  rotate_left
                  · intro w'
                    go_simp
                    with_reducible rfl
                  rotate_left
                  · simp only [Act.put, List.setIfInBounds_toArray, List.set_cons_zero, List.set_cons_succ, i64_w, i32_w]
                    rfl
                  refine take_ (i := 1) (N := some 67) (v := ?_) (a' := ?_) #[true, true, false, false, false, false, false, false, false, false] rfl rfl (take_ofW HT_.out HW_.out (by kernel_rfl)) (fun _ _ _ h => h) (Or.inl ⟨by rfl, ?_⟩) hHeld ?_ ?_
                  rotate_left
                  · rintro w' s0
                    go_simp
                    with_reducible rfl
                  rotate_left
                  · simp only [Act.put, List.setIfInBounds_toArray, List.set_cons_zero, List.set_cons_succ, i64_w, i32_w]
                    rfl
                  refine pure_ (i := 2) (N := some 68) (v := ?_) (a' := ?_) #[true, true, true, false, false, false, false, false, false, false] rfl rfl (any_of HT_.out (by kernel_rfl)) (fun _ _ _ h => h) (Or.inl ⟨by rfl, ?_⟩) ?_ ?_
                  rotate_left
                  · intro w'
                    go_simp
                    with_reducible rfl
                  rotate_left
                  · simp only [Act.put, List.setIfInBounds_toArray, List.set_cons_zero, List.set_cons_succ, i64_w, i32_w]
                    rfl
                  refine pure_ (i := 3) (N := some 69) (v := ?_) (a' := ?_) #[true, true, true, true, false, false, false, false, false, false] rfl rfl (any_of HT_.out (by kernel_rfl)) (fun _ _ _ h => h) (Or.inl ⟨by rfl, ?_⟩) ?_ ?_
                  rotate_left
                  · intro w'
                    go_simp
                    with_reducible rfl
                  rotate_left
                  · simp only [Act.put, List.setIfInBounds_toArray, List.set_cons_zero, List.set_cons_succ, i64_w, i32_w]
                    rfl
                  refine pure_ (i := 4) (N := some 70) (v := (.int .i64 ((deep : Int) + 1))) (a' := ?_) #[true, true, true, true, true, false, false, false, false, false] rfl rfl (any_of HT_.out (by kernel_rfl)) (fun _ _ _ h => h) (Or.inl ⟨by rfl, ?_⟩) ?_ ?_
                  · intro w'
                    go_simp
                    try (first | exact hwd | simp [hwd, i64_w] | rw [hwd])
                  rotate_left
                  · simp only [Act.put, List.setIfInBounds_toArray, List.set_cons_zero, List.set_cons_succ, i64_w, i32_w]
                    rfl
                  refine one_ (i := 5) (N := some 71) #[true, true, true, true, true, true, false, false, false, false] rfl rfl (one_of HT_.out (by kernel_rfl)) (by decide) (fun K hK => ?_)
                  refine goesP_ Tryd.func33 (by kernel_rfl) rfl #[.pointer (some ⟨b, 0, none⟩), .int .i64 ((deep : Int) + 1)] (by rfl) rfl (by kernel_rfl) ?_
                  refine (HCG.out _ _ _ hL5.drew).mono ?_
                  rintro e w6 ⟨rfl, hl6, hL6⟩
                  exact absurd hl6 HQ.out
                obtain ⟨hl5, hq5s⟩ := hq5
                rw [hl5] at hobj
                have hmw : ∀ (W : World) (tv2 : Value), At w0 b s (q5 : Int) tv2 W → Calls Tryd.prog 59 #[.pointer (some ⟨b, 0, none⟩), .int .u8 125] W (Ret w0 b s tv2 W (more 125 (s.data.toList.drop q5) q5) (fun d => .bool d)) := fun W tv2 h => more_walk w0 W b s q5 tv2 125 h hq5s hs
                have hadm := adv_more 125 (s.data.toList.drop q5) q5
                generalize more 125 (s.data.toList.drop q5) q5 = rm at *
                have HMW := Aside0.mk hmw
                clear hmw hl5
                cases rm with
                | no pp ee =>
                  have HRes := Aside0.mk (show R.no pp ee = res from hobj)
                  clear hobj hadm
                  go_wp2_with (first
                    | (go_at_call 45; with_reducible refine hw3.mono ?_; rintro e w1 ⟨rfl, hA1, hk1⟩; have hL1 := hL.moved hA1 hk1; have hc1 := hA1.c1; have hf1 := hA1.fr 1)
                    | (go_at_call 48; refine (HTX.out w1 hA1).mono ?_; rintro e w2 ⟨rfl, -, hA2, hk2⟩; have hL2 := hL1.moved hA2 hk2; obtain ⟨hx0, hx1, hx2, hx3, hx4, hx5⟩ := hL2.cells)
                    | (go_at_call 60; refine (hL2.contains_ hnl sn).mono ?_; rintro e w8 ⟨rfl, rfl⟩)
                    | (go_at_call 45; refine (HH2.out _ hA2).mono ?_; rintro e w3 ⟨rfl, -, hA3, hk3⟩; have hL3 := hL2.moved hA3 hk3; have hc3 := hA3.c1; have hf3 := hA3.fr 1; have hL4 := hL3.step; obtain ⟨hy0, hy1, hy2, hy3, hy4, hy5⟩ := hL4.cells; have hfy := blk_frozen hL4.box 4; have hsz : (w3.setCell ⟨b, 1, none⟩ (.int .i64 ((q3 : Int) + 1))).heap.size = w3.heap.size := by simp [World.setCell])
                    | ((with_reducible refine gate_dst (N := 63) rfl ?_); refine Kd.event_run (v := .slice (some ⟨(w3.setCell ⟨b, 1, none⟩ (.int .i64 ((q3 : Int) + 1))).heap.size, 0, none⟩) 1 1) (w1 := (w3.setCell ⟨b, 1, none⟩ (.int .i64 ((q3 : Int) + 1))).alloc (.cells #[.string sn] 9)) rfl ?hrun ?_; (case hrun => (first | (go_simp; done) | (go_simp; rfl))); refine Kd.R_append Kd.string (w0 := (w3.setCell ⟨b, 1, none⟩ (.int .i64 ((q3 : Int) + 1)))) (W := (w3.setCell ⟨b, 1, none⟩ (.int .i64 ((q3 : Int) + 1)))) w.heap.size rfl (.tmp 61) (.tmp 63) 36 9 _ 16 rfl Tryd.underlying36 infoStr rfl (by decide) (by decide) (.slice A4 names.length c4) names sn [.string sn] (fun _ => True) (fun _ => False) ?h1 ?h2 rfl (fun _ hk => hk.elim) (fun _ _ => trivial) ?h3 (Below.refl _ _) ?h4 ?h5 ?_; (case h1 => rfl); (case h2 => rfl); (case h3 => exact Kd.R_of_own hL4.names_ (fun _ _ => trivial)); (case h4 => exact hL4.keep.1); (case h5 => omega); intro v1 w5 hR1 hBl1 hg1 hat1; obtain ⟨A4', c4', rfl⟩ := Kd.R_slice hR1; have hL5 := hL4.named (Kd.own_of_R hR1) hg1 hat1; have hln : (names ++ [sn]).length = names.length + 1 := (by rw [List.length_append]; rfl); rw [hln] at hL5; have hbx5 := blk_grown hL4.box hg1 hL4.vb4; have hfx5 := blk_frozen hbx5 4; have hcx5 := blk_cell hbx5 4))
                  clear hx0 hx1 hx2 hx3 hx4 hx5 hy0 hy1 hy2 hy3 hy4 hy5 hfy hfx5 hcx5 hbx5 hc1 hf1 hc3 hf3 hR1 hBl1 hg1 hat1
                  refine start_ (n := 10) (S := fun w' => w'.cell? ⟨w.heap.size, 5, none⟩ = some (.slice A kids.length c)) (ds := [9]) #[false, false, false, false, false, false, false, false, false, false] (by kernel_rfl) rfl rfl (hL5.drew.cells.2.2.2.2.2) (fun hHeld => ?_)
                  refine with_tabW object.tab15 object.bits15 (fun HT_ HW_ => ?_)
                  refine pure_ (i := 0) (N := some 66) (v := ?_) (a' := ?_) #[true, false, false, false, false, false, false, false, false, false] rfl rfl (any_of HT_.out (by kernel_rfl)) (fun _ _ _ h => h) (Or.inl ⟨by rfl, ?_⟩) ?_ ?_
                  rotate_left
                  · intro w'
                    go_simp
                    with_reducible rfl
                  rotate_left
                  · simp only [Act.put, List.setIfInBounds_toArray, List.set_cons_zero, List.set_cons_succ, i64_w, i32_w]
                    rfl
                  refine take_ (i := 1) (N := some 67) (v := ?_) (a' := ?_) #[true, true, false, false, false, false, false, false, false, false] rfl rfl (take_ofW HT_.out HW_.out (by kernel_rfl)) (fun _ _ _ h => h) (Or.inl ⟨by rfl, ?_⟩) hHeld ?_ ?_
                  rotate_left
                  · rintro w' s0
                    go_simp
                    with_reducible rfl
                  rotate_left
                  · simp only [Act.put, List.setIfInBounds_toArray, List.set_cons_zero, List.set_cons_succ, i64_w, i32_w]
                    rfl
                  refine pure_ (i := 2) (N := some 68) (v := ?_) (a' := ?_) #[true, true, true, false, false, false, false, false, false, false] rfl rfl (any_of HT_.out (by kernel_rfl)) (fun _ _ _ h => h) (Or.inl ⟨by rfl, ?_⟩) ?_ ?_
                  rotate_left
                  · intro w'
                    go_simp
                    with_reducible rfl
                  rotate_left
                  · simp only [Act.put, List.setIfInBounds_toArray, List.set_cons_zero, List.set_cons_succ, i64_w, i32_w]
                    rfl
                  refine pure_ (i := 3) (N := some 69) (v := ?_) (a' := ?_) #[true, true, true, true, false, false, false, false, false, false] rfl rfl (any_of HT_.out (by kernel_rfl)) (fun _ _ _ h => h) (Or.inl ⟨by rfl, ?_⟩) ?_ ?_
                  rotate_left
                  · intro w'
                    go_simp
                    with_reducible rfl
                  rotate_left
                  · simp only [Act.put, List.setIfInBounds_toArray, List.set_cons_zero, List.set_cons_succ, i64_w, i32_w]
                    rfl
                  refine pure_ (i := 4) (N := some 70) (v := (.int .i64 ((deep : Int) + 1))) (a' := ?_) #[true, true, true, true, true, false, false, false, false, false] rfl rfl (any_of HT_.out (by kernel_rfl)) (fun _ _ _ h => h) (Or.inl ⟨by rfl, ?_⟩) ?_ ?_
                  · intro w'
                    go_simp
                    try (first | exact hwd | simp [hwd, i64_w] | rw [hwd])
                  rotate_left
                  · simp only [Act.put, List.setIfInBounds_toArray, List.set_cons_zero, List.set_cons_succ, i64_w, i32_w]
                    rfl
                  refine one_ (i := 5) (N := some 71) #[true, true, true, true, true, true, false, false, false, false] rfl rfl (one_of HT_.out (by kernel_rfl)) (by decide) (fun K hK => ?_)
                  refine goes_ Tryd.func33 (by kernel_rfl) rfl #[.pointer (some ⟨b, 0, none⟩), .int .i64 ((deep : Int) + 1)] (by rfl) rfl rfl (by kernel_rfl) ?_
                  refine (HCG.out _ _ _ hL5.drew).mono ?_
                  rintro e w6 ⟨rfl, -, tv2, hL6⟩
                  refine ⟨_, rfl, ?_⟩
                  refine hK.out _ _ hL6.cells.2.2.2.2.2 (fun hh => ?_)
                  clear hK K
                  refine one_ (i := 6) (N := some 72) #[true, true, true, true, true, true, true, false, false, false] rfl rfl (one_of HT_.out (by kernel_rfl)) (by decide) (fun K hK => ?_)
                  refine value_ (v := .slice (some ⟨w6.heap.size, 0, none⟩) 1 1) (w1 := w6.alloc (.cells #[.int .i64 vv.2] 3)) (by rfl) rfl (by first | (go_simp; done) | (go_simp; rfl)) ?_
                  refine hK.out _ _ ((hL6.below (below_alloc (Below.refl _ _) _)).cells.2.2.2.2.2) (fun hh => ?_)
                  clear hK K
                  refine one_ (i := 7) (N := some 73) #[true, true, true, true, true, true, true, true, false, false] rfl rfl (one_of HT_.out (by kernel_rfl)) (by decide) (fun K hK => ?_)
                  refine Kd.R_append_step (Kd.int .i64) (w0 := w6) (W := w6) w.heap.size (by rfl) (.tmp 67) (.tmp 72) 37 3 _ 8 rfl Tryd.underlying37 infoInt rfl (by decide) (by decide) (.slice A kids.length c) kids vv.2 [.int .i64 vv.2] (fun _ => True) (fun _ => False) rfl rfl rfl (fun _ hk => hk.elim) (fun _ _ => trivial) (Kd.R_of_own hL6.kids_ (fun _ _ => trivial)) (Below.refl _ _) hL6.keep.1 (by omega) ?_
                  intro v1 w7 hR1 hBl1 hg1 hat1
                  obtain ⟨A', c', rfl⟩ := Kd.R_slice hR1
                  have hL7 := hL6.kidded (Kd.own_of_R hR1) hg1 hat1
                  have hll : (kids ++ [vv.2]).length = kids.length + 1 := by rw [List.length_append]; rfl
                  rw [hll] at hL7 hat1
                  have hbx7 := blk_grown hL6.box hg1 hL6.vb5
                  have hfx7 := blk_frozen hbx7 5
                  have hcx7 := blk_cell hbx7 5
                  refine hK.out _ _ hcx7 (fun hh => ?_)
                  clear hK K
                  refine pure_ (i := 8) (N := some 74) (v := ?_) (a' := ?_) #[true, true, true, true, true, true, true, true, true, false] rfl rfl (any_of HT_.out (by kernel_rfl)) (fun _ _ _ h => h) (Or.inl ⟨by rfl, ?_⟩) ?_ ?_
                  rotate_left
                  · intro w'
                    go_simp
                    with_reducible rfl
                  rotate_left
                  · simp only [Act.put, List.setIfInBounds_toArray, List.set_cons_zero, List.set_cons_succ, i64_w, i32_w]
                    rfl
                  refine last_skip (i := 9) (w1 := w7.setCell ⟨w.heap.size, 5, none⟩ (.slice A' (kids.length + 1) c')) #[true, true, true, true, true, true, true, true, true, true] rfl rfl (one_of HT_.out (by kernel_rfl)) (by decide) rfl (by go_simp; try rfl) ?_
                  refine done_ (done_of HT_.out (by kernel_rfl)) ?_
                  go_wp2_with (go_at_call 59; refine (HMW.out _ _ hL7.rdr.1).mono ?_; rintro e w8 ⟨rfl, hB8⟩)
                  rw [← HRes.out]
                  exact ⟨rfl, rfl, hB8⟩
                | ok l8 q8 done =>
                  have hpp := hadm l8 q8 done rfl
                  clear hadm
                  rw [R.bind_ok] at hobj
                  cases done with
                  | true =>
                    rw [if_pos rfl] at hobj
                    unfold put at hobj
                    by_cases hbig : 8192 ≤ vv.1.length
                    · rw [if_pos hbig] at hobj
                      have HRes := Aside0.mk hobj
                      clear hobj
                      go_wp2_with (first
                        | (go_at_call 45; with_reducible refine hw3.mono ?_; rintro e w1 ⟨rfl, hA1, hk1⟩; have hL1 := hL.moved hA1 hk1; have hc1 := hA1.c1; have hf1 := hA1.fr 1)
                        | (go_at_call 48; refine (HTX.out w1 hA1).mono ?_; rintro e w2 ⟨rfl, -, hA2, hk2⟩; have hL2 := hL1.moved hA2 hk2; obtain ⟨hx0, hx1, hx2, hx3, hx4, hx5⟩ := hL2.cells)
                        | (go_at_call 60; refine (hL2.contains_ hnl sn).mono ?_; rintro e w8 ⟨rfl, rfl⟩)
                        | (go_at_call 45; refine (HH2.out _ hA2).mono ?_; rintro e w3 ⟨rfl, -, hA3, hk3⟩; have hL3 := hL2.moved hA3 hk3; have hc3 := hA3.c1; have hf3 := hA3.fr 1; have hL4 := hL3.step; obtain ⟨hy0, hy1, hy2, hy3, hy4, hy5⟩ := hL4.cells; have hfy := blk_frozen hL4.box 4; have hsz : (w3.setCell ⟨b, 1, none⟩ (.int .i64 ((q3 : Int) + 1))).heap.size = w3.heap.size := by simp [World.setCell])
                        | ((with_reducible refine gate_dst (N := 63) rfl ?_); refine Kd.event_run (v := .slice (some ⟨(w3.setCell ⟨b, 1, none⟩ (.int .i64 ((q3 : Int) + 1))).heap.size, 0, none⟩) 1 1) (w1 := (w3.setCell ⟨b, 1, none⟩ (.int .i64 ((q3 : Int) + 1))).alloc (.cells #[.string sn] 9)) rfl ?hrun ?_; (case hrun => (first | (go_simp; done) | (go_simp; rfl))); refine Kd.R_append Kd.string (w0 := (w3.setCell ⟨b, 1, none⟩ (.int .i64 ((q3 : Int) + 1)))) (W := (w3.setCell ⟨b, 1, none⟩ (.int .i64 ((q3 : Int) + 1)))) w.heap.size rfl (.tmp 61) (.tmp 63) 36 9 _ 16 rfl Tryd.underlying36 infoStr rfl (by decide) (by decide) (.slice A4 names.length c4) names sn [.string sn] (fun _ => True) (fun _ => False) ?h1 ?h2 rfl (fun _ hk => hk.elim) (fun _ _ => trivial) ?h3 (Below.refl _ _) ?h4 ?h5 ?_; (case h1 => rfl); (case h2 => rfl); (case h3 => exact Kd.R_of_own hL4.names_ (fun _ _ => trivial)); (case h4 => exact hL4.keep.1); (case h5 => omega); intro v1 w5 hR1 hBl1 hg1 hat1; obtain ⟨A4', c4', rfl⟩ := Kd.R_slice hR1; have hL5 := hL4.named (Kd.own_of_R hR1) hg1 hat1; have hln : (names ++ [sn]).length = names.length + 1 := (by rw [List.length_append]; rfl); rw [hln] at hL5; have hbx5 := blk_grown hL4.box hg1 hL4.vb4; have hfx5 := blk_frozen hbx5 4; have hcx5 := blk_cell hbx5 4))
                      clear hx0 hx1 hx2 hx3 hx4 hx5 hy0 hy1 hy2 hy3 hy4 hy5 hfy hfx5 hcx5 hbx5 hc1 hf1 hc3 hf3 hR1 hBl1 hg1 hat1
                      refine start_ (n := 10) (S := fun w' => w'.cell? ⟨w.heap.size, 5, none⟩ = some (.slice A kids.length c)) (ds := [9]) #[false, false, false, false, false, false, false, false, false, false] (by kernel_rfl) rfl rfl (hL5.drew.cells.2.2.2.2.2) (fun hHeld => ?_)
                      refine with_tabW object.tab15 object.bits15 (fun HT_ HW_ => ?_)
                      refine pure_ (i := 0) (N := some 66) (v := ?_) (a' := ?_) #[true, false, false, false, false, false, false, false, false, false] rfl rfl (any_of HT_.out (by kernel_rfl)) (fun _ _ _ h => h) (Or.inl ⟨by rfl, ?_⟩) ?_ ?_
                      rotate_left
                      · intro w'
                        go_simp
                        with_reducible rfl
                      rotate_left
                      · simp only [Act.put, List.setIfInBounds_toArray, List.set_cons_zero, List.set_cons_succ, i64_w, i32_w]
                        rfl
                      refine take_ (i := 1) (N := some 67) (v := ?_) (a' := ?_) #[true, true, false, false, false, false, false, false, false, false] rfl rfl (take_ofW HT_.out HW_.out (by kernel_rfl)) (fun _ _ _ h => h) (Or.inl ⟨by rfl, ?_⟩) hHeld ?_ ?_
                      rotate_left
                      · rintro w' s0
                        go_simp
                        with_reducible rfl
                      rotate_left
                      · simp only [Act.put, List.setIfInBounds_toArray, List.set_cons_zero, List.set_cons_succ, i64_w, i32_w]
                        rfl
                      refine pure_ (i := 2) (N := some 68) (v := ?_) (a' := ?_) #[true, true, true, false, false, false, false, false, false, false] rfl rfl (any_of HT_.out (by kernel_rfl)) (fun _ _ _ h => h) (Or.inl ⟨by rfl, ?_⟩) ?_ ?_
                      rotate_left
                      · intro w'
                        go_simp
                        with_reducible rfl
                      rotate_left
                      · simp only [Act.put, List.setIfInBounds_toArray, List.set_cons_zero, List.set_cons_succ, i64_w, i32_w]
                        rfl
                      refine pure_ (i := 3) (N := some 69) (v := ?_) (a' := ?_) #[true, true, true, true, false, false, false, false, false, false] rfl rfl (any_of HT_.out (by kernel_rfl)) (fun _ _ _ h => h) (Or.inl ⟨by rfl, ?_⟩) ?_ ?_
                      rotate_left
                      · intro w'
                        go_simp
                        with_reducible rfl
                      rotate_left
                      · simp only [Act.put, List.setIfInBounds_toArray, List.set_cons_zero, List.set_cons_succ, i64_w, i32_w]
                        rfl
                      refine pure_ (i := 4) (N := some 70) (v := (.int .i64 ((deep : Int) + 1))) (a' := ?_) #[true, true, true, true, true, false, false, false, false, false] rfl rfl (any_of HT_.out (by kernel_rfl)) (fun _ _ _ h => h) (Or.inl ⟨by rfl, ?_⟩) ?_ ?_
                      · intro w'
                        go_simp
                        try (first | exact hwd | simp [hwd, i64_w] | rw [hwd])
                      rotate_left
                      · simp only [Act.put, List.setIfInBounds_toArray, List.set_cons_zero, List.set_cons_succ, i64_w, i32_w]
                        rfl
                      refine one_ (i := 5) (N := some 71) #[true, true, true, true, true, true, false, false, false, false] rfl rfl (one_of HT_.out (by kernel_rfl)) (by decide) (fun K hK => ?_)
                      refine goes_ Tryd.func33 (by kernel_rfl) rfl #[.pointer (some ⟨b, 0, none⟩), .int .i64 ((deep : Int) + 1)] (by rfl) rfl rfl (by kernel_rfl) ?_
                      refine (HCG.out _ _ _ hL5.drew).mono ?_
                      rintro e w6 ⟨rfl, -, tv2, hL6⟩
                      refine ⟨_, rfl, ?_⟩
                      refine hK.out _ _ hL6.cells.2.2.2.2.2 (fun hh => ?_)
                      clear hK K
                      refine one_ (i := 6) (N := some 72) #[true, true, true, true, true, true, true, false, false, false] rfl rfl (one_of HT_.out (by kernel_rfl)) (by decide) (fun K hK => ?_)
                      refine value_ (v := .slice (some ⟨w6.heap.size, 0, none⟩) 1 1) (w1 := w6.alloc (.cells #[.int .i64 vv.2] 3)) (by rfl) rfl (by first | (go_simp; done) | (go_simp; rfl)) ?_
                      refine hK.out _ _ ((hL6.below (below_alloc (Below.refl _ _) _)).cells.2.2.2.2.2) (fun hh => ?_)
                      clear hK K
                      refine one_ (i := 7) (N := some 73) #[true, true, true, true, true, true, true, true, false, false] rfl rfl (one_of HT_.out (by kernel_rfl)) (by decide) (fun K hK => ?_)
                      refine Kd.R_append_step (Kd.int .i64) (w0 := w6) (W := w6) w.heap.size (by rfl) (.tmp 67) (.tmp 72) 37 3 _ 8 rfl Tryd.underlying37 infoInt rfl (by decide) (by decide) (.slice A kids.length c) kids vv.2 [.int .i64 vv.2] (fun _ => True) (fun _ => False) rfl rfl rfl (fun _ hk => hk.elim) (fun _ _ => trivial) (Kd.R_of_own hL6.kids_ (fun _ _ => trivial)) (Below.refl _ _) hL6.keep.1 (by omega) ?_
                      intro v1 w7 hR1 hBl1 hg1 hat1
                      obtain ⟨A', c', rfl⟩ := Kd.R_slice hR1
                      have hL7 := hL6.kidded (Kd.own_of_R hR1) hg1 hat1
                      have hll : (kids ++ [vv.2]).length = kids.length + 1 := by rw [List.length_append]; rfl
                      rw [hll] at hL7 hat1
                      have hbx7 := blk_grown hL6.box hg1 hL6.vb5
                      have hfx7 := blk_frozen hbx7 5
                      have hcx7 := blk_cell hbx7 5
                      refine hK.out _ _ hcx7 (fun hh => ?_)
                      clear hK K
                      refine pure_ (i := 8) (N := some 74) (v := ?_) (a' := ?_) #[true, true, true, true, true, true, true, true, true, false] rfl rfl (any_of HT_.out (by kernel_rfl)) (fun _ _ _ h => h) (Or.inl ⟨by rfl, ?_⟩) ?_ ?_
                      rotate_left
                      · intro w'
                        go_simp
                        with_reducible rfl
                      rotate_left
                      · simp only [Act.put, List.setIfInBounds_toArray, List.set_cons_zero, List.set_cons_succ, i64_w, i32_w]
                        rfl
                      refine last_skip (i := 9) (w1 := w7.setCell ⟨w.heap.size, 5, none⟩ (.slice A' (kids.length + 1) c')) #[true, true, true, true, true, true, true, true, true, true] rfl rfl (one_of HT_.out (by kernel_rfl)) (by decide) rfl (by go_simp; try rfl) ?_
                      refine done_ (done_of HT_.out (by kernel_rfl)) ?_
                      go_wp2_with (first
                        | (go_at_call 59; refine (HMW.out _ _ hL7.rdr.1).mono ?_; rintro e w8 ⟨rfl, hl8, hp8, hA8, hk8⟩; have HL8 := Aside0.mk (show l8 = s.data.toList.drop q8 ∧ q8 ≤ s.size from ⟨hl8, hp8⟩); clear hl8 hp8; have hL8 := hL7.moved hA8 hk8; obtain ⟨hx0, hx1, hx2, hx3, hx4, hx5⟩ := hL8.cells)
                        | (go_at_call 47; refine (hL8.put_no fr hbig).mono ?_; rintro e w9 ⟨rfl, hB9⟩))
                      rw [← HRes.out]
                      exact ⟨rfl, rfl, hB9⟩
                    · rw [if_neg hbig] at hobj
                      have HRes := Aside0.mk hobj
                      clear hobj
                      go_wp2_with (first
                        | (go_at_call 45; with_reducible refine hw3.mono ?_; rintro e w1 ⟨rfl, hA1, hk1⟩; have hL1 := hL.moved hA1 hk1; have hc1 := hA1.c1; have hf1 := hA1.fr 1)
                        | (go_at_call 48; refine (HTX.out w1 hA1).mono ?_; rintro e w2 ⟨rfl, -, hA2, hk2⟩; have hL2 := hL1.moved hA2 hk2; obtain ⟨hx0, hx1, hx2, hx3, hx4, hx5⟩ := hL2.cells)
                        | (go_at_call 60; refine (hL2.contains_ hnl sn).mono ?_; rintro e w8 ⟨rfl, rfl⟩)
                        | (go_at_call 45; refine (HH2.out _ hA2).mono ?_; rintro e w3 ⟨rfl, -, hA3, hk3⟩; have hL3 := hL2.moved hA3 hk3; have hc3 := hA3.c1; have hf3 := hA3.fr 1; have hL4 := hL3.step; obtain ⟨hy0, hy1, hy2, hy3, hy4, hy5⟩ := hL4.cells; have hfy := blk_frozen hL4.box 4; have hsz : (w3.setCell ⟨b, 1, none⟩ (.int .i64 ((q3 : Int) + 1))).heap.size = w3.heap.size := by simp [World.setCell])
                        | ((with_reducible refine gate_dst (N := 63) rfl ?_); refine Kd.event_run (v := .slice (some ⟨(w3.setCell ⟨b, 1, none⟩ (.int .i64 ((q3 : Int) + 1))).heap.size, 0, none⟩) 1 1) (w1 := (w3.setCell ⟨b, 1, none⟩ (.int .i64 ((q3 : Int) + 1))).alloc (.cells #[.string sn] 9)) rfl ?hrun ?_; (case hrun => (first | (go_simp; done) | (go_simp; rfl))); refine Kd.R_append Kd.string (w0 := (w3.setCell ⟨b, 1, none⟩ (.int .i64 ((q3 : Int) + 1)))) (W := (w3.setCell ⟨b, 1, none⟩ (.int .i64 ((q3 : Int) + 1)))) w.heap.size rfl (.tmp 61) (.tmp 63) 36 9 _ 16 rfl Tryd.underlying36 infoStr rfl (by decide) (by decide) (.slice A4 names.length c4) names sn [.string sn] (fun _ => True) (fun _ => False) ?h1 ?h2 rfl (fun _ hk => hk.elim) (fun _ _ => trivial) ?h3 (Below.refl _ _) ?h4 ?h5 ?_; (case h1 => rfl); (case h2 => rfl); (case h3 => exact Kd.R_of_own hL4.names_ (fun _ _ => trivial)); (case h4 => exact hL4.keep.1); (case h5 => omega); intro v1 w5 hR1 hBl1 hg1 hat1; obtain ⟨A4', c4', rfl⟩ := Kd.R_slice hR1; have hL5 := hL4.named (Kd.own_of_R hR1) hg1 hat1; have hln : (names ++ [sn]).length = names.length + 1 := (by rw [List.length_append]; rfl); rw [hln] at hL5; have hbx5 := blk_grown hL4.box hg1 hL4.vb4; have hfx5 := blk_frozen hbx5 4; have hcx5 := blk_cell hbx5 4))
                      clear hx0 hx1 hx2 hx3 hx4 hx5 hy0 hy1 hy2 hy3 hy4 hy5 hfy hfx5 hcx5 hbx5 hc1 hf1 hc3 hf3 hR1 hBl1 hg1 hat1
                      refine start_ (n := 10) (S := fun w' => w'.cell? ⟨w.heap.size, 5, none⟩ = some (.slice A kids.length c)) (ds := [9]) #[false, false, false, false, false, false, false, false, false, false] (by kernel_rfl) rfl rfl (hL5.drew.cells.2.2.2.2.2) (fun hHeld => ?_)
                      refine with_tabW object.tab15 object.bits15 (fun HT_ HW_ => ?_)
                      refine pure_ (i := 0) (N := some 66) (v := ?_) (a' := ?_) #[true, false, false, false, false, false, false, false, false, false] rfl rfl (any_of HT_.out (by kernel_rfl)) (fun _ _ _ h => h) (Or.inl ⟨by rfl, ?_⟩) ?_ ?_
                      rotate_left
                      · intro w'
                        go_simp
                        with_reducible rfl
                      rotate_left
                      · simp only [Act.put, List.setIfInBounds_toArray, List.set_cons_zero, List.set_cons_succ, i64_w, i32_w]
                        rfl
                      refine take_ (i := 1) (N := some 67) (v := ?_) (a' := ?_) #[true, true, false, false, false, false, false, false, false, false] rfl rfl (take_ofW HT_.out HW_.out (by kernel_rfl)) (fun _ _ _ h => h) (Or.inl ⟨by rfl, ?_⟩) hHeld ?_ ?_
                      rotate_left
                      · rintro w' s0
                        go_simp
                        with_reducible rfl
                      rotate_left
                      · simp only [Act.put, List.setIfInBounds_toArray, List.set_cons_zero, List.set_cons_succ, i64_w, i32_w]
                        rfl
                      refine pure_ (i := 2) (N := some 68) (v := ?_) (a' := ?_) #[true, true, true, false, false, false, false, false, false, false] rfl rfl (any_of HT_.out (by kernel_rfl)) (fun _ _ _ h => h) (Or.inl ⟨by rfl, ?_⟩) ?_ ?_
                      rotate_left
                      · intro w'
                        go_simp
                        with_reducible rfl
                      rotate_left
                      · simp only [Act.put, List.setIfInBounds_toArray, List.set_cons_zero, List.set_cons_succ, i64_w, i32_w]
                        rfl
                      refine pure_ (i := 3) (N := some 69) (v := ?_) (a' := ?_) #[true, true, true, true, false, false, false, false, false, false] rfl rfl (any_of HT_.out (by kernel_rfl)) (fun _ _ _ h => h) (Or.inl ⟨by rfl, ?_⟩) ?_ ?_
                      rotate_left
                      · intro w'
                        go_simp
                        with_reducible rfl
                      rotate_left
                      · simp only [Act.put, List.setIfInBounds_toArray, List.set_cons_zero, List.set_cons_succ, i64_w, i32_w]
                        rfl
                      refine pure_ (i := 4) (N := some 70) (v := (.int .i64 ((deep : Int) + 1))) (a' := ?_) #[true, true, true, true, true, false, false, false, false, false] rfl rfl (any_of HT_.out (by kernel_rfl)) (fun _ _ _ h => h) (Or.inl ⟨by rfl, ?_⟩) ?_ ?_
                      · intro w'
                        go_simp
                        try (first | exact hwd | simp [hwd, i64_w] | rw [hwd])
                      rotate_left
                      · simp only [Act.put, List.setIfInBounds_toArray, List.set_cons_zero, List.set_cons_succ, i64_w, i32_w]
                        rfl
                      refine one_ (i := 5) (N := some 71) #[true, true, true, true, true, true, false, false, false, false] rfl rfl (one_of HT_.out (by kernel_rfl)) (by decide) (fun K hK => ?_)
                      refine goes_ Tryd.func33 (by kernel_rfl) rfl #[.pointer (some ⟨b, 0, none⟩), .int .i64 ((deep : Int) + 1)] (by rfl) rfl rfl (by kernel_rfl) ?_
                      refine (HCG.out _ _ _ hL5.drew).mono ?_
                      rintro e w6 ⟨rfl, -, tv2, hL6⟩
                      refine ⟨_, rfl, ?_⟩
                      refine hK.out _ _ hL6.cells.2.2.2.2.2 (fun hh => ?_)
                      clear hK K
                      refine one_ (i := 6) (N := some 72) #[true, true, true, true, true, true, true, false, false, false] rfl rfl (one_of HT_.out (by kernel_rfl)) (by decide) (fun K hK => ?_)
                      refine value_ (v := .slice (some ⟨w6.heap.size, 0, none⟩) 1 1) (w1 := w6.alloc (.cells #[.int .i64 vv.2] 3)) (by rfl) rfl (by first | (go_simp; done) | (go_simp; rfl)) ?_
                      refine hK.out _ _ ((hL6.below (below_alloc (Below.refl _ _) _)).cells.2.2.2.2.2) (fun hh => ?_)
                      clear hK K
                      refine one_ (i := 7) (N := some 73) #[true, true, true, true, true, true, true, true, false, false] rfl rfl (one_of HT_.out (by kernel_rfl)) (by decide) (fun K hK => ?_)
                      refine Kd.R_append_step (Kd.int .i64) (w0 := w6) (W := w6) w.heap.size (by rfl) (.tmp 67) (.tmp 72) 37 3 _ 8 rfl Tryd.underlying37 infoInt rfl (by decide) (by decide) (.slice A kids.length c) kids vv.2 [.int .i64 vv.2] (fun _ => True) (fun _ => False) rfl rfl rfl (fun _ hk => hk.elim) (fun _ _ => trivial) (Kd.R_of_own hL6.kids_ (fun _ _ => trivial)) (Below.refl _ _) hL6.keep.1 (by omega) ?_
                      intro v1 w7 hR1 hBl1 hg1 hat1
                      obtain ⟨A', c', rfl⟩ := Kd.R_slice hR1
                      have hL7 := hL6.kidded (Kd.own_of_R hR1) hg1 hat1
                      have hll : (kids ++ [vv.2]).length = kids.length + 1 := by rw [List.length_append]; rfl
                      rw [hll] at hL7 hat1
                      have hbx7 := blk_grown hL6.box hg1 hL6.vb5
                      have hfx7 := blk_frozen hbx7 5
                      have hcx7 := blk_cell hbx7 5
                      refine hK.out _ _ hcx7 (fun hh => ?_)
                      clear hK K
                      refine pure_ (i := 8) (N := some 74) (v := ?_) (a' := ?_) #[true, true, true, true, true, true, true, true, true, false] rfl rfl (any_of HT_.out (by kernel_rfl)) (fun _ _ _ h => h) (Or.inl ⟨by rfl, ?_⟩) ?_ ?_
                      rotate_left
                      · intro w'
                        go_simp
                        with_reducible rfl
                      rotate_left
                      · simp only [Act.put, List.setIfInBounds_toArray, List.set_cons_zero, List.set_cons_succ, i64_w, i32_w]
                        rfl
                      refine last_skip (i := 9) (w1 := w7.setCell ⟨w.heap.size, 5, none⟩ (.slice A' (kids.length + 1) c')) #[true, true, true, true, true, true, true, true, true, true] rfl rfl (one_of HT_.out (by kernel_rfl)) (by decide) rfl (by go_simp; try rfl) ?_
                      refine done_ (done_of HT_.out (by kernel_rfl)) ?_
                      go_wp2_with (first
                        | (go_at_call 59; refine (HMW.out _ _ hL7.rdr.1).mono ?_; rintro e w8 ⟨rfl, hl8, hp8, hA8, hk8⟩; have HL8 := Aside0.mk (show l8 = s.data.toList.drop q8 ∧ q8 ≤ s.size from ⟨hl8, hp8⟩); clear hl8 hp8; have hL8 := hL7.moved hA8 hk8; obtain ⟨hx0, hx1, hx2, hx3, hx4, hx5⟩ := hL8.cells)
                        | (go_at_call 47; refine (hL8.put_ok fr hbig).mono ?_; rintro e w9 ⟨rfl, hR9⟩))
                      go_ret
                      rw [← HRes.out]
                      exact ⟨rfl, HL8.out.1, HL8.out.2, hR9⟩
                  | false =>
                    rw [if_neg (by decide)] at hobj
                    have HRes := Aside0.mk hobj
                    clear hobj
                    go_wp2_with (first
                      | (go_at_call 45; with_reducible refine hw3.mono ?_; rintro e w1 ⟨rfl, hA1, hk1⟩; have hL1 := hL.moved hA1 hk1; have hc1 := hA1.c1; have hf1 := hA1.fr 1)
                      | (go_at_call 48; refine (HTX.out w1 hA1).mono ?_; rintro e w2 ⟨rfl, -, hA2, hk2⟩; have hL2 := hL1.moved hA2 hk2; obtain ⟨hx0, hx1, hx2, hx3, hx4, hx5⟩ := hL2.cells)
                      | (go_at_call 60; refine (hL2.contains_ hnl sn).mono ?_; rintro e w8 ⟨rfl, rfl⟩)
                      | (go_at_call 45; refine (HH2.out _ hA2).mono ?_; rintro e w3 ⟨rfl, -, hA3, hk3⟩; have hL3 := hL2.moved hA3 hk3; have hc3 := hA3.c1; have hf3 := hA3.fr 1; have hL4 := hL3.step; obtain ⟨hy0, hy1, hy2, hy3, hy4, hy5⟩ := hL4.cells; have hfy := blk_frozen hL4.box 4; have hsz : (w3.setCell ⟨b, 1, none⟩ (.int .i64 ((q3 : Int) + 1))).heap.size = w3.heap.size := by simp [World.setCell])
                      | ((with_reducible refine gate_dst (N := 63) rfl ?_); refine Kd.event_run (v := .slice (some ⟨(w3.setCell ⟨b, 1, none⟩ (.int .i64 ((q3 : Int) + 1))).heap.size, 0, none⟩) 1 1) (w1 := (w3.setCell ⟨b, 1, none⟩ (.int .i64 ((q3 : Int) + 1))).alloc (.cells #[.string sn] 9)) rfl ?hrun ?_; (case hrun => (first | (go_simp; done) | (go_simp; rfl))); refine Kd.R_append Kd.string (w0 := (w3.setCell ⟨b, 1, none⟩ (.int .i64 ((q3 : Int) + 1)))) (W := (w3.setCell ⟨b, 1, none⟩ (.int .i64 ((q3 : Int) + 1)))) w.heap.size rfl (.tmp 61) (.tmp 63) 36 9 _ 16 rfl Tryd.underlying36 infoStr rfl (by decide) (by decide) (.slice A4 names.length c4) names sn [.string sn] (fun _ => True) (fun _ => False) ?h1 ?h2 rfl (fun _ hk => hk.elim) (fun _ _ => trivial) ?h3 (Below.refl _ _) ?h4 ?h5 ?_; (case h1 => rfl); (case h2 => rfl); (case h3 => exact Kd.R_of_own hL4.names_ (fun _ _ => trivial)); (case h4 => exact hL4.keep.1); (case h5 => omega); intro v1 w5 hR1 hBl1 hg1 hat1; obtain ⟨A4', c4', rfl⟩ := Kd.R_slice hR1; have hL5 := hL4.named (Kd.own_of_R hR1) hg1 hat1; have hln : (names ++ [sn]).length = names.length + 1 := (by rw [List.length_append]; rfl); rw [hln] at hL5; have hbx5 := blk_grown hL4.box hg1 hL4.vb4; have hfx5 := blk_frozen hbx5 4; have hcx5 := blk_cell hbx5 4))
                    clear hx0 hx1 hx2 hx3 hx4 hx5 hy0 hy1 hy2 hy3 hy4 hy5 hfy hfx5 hcx5 hbx5 hc1 hf1 hc3 hf3 hR1 hBl1 hg1 hat1
                    refine start_ (n := 10) (S := fun w' => w'.cell? ⟨w.heap.size, 5, none⟩ = some (.slice A kids.length c)) (ds := [9]) #[false, false, false, false, false, false, false, false, false, false] (by kernel_rfl) rfl rfl (hL5.drew.cells.2.2.2.2.2) (fun hHeld => ?_)
                    refine with_tabW object.tab15 object.bits15 (fun HT_ HW_ => ?_)
                    refine pure_ (i := 0) (N := some 66) (v := ?_) (a' := ?_) #[true, false, false, false, false, false, false, false, false, false] rfl rfl (any_of HT_.out (by kernel_rfl)) (fun _ _ _ h => h) (Or.inl ⟨by rfl, ?_⟩) ?_ ?_
                    rotate_left
                    · intro w'
                      go_simp
                      with_reducible rfl
                    rotate_left
                    · simp only [Act.put, List.setIfInBounds_toArray, List.set_cons_zero, List.set_cons_succ, i64_w, i32_w]
                      rfl
                    refine take_ (i := 1) (N := some 67) (v := ?_) (a' := ?_) #[true, true, false, false, false, false, false, false, false, false] rfl rfl (take_ofW HT_.out HW_.out (by kernel_rfl)) (fun _ _ _ h => h) (Or.inl ⟨by rfl, ?_⟩) hHeld ?_ ?_
                    rotate_left
                    · rintro w' s0
                      go_simp
                      with_reducible rfl
                    rotate_left
                    · simp only [Act.put, List.setIfInBounds_toArray, List.set_cons_zero, List.set_cons_succ, i64_w, i32_w]
                      rfl
                    refine pure_ (i := 2) (N := some 68) (v := ?_) (a' := ?_) #[true, true, true, false, false, false, false, false, false, false] rfl rfl (any_of HT_.out (by kernel_rfl)) (fun _ _ _ h => h) (Or.inl ⟨by rfl, ?_⟩) ?_ ?_
                    rotate_left
                    · intro w'
                      go_simp
                      with_reducible rfl
                    rotate_left
                    · simp only [Act.put, List.setIfInBounds_toArray, List.set_cons_zero, List.set_cons_succ, i64_w, i32_w]
                      rfl
                    refine pure_ (i := 3) (N := some 69) (v := ?_) (a' := ?_) #[true, true, true, true, false, false, false, false, false, false] rfl rfl (any_of HT_.out (by kernel_rfl)) (fun _ _ _ h => h) (Or.inl ⟨by rfl, ?_⟩) ?_ ?_
                    rotate_left
                    · intro w'
                      go_simp
                      with_reducible rfl
                    rotate_left
                    · simp only [Act.put, List.setIfInBounds_toArray, List.set_cons_zero, List.set_cons_succ, i64_w, i32_w]
                      rfl
                    refine pure_ (i := 4) (N := some 70) (v := (.int .i64 ((deep : Int) + 1))) (a' := ?_) #[true, true, true, true, true, false, false, false, false, false] rfl rfl (any_of HT_.out (by kernel_rfl)) (fun _ _ _ h => h) (Or.inl ⟨by rfl, ?_⟩) ?_ ?_
                    · intro w'
                      go_simp
                      try (first | exact hwd | simp [hwd, i64_w] | rw [hwd])
                    rotate_left
                    · simp only [Act.put, List.setIfInBounds_toArray, List.set_cons_zero, List.set_cons_succ, i64_w, i32_w]
                      rfl
                    refine one_ (i := 5) (N := some 71) #[true, true, true, true, true, true, false, false, false, false] rfl rfl (one_of HT_.out (by kernel_rfl)) (by decide) (fun K hK => ?_)
                    refine goes_ Tryd.func33 (by kernel_rfl) rfl #[.pointer (some ⟨b, 0, none⟩), .int .i64 ((deep : Int) + 1)] (by rfl) rfl rfl (by kernel_rfl) ?_
                    refine (HCG.out _ _ _ hL5.drew).mono ?_
                    rintro e w6 ⟨rfl, -, tv2, hL6⟩
                    refine ⟨_, rfl, ?_⟩
                    refine hK.out _ _ hL6.cells.2.2.2.2.2 (fun hh => ?_)
                    clear hK K
                    refine one_ (i := 6) (N := some 72) #[true, true, true, true, true, true, true, false, false, false] rfl rfl (one_of HT_.out (by kernel_rfl)) (by decide) (fun K hK => ?_)
                    refine value_ (v := .slice (some ⟨w6.heap.size, 0, none⟩) 1 1) (w1 := w6.alloc (.cells #[.int .i64 vv.2] 3)) (by rfl) rfl (by first | (go_simp; done) | (go_simp; rfl)) ?_
                    refine hK.out _ _ ((hL6.below (below_alloc (Below.refl _ _) _)).cells.2.2.2.2.2) (fun hh => ?_)
                    clear hK K
                    refine one_ (i := 7) (N := some 73) #[true, true, true, true, true, true, true, true, false, false] rfl rfl (one_of HT_.out (by kernel_rfl)) (by decide) (fun K hK => ?_)
                    refine Kd.R_append_step (Kd.int .i64) (w0 := w6) (W := w6) w.heap.size (by rfl) (.tmp 67) (.tmp 72) 37 3 _ 8 rfl Tryd.underlying37 infoInt rfl (by decide) (by decide) (.slice A kids.length c) kids vv.2 [.int .i64 vv.2] (fun _ => True) (fun _ => False) rfl rfl rfl (fun _ hk => hk.elim) (fun _ _ => trivial) (Kd.R_of_own hL6.kids_ (fun _ _ => trivial)) (Below.refl _ _) hL6.keep.1 (by omega) ?_
                    intro v1 w7 hR1 hBl1 hg1 hat1
                    obtain ⟨A', c', rfl⟩ := Kd.R_slice hR1
                    have hL7 := hL6.kidded (Kd.own_of_R hR1) hg1 hat1
                    have hll : (kids ++ [vv.2]).length = kids.length + 1 := by rw [List.length_append]; rfl
                    rw [hll] at hL7 hat1
                    have hbx7 := blk_grown hL6.box hg1 hL6.vb5
                    have hfx7 := blk_frozen hbx7 5
                    have hcx7 := blk_cell hbx7 5
                    refine hK.out _ _ hcx7 (fun hh => ?_)
                    clear hK K
                    refine pure_ (i := 8) (N := some 74) (v := ?_) (a' := ?_) #[true, true, true, true, true, true, true, true, true, false] rfl rfl (any_of HT_.out (by kernel_rfl)) (fun _ _ _ h => h) (Or.inl ⟨by rfl, ?_⟩) ?_ ?_
                    rotate_left
                    · intro w'
                      go_simp
                      with_reducible rfl
                    rotate_left
                    · simp only [Act.put, List.setIfInBounds_toArray, List.set_cons_zero, List.set_cons_succ, i64_w, i32_w]
                      rfl
                    refine last_skip (i := 9) (w1 := w7.setCell ⟨w.heap.size, 5, none⟩ (.slice A' (kids.length + 1) c')) #[true, true, true, true, true, true, true, true, true, true] rfl rfl (one_of HT_.out (by kernel_rfl)) (by decide) rfl (by go_simp; try rfl) ?_
                    refine done_ (done_of HT_.out (by kernel_rfl)) ?_
                    go_wp2_with (go_at_call 59; refine (HMW.out _ _ hL7.rdr.1).mono ?_; rintro e w8 ⟨rfl, hl8, hp8, hA8, hk8⟩; have HL8 := Aside0.mk (show l8 = s.data.toList.drop q8 ∧ q8 ≤ s.size from ⟨hl8, hp8⟩); clear hl8 hp8; have hL8 := hL7.moved hA8 hk8; obtain ⟨hx0, hx1, hx2, hx3, hx4, hx5⟩ := hL8.cells)
                    go_roundg f1
                    case measure => exact Nat.lt_succ_self _
                    case rel => exact ⟨q8, tv2, _, _, names ++ [sn], kids ++ [vv.2], vv.1, ⟨by have := HZ.out; omega, HL8.out.2, by have := HZ.out; have := HL8.out; omega, ⟨by rw [hln]; have := HZ.out; omega, by rw [hll]; have := HZ.out; omega⟩, by rw [← HL8.out.1]; exact HRes.out⟩, hL8⟩
end Go.Proofs.YtldlkoncndlbhaaDoor.Js
