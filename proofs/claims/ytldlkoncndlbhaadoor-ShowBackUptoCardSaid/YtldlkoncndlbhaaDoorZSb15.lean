/- YtldlkoncndlbhaaDoorZSb15: texts of the seat (Reader10), one behind the other, without what this claim's theorem does not rest on. -/
import Derived.Test.YtldlkoncndlbhaaDoorZSb14

set_option linter.unusedVariables false
set_option linter.unusedSimpArgs false
namespace Go.Proofs.YtldlkoncndlbhaaDoor.Js
open Go.RowKit Go.Lib Go.Proofs.YtldlkoncndlbhaaDoor.PSh Go.Proofs.YtldlkoncndlbhaaDoor.Np Go.Proofs.YtldlkoncndlbhaaDoorW.PrintWords Go.Proofs.YtldlkoncndlbhaaDoorW.PrintLast Go.Proofs.YtldlkoncndlbhaaDoorW.PrintMore
section
variable {P : Program} {ops : Array Oper} {Q : Exit → Act → World → Prop}
/-- A call of a Go function in a region whose order is open, that panics. -/
theorem goesP_ {oi : Oper} {N : Option Tmp} {a : Act} {w : World} {K : Act → World → Prop} {f : FuncId} {fn : Func} {aS : Array Operand} {ts : Array TypeId} (hf : P.funcs[f]? = some fn) (hname : (fn.name == "runtime.NumGoroutine") = false) (hb : fn.body.isSome = true) (args : Array Value)
    (hw : Region.wanted oi (yielded ops a.tmps) = true) (hop : oi.op = .call { callee := .value (.func f), args := aS, argTypes := ts }) (hargs : aS.map a.eval = args)
    (h : Calls P f args w fun e w' => ∃ c, e = .panicked c ∧ Q (.panic c) a w') : if Region.wanted oi (yielded ops a.tmps) = true then Oper.wp P oi a w K Q else K (a.put N undef) w := by
  rw [if_pos hw]
  have hrun : (execOp a.eval oi).run P w = .ok (.enter f args) w := by
    have he := enters_ hf hname hb args w
    unfold execOp
    simp [hop, resolve, Deferred.ofValue, invoke, Act.eval, hargs, he]
  unfold Oper.wp
  rw [hrun, Oper.upon_enter]
  refine h.mono fun e w'' hh => ?_
  obtain ⟨c, rfl, hk⟩ := hh
  exact hk
end
section
variable {w0 w wr w' : World} {b vb : Nat} {s : ByteArray} {p : Nat} {ok : Nat → Prop} {tv : Value} {f0 : Int} {tv' tv'' v4 v5 v' : Value} {names : List ByteArray} {kids : List Int} {t t' : List S39}
theorem LSt.cells (h : LSt w0 w b vb s p ok tv f0 tv' v4 v5 names kids t wr) : wr.cell? ⟨vb, 0, none⟩ = some (.int .i64 f0) ∧ wr.cell? ⟨vb, 1, none⟩ = some (.bool false) ∧ wr.cell? ⟨vb, 2, none⟩ = some (.int .i64 0) ∧ wr.cell? ⟨vb, 3, none⟩ = some (.string ⟨#[]⟩) ∧ wr.cell? ⟨vb, 4, none⟩ = some v4 ∧ wr.cell? ⟨vb, 5, none⟩ = some v5 :=
  ⟨blk_cell h.box 0, blk_cell h.box 1, blk_cell h.box 2, blk_cell h.box 3, blk_cell h.box 4, blk_cell h.box 5⟩
end
theorem infoInt : (Tryd.prog.info? 3).map (fun i => (i.zero, i.size, i.bytes)) = some (some (.int .i64 0), 1, 8) := by kernel_rfl
def list.T5 : Bool × List (List Nat × List Nat) := (true, [([], []), ([0], [0]), ([], []), ([], []), ([3], [3]), ([2, 4], [2, 4]), ([5], [5]), ([1, 6, 5], [1, 6]), ([0, 1, 2, 3, 4, 5, 6, 7], []), ([8, 7, 7, 0, 1, 2, 3, 4, 5, 6, 7], [7, 8])])
def list.B5 : List Nat := [0, 1, 0, 0, 8, 28, 60, 127, 255, 511]
theorem list.tab5 : rtab .any (opsOf Tryd.f50 5) = list.T5 := by kernel_rfl
theorem list.bits5 : waitsOk list.T5.2 list.B5 = true := by kernel_rfl
set_option maxHeartbeats 16000000 in
set_option maxRecDepth 100000 in
theorem list_step (w0 : World) (b : Nat) (s : ByteArray) (f : Nat) (hs : s.size ≤ 65536) (hV : ∀ g, g < f → VT w0 b s g) : LT w0 b s f := by
  intro deep fr p ok tv t w g hd hf
  have HVT := Aside0.mk hV
  clear hV
  have hst := LSt.start (f0 := 5) g g.rdr.1.2.1.size
  have hbw := hst.rdr.1
  have hh := here_walk w0 _ b s p tv hst.rdr.1 g.place hs
  have hok := here_ok (s.data.toList.drop p) p
  have hadv := here_adv (s.data.toList.drop p) p
  obtain ⟨res, hres⟩ : ∃ r, listF f deep fr (s.data.toList.drop p) p t = r := ⟨_, rfl⟩
  rw [hres]
  unfold listF at hres
  generalize here (s.data.toList.drop p) p = r at *
  cases r with
  | no pp ee =>
    have hw2 : Calls Tryd.prog 45 #[.pointer (some ⟨b, 0, none⟩)] _ fun e w' => e = halted (pp : Int) ee ∧ Below w0.heap.size w0 w' := hh
    have HRes := Aside0.mk (show R.no pp ee = res from hres)
    clear hh hok hadv hres
    go_enter Tryd.func50, Tryd.ntmps50
    go_wp2_with (go_at_call 45; refine hw2.mono ?_; rintro e w1 ⟨rfl, hB1⟩)
    rw [← HRes.out]
    exact ⟨rfl, rfl, hB1⟩
  | ok l q c =>
    have hlc := hok l q c rfl
    have hpq := hadv l q c rfl
    have hw2 : Calls Tryd.prog 45 #[.pointer (some ⟨b, 0, none⟩)] _ fun e w' => e = .returned (.int .u8 (c.toNat : Int)) ∧ l = s.data.toList.drop q ∧ q ≤ s.size ∧ At w0 b s (q : Int) tv w' ∧ KeepBut _ w' b none := hh
    clear hh hok hadv
    by_cases hq : l = s.data.toList.drop q ∧ q ≤ s.size
    rotate_left
    · have HQ := Aside0.mk hq
      clear hq hres
      go_enter Tryd.func50, Tryd.ntmps50
      go_wp2_with (go_at_call 45; refine hw2.mono ?_; rintro e w1 ⟨rfl, hl1, hq1, hA1, hk1⟩; exact absurd ⟨hl1, hq1⟩ HQ.out)
    obtain ⟨hlq, hqs⟩ := hq
    obtain ⟨hlt, htl⟩ := drop_tail hlc hlq
    have hw3 : Calls Tryd.prog 45 #[.pointer (some ⟨b, 0, none⟩)] _ fun e w' => e = .returned (.int .u8 (c.toNat : Int)) ∧ At w0 b s (q : Int) tv w' ∧ KeepBut _ w' b none := hw2.mono fun e w' h => ⟨h.1, h.2.2.2⟩
    clear hw2
    rw [R.bind_ok] at hres
    rw [htl] at hres
    rw [hlq] at hres
    clear hlc
    have hzq0 : (0 : Int) ≤ (q : Int) := by omega
    have hzq1 : (q : Int) ≤ 65536 := by omega
    have hcu := c.toNat_lt
    have hc93 : ((c.toNat : Int) == 93) = decide (c = 93) := byte_eq c 93
    obtain ⟨cn, hcn⟩ : ∃ cn : Int, (c.toNat : Int) = cn := ⟨_, rfl⟩
    rw [hcn] at hw3 hc93
    have hcn0 : 0 ≤ cn := by omega
    have hcn1 : cn < 256 := by omega
    by_cases h93 : c = 93
    · rw [if_pos h93] at hres
      have e93 : (cn == 93) = true := hc93.trans (decide_eq_true h93)
      unfold put at hres
      by_cases hbig : 8192 ≤ t.length
      · rw [if_pos hbig] at hres
        have HRes := Aside0.mk hres
        clear hres hc93 hcn hlq htl h93
        go_enter Tryd.func50, Tryd.ntmps50
        go_wp2_with (first
          | (go_at_call 45; refine hw3.mono ?_; rintro e w1 ⟨rfl, hA1, hk1⟩; have hL1 := hst.moved hA1 hk1; have hc1 := hA1.c1; have hf1 := hA1.fr 1; have hL2 := hL1.step; obtain ⟨hx0, hx1, hx2, hx3, hx4, hx5⟩ := hL2.cells)
          | (go_at_call 47; refine (hL2.put_no fr hbig).mono ?_; rintro e w3 ⟨rfl, hB3⟩))
        rw [← HRes.out]
        exact ⟨rfl, rfl, hB3⟩
      · rw [if_neg hbig] at hres
        have HRes := Aside0.mk hres
        clear hres hc93 hcn hlq htl h93
        go_enter Tryd.func50, Tryd.ntmps50
        go_wp2_with (first
          | (go_at_call 45; refine hw3.mono ?_; rintro e w1 ⟨rfl, hA1, hk1⟩; have hL1 := hst.moved hA1 hk1; have hc1 := hA1.c1; have hf1 := hA1.fr 1; have hL2 := hL1.step; obtain ⟨hx0, hx1, hx2, hx3, hx4, hx5⟩ := hL2.cells)
          | (go_at_call 47; refine (hL2.put_ok fr hbig).mono ?_; rintro e w3 ⟨rfl, hR3⟩))
        go_ret
        rw [← HRes.out]
        exact ⟨rfl, rfl, hlt, hR3⟩
    · rw [if_neg h93] at hres
      have e93 : (cn == 93) = false := hc93.trans (decide_eq_false h93)
      have HRes := Aside0.mk hres
      have HQ := Aside0.mk (show q ≤ s.size ∧ 2 * (s.size - q) + 1 < f from ⟨hqs, by omega⟩)
      clear hres hc93 hcn hlq htl h93 hlt
      go_enter Tryd.func50, Tryd.ntmps50
      go_wp2_with (go_at_call 45; refine hw3.mono ?_; rintro e w1 ⟨rfl, hA1, hk1⟩; have hL1 := hst.moved hA1 hk1)
      go_loopg [] f (fun kq wr => ∃ (q : Nat) (tv' v5 : Value) (kids : List Int) (t' : List S39), Aside0 (kq ≤ f ∧ q ≤ s.size ∧ 2 * (s.size - q) + 1 < kq ∧ kids.length ≤ q ∧ list kq deep fr kids (s.data.toList.drop q) q t' = res) ∧ LSt w0 w b w.heap.size s q ok tv 5 tv' (.slice none 0 0) v5 [] kids t' wr)
      case atStart => exact ⟨q, tv, .slice none 0 0, [], t, ⟨Nat.le_refl _, HQ.out.1, HQ.out.2, Nat.zero_le _, HRes.out⟩, hL1⟩
      case round =>
        clear hL1 hA1 hk1 HRes HQ hzq0 hzq1 hpq hw3 e93 hcn0 hcn1 hcu hst hbw hqs q
        obtain ⟨q, tv', v5, kids, t', HZ, hL⟩ := hrel
        obtain ⟨f1, hff⟩ : ∃ f1, gk = f1 + 1 := ⟨gk - 1, by have := HZ.out; omega⟩
        subst hff
        obtain ⟨A, c, rfl⟩ := own_slice hL.kids_
        have hkl : kids.length ≤ 65536 := by have := HZ.out; omega
        have hd0 : (0 : Int) ≤ (deep : Int) := by omega
        have hd1 : (deep : Int) ≤ 15 := by omega
        have hwd : wrap64 ((deep : Int) + 1) = (deep : Int) + 1 := by unfold wrap64; omega
        have hlst := HZ.out.2.2.2.2
        rw [list_succ] at hlst
        have hcv := fun (W : World) (h : LSt w0 w b w.heap.size s q ok tv 5 tv' (.slice none 0 0) (.slice A kids.length c) [] kids t' W) => HVT.out f1 (by have := HZ.out; omega) (deep + 1) q _ tv' t' W (h.given HZ.out.2.1) (by omega) (by have := HZ.out; omega)
        rw [show ((deep + 1 : Nat) : Int) = (deep : Int) + 1 from by omega] at hcv
        have hadv := (adv_all f1).1 (deep + 1) (s.data.toList.drop q) q t'
        generalize value f1 (deep + 1) (s.data.toList.drop q) q t' = rv at *
        have HCV := Aside0.mk hcv
        clear hcv
        cases rv with
        | no pp ee =>
          have HRes := Aside0.mk (show R.no pp ee = res from hlst)
          clear hlst hadv
          go_wp2_with fail
          refine start_ (n := 10) (S := fun w' => w'.cell? ⟨w.heap.size, 5, none⟩ = some (.slice A kids.length c)) (ds := [9]) #[false, false, false, false, false, false, false, false, false, false] (by kernel_rfl) rfl rfl (hL.drew.cells.2.2.2.2.2) (fun hHeld => ?_)
          refine with_tabW list.tab5 list.bits5 (fun HT_ HW_ => ?_)
          refine pure_ (i := 0) (N := some 23) (v := ?_) (a' := ?_) #[true, false, false, false, false, false, false, false, false, false] rfl rfl (any_of HT_.out (by kernel_rfl)) (fun _ _ _ h => h) (Or.inl ⟨by rfl, ?_⟩) ?_ ?_
          rotate_left
          · intro w'
            go_simp
            with_reducible rfl
          rotate_left
          · simp only [Act.put, List.setIfInBounds_toArray, List.set_cons_zero, List.set_cons_succ, i64_w, i32_w]
            rfl
          refine take_ (i := 1) (N := some 24) (v := ?_) (a' := ?_) #[true, true, false, false, false, false, false, false, false, false] rfl rfl (take_ofW HT_.out HW_.out (by kernel_rfl)) (fun _ _ _ h => h) (Or.inl ⟨by rfl, ?_⟩) hHeld ?_ ?_
          rotate_left
          · rintro w' s0
            go_simp
            with_reducible rfl
          rotate_left
          · simp only [Act.put, List.setIfInBounds_toArray, List.set_cons_zero, List.set_cons_succ, i64_w, i32_w]
            rfl
          refine pure_ (i := 2) (N := some 25) (v := ?_) (a' := ?_) #[true, true, true, false, false, false, false, false, false, false] rfl rfl (any_of HT_.out (by kernel_rfl)) (fun _ _ _ h => h) (Or.inl ⟨by rfl, ?_⟩) ?_ ?_
          rotate_left
          · intro w'
            go_simp
            with_reducible rfl
          rotate_left
          · simp only [Act.put, List.setIfInBounds_toArray, List.set_cons_zero, List.set_cons_succ, i64_w, i32_w]
            rfl
          refine pure_ (i := 3) (N := some 26) (v := ?_) (a' := ?_) #[true, true, true, true, false, false, false, false, false, false] rfl rfl (any_of HT_.out (by kernel_rfl)) (fun _ _ _ h => h) (Or.inl ⟨by rfl, ?_⟩) ?_ ?_
          rotate_left
          · intro w'
            go_simp
            with_reducible rfl
          rotate_left
          · simp only [Act.put, List.setIfInBounds_toArray, List.set_cons_zero, List.set_cons_succ, i64_w, i32_w]
            rfl
          refine pure_ (i := 4) (N := some 27) (v := (.int .i64 ((deep : Int) + 1))) (a' := ?_) #[true, true, true, true, true, false, false, false, false, false] rfl rfl (any_of HT_.out (by kernel_rfl)) (fun _ _ _ h => h) (Or.inl ⟨by rfl, ?_⟩) ?_ ?_
          · intro w'
            go_simp
            try (first | exact hwd | simp [hwd, i64_w] | rw [hwd])
          rotate_left
          · simp only [Act.put, List.setIfInBounds_toArray, List.set_cons_zero, List.set_cons_succ, i64_w, i32_w]
            rfl
          refine one_ (i := 5) (N := some 28) #[true, true, true, true, true, true, false, false, false, false] rfl rfl (one_of HT_.out (by kernel_rfl)) (by decide) (fun K hK => ?_)
          refine goesP_ Tryd.func33 (by kernel_rfl) rfl #[.pointer (some ⟨b, 0, none⟩), .int .i64 ((deep : Int) + 1)] (by rfl) rfl (by kernel_rfl) ?_
          refine (HCV.out _ hL.drew).mono ?_
          rintro e w4 ⟨rfl, hB4⟩
          refine ⟨_, rfl, ?_⟩
          clear hK K
          go_wp2
          rw [← HRes.out]
          exact ⟨rfl, rfl, hB4⟩
        | ok l1 p1 vv =>
          have hqp := hadv l1 p1 vv rfl
          clear hadv
          rw [R.bind_ok] at hlst
          have hcg : ∀ (W : World), LSt w0 w b w.heap.size s q ok tv 5 tv' (.slice none 0 0) (.slice A kids.length c) [] kids t' W → Calls Tryd.prog 33 #[.pointer (some ⟨b, 0, none⟩), .int .i64 ((deep : Int) + 1)] W fun e w' => e = .returned (.int .i64 vv.2) ∧ (l1 = s.data.toList.drop p1 ∧ p1 ≤ s.size) ∧ ∃ tv'', LSt w0 w b w.heap.size s p1 ok tv 5 tv'' (.slice none 0 0) (.slice A kids.length c) [] kids vv.1 w' := fun W h => (HCV.out W h).mono fun e w' he => ⟨he.1, ⟨he.2.1, he.2.2.1⟩, h.grewn he.2.2.2⟩
          by_cases hq1 : l1 = s.data.toList.drop p1 ∧ p1 ≤ s.size
          rotate_left
          · have HQ := Aside0.mk hq1
            have HCG := Aside0.mk hcg
            clear hq1 hlst hcg HCV
            go_wp2_with fail
            refine start_ (n := 10) (S := fun w' => w'.cell? ⟨w.heap.size, 5, none⟩ = some (.slice A kids.length c)) (ds := [9]) #[false, false, false, false, false, false, false, false, false, false] (by kernel_rfl) rfl rfl (hL.drew.cells.2.2.2.2.2) (fun hHeld => ?_)
            refine with_tabW list.tab5 list.bits5 (fun HT_ HW_ => ?_)
            refine pure_ (i := 0) (N := some 23) (v := ?_) (a' := ?_) #[true, false, false, false, false, false, false, false, false, false] rfl rfl (any_of HT_.out (by kernel_rfl)) (fun _ _ _ h => h) (Or.inl ⟨by rfl, ?_⟩) ?_ ?_
            rotate_left
            · intro w'
              go_simp
              with_reducible rfl
            rotate_left
            · simp only [Act.put, List.setIfInBounds_toArray, List.set_cons_zero, List.set_cons_succ, i64_w, i32_w]
              rfl
            refine take_ (i := 1) (N := some 24) (v := ?_) (a' := ?_) #[true, true, false, false, false, false, false, false, false, false] rfl rfl (take_ofW HT_.out HW_.out (by kernel_rfl)) (fun _ _ _ h => h) (Or.inl ⟨by rfl, ?_⟩) hHeld ?_ ?_
            rotate_left
            · rintro w' s0
              go_simp
              with_reducible rfl
            rotate_left
            · simp only [Act.put, List.setIfInBounds_toArray, List.set_cons_zero, List.set_cons_succ, i64_w, i32_w]
              rfl
            refine pure_ (i := 2) (N := some 25) (v := ?_) (a' := ?_) #[true, true, true, false, false, false, false, false, false, false] rfl rfl (any_of HT_.out (by kernel_rfl)) (fun _ _ _ h => h) (Or.inl ⟨by rfl, ?_⟩) ?_ ?_
            rotate_left
            · intro w'
              go_simp
              with_reducible rfl
            rotate_left
            · simp only [Act.put, List.setIfInBounds_toArray, List.set_cons_zero, List.set_cons_succ, i64_w, i32_w]
              rfl
            refine pure_ (i := 3) (N := some 26) (v := ?_) (a' := ?_) #[true, true, true, true, false, false, false, false, false, false] rfl rfl (any_of HT_.out (by kernel_rfl)) (fun _ _ _ h => h) (Or.inl ⟨by rfl, ?_⟩) ?_ ?_
            rotate_left
            · intro w'
              go_simp
              with_reducible rfl
            rotate_left
            · simp only [Act.put, List.setIfInBounds_toArray, List.set_cons_zero, List.set_cons_succ, i64_w, i32_w]
              rfl
            refine pure_ (i := 4) (N := some 27) (v := (.int .i64 ((deep : Int) + 1))) (a' := ?_) #[true, true, true, true, true, false, false, false, false, false] rfl rfl (any_of HT_.out (by kernel_rfl)) (fun _ _ _ h => h) (Or.inl ⟨by rfl, ?_⟩) ?_ ?_
            · intro w'
              go_simp
              try (first | exact hwd | simp [hwd, i64_w] | rw [hwd])
            rotate_left
            · simp only [Act.put, List.setIfInBounds_toArray, List.set_cons_zero, List.set_cons_succ, i64_w, i32_w]
              rfl
            refine one_ (i := 5) (N := some 28) #[true, true, true, true, true, true, false, false, false, false] rfl rfl (one_of HT_.out (by kernel_rfl)) (by decide) (fun K hK => ?_)
            refine goesP_ Tryd.func33 (by kernel_rfl) rfl #[.pointer (some ⟨b, 0, none⟩), .int .i64 ((deep : Int) + 1)] (by rfl) rfl (by kernel_rfl) ?_
            refine (HCG.out _ hL.drew).mono ?_
            rintro e w4 ⟨rfl, hl4, hL4⟩
            exact absurd hl4 HQ.out
          obtain ⟨hl1, hp1⟩ := hq1
          rw [hl1] at hlst
          have HCG := Aside0.mk hcg
          clear hcg HCV
          have hmw : ∀ (W : World) (tv2 : Value), At w0 b s (p1 : Int) tv2 W → Calls Tryd.prog 59 #[.pointer (some ⟨b, 0, none⟩), .int .u8 93] W (Ret w0 b s tv2 W (more 93 (s.data.toList.drop p1) p1) (fun d => .bool d)) := fun W tv2 h => more_walk w0 W b s p1 tv2 93 h hp1 hs
          have hadm := adv_more 93 (s.data.toList.drop p1) p1
          generalize more 93 (s.data.toList.drop p1) p1 = rm at *
          have HMW := Aside0.mk hmw
          clear hmw
          cases rm with
          | no pp ee =>
            have HRes := Aside0.mk (show R.no pp ee = res from hlst)
            clear hlst hadm hl1
            go_wp2_with fail
            refine start_ (n := 10) (S := fun w' => w'.cell? ⟨w.heap.size, 5, none⟩ = some (.slice A kids.length c)) (ds := [9]) #[false, false, false, false, false, false, false, false, false, false] (by kernel_rfl) rfl rfl (hL.drew.cells.2.2.2.2.2) (fun hHeld => ?_)
            refine with_tabW list.tab5 list.bits5 (fun HT_ HW_ => ?_)
            refine pure_ (i := 0) (N := some 23) (v := ?_) (a' := ?_) #[true, false, false, false, false, false, false, false, false, false] rfl rfl (any_of HT_.out (by kernel_rfl)) (fun _ _ _ h => h) (Or.inl ⟨by rfl, ?_⟩) ?_ ?_
            rotate_left
            · intro w'
              go_simp
              with_reducible rfl
            rotate_left
            · simp only [Act.put, List.setIfInBounds_toArray, List.set_cons_zero, List.set_cons_succ, i64_w, i32_w]
              rfl
            refine take_ (i := 1) (N := some 24) (v := ?_) (a' := ?_) #[true, true, false, false, false, false, false, false, false, false] rfl rfl (take_ofW HT_.out HW_.out (by kernel_rfl)) (fun _ _ _ h => h) (Or.inl ⟨by rfl, ?_⟩) hHeld ?_ ?_
            rotate_left
            · rintro w' s0
              go_simp
              with_reducible rfl
            rotate_left
            · simp only [Act.put, List.setIfInBounds_toArray, List.set_cons_zero, List.set_cons_succ, i64_w, i32_w]
              rfl
            refine pure_ (i := 2) (N := some 25) (v := ?_) (a' := ?_) #[true, true, true, false, false, false, false, false, false, false] rfl rfl (any_of HT_.out (by kernel_rfl)) (fun _ _ _ h => h) (Or.inl ⟨by rfl, ?_⟩) ?_ ?_
            rotate_left
            · intro w'
              go_simp
              with_reducible rfl
            rotate_left
            · simp only [Act.put, List.setIfInBounds_toArray, List.set_cons_zero, List.set_cons_succ, i64_w, i32_w]
              rfl
            refine pure_ (i := 3) (N := some 26) (v := ?_) (a' := ?_) #[true, true, true, true, false, false, false, false, false, false] rfl rfl (any_of HT_.out (by kernel_rfl)) (fun _ _ _ h => h) (Or.inl ⟨by rfl, ?_⟩) ?_ ?_
            rotate_left
            · intro w'
              go_simp
              with_reducible rfl
            rotate_left
            · simp only [Act.put, List.setIfInBounds_toArray, List.set_cons_zero, List.set_cons_succ, i64_w, i32_w]
              rfl
            refine pure_ (i := 4) (N := some 27) (v := (.int .i64 ((deep : Int) + 1))) (a' := ?_) #[true, true, true, true, true, false, false, false, false, false] rfl rfl (any_of HT_.out (by kernel_rfl)) (fun _ _ _ h => h) (Or.inl ⟨by rfl, ?_⟩) ?_ ?_
            · intro w'
              go_simp
              try (first | exact hwd | simp [hwd, i64_w] | rw [hwd])
            rotate_left
            · simp only [Act.put, List.setIfInBounds_toArray, List.set_cons_zero, List.set_cons_succ, i64_w, i32_w]
              rfl
            refine one_ (i := 5) (N := some 28) #[true, true, true, true, true, true, false, false, false, false] rfl rfl (one_of HT_.out (by kernel_rfl)) (by decide) (fun K hK => ?_)
            refine goes_ Tryd.func33 (by kernel_rfl) rfl #[.pointer (some ⟨b, 0, none⟩), .int .i64 ((deep : Int) + 1)] (by rfl) rfl rfl (by kernel_rfl) ?_
            refine (HCG.out _ hL.drew).mono ?_
            rintro e w4 ⟨rfl, -, tv2, hL4⟩
            refine ⟨_, rfl, ?_⟩
            refine hK.out _ _ hL4.cells.2.2.2.2.2 (fun hh => ?_)
            clear hK K
            refine one_ (i := 6) (N := some 29) #[true, true, true, true, true, true, true, false, false, false] rfl rfl (one_of HT_.out (by kernel_rfl)) (by decide) (fun K hK => ?_)
            refine value_ (v := .slice (some ⟨w4.heap.size, 0, none⟩) 1 1) (w1 := w4.alloc (.cells #[.int .i64 vv.2] 3)) (by rfl) rfl (by first | (go_simp; done) | (go_simp; rfl)) ?_
            refine hK.out _ _ ((hL4.below (below_alloc (Below.refl _ _) _)).cells.2.2.2.2.2) (fun hh => ?_)
            clear hK K
            refine one_ (i := 7) (N := some 30) #[true, true, true, true, true, true, true, true, false, false] rfl rfl (one_of HT_.out (by kernel_rfl)) (by decide) (fun K hK => ?_)
            refine Kd.R_append_step (Kd.int .i64) (w0 := w4) (W := w4) w.heap.size (by rfl) (.tmp 24) (.tmp 29) 37 3 _ 8 rfl Tryd.underlying37 infoInt rfl (by decide) (by decide) (.slice A kids.length c) kids vv.2 [.int .i64 vv.2] (fun _ => True) (fun _ => False) rfl rfl rfl (fun _ hk => hk.elim) (fun _ _ => trivial) (Kd.R_of_own hL4.kids_ (fun _ _ => trivial)) (Below.refl _ _) hL4.keep.1 (by omega) ?_
            intro v1 w5 hR1 hBl1 hg1 hat1
            obtain ⟨A', c', rfl⟩ := Kd.R_slice hR1
            have hL5 := hL4.kidded (Kd.own_of_R hR1) hg1 hat1
            have hll : (kids ++ [vv.2]).length = kids.length + 1 := by rw [List.length_append]; rfl
            rw [hll] at hL5 hat1
            have hbx5 := blk_grown hL4.box hg1 hL4.vb5
            have hfx5 := blk_frozen hbx5 5
            have hcx5 := blk_cell hbx5 5
            refine hK.out _ _ hcx5 (fun hh => ?_)
            clear hK K
            refine pure_ (i := 8) (N := some 31) (v := ?_) (a' := ?_) #[true, true, true, true, true, true, true, true, true, false] rfl rfl (any_of HT_.out (by kernel_rfl)) (fun _ _ _ h => h) (Or.inl ⟨by rfl, ?_⟩) ?_ ?_
            rotate_left
            · intro w'
              go_simp
              with_reducible rfl
            rotate_left
            · simp only [Act.put, List.setIfInBounds_toArray, List.set_cons_zero, List.set_cons_succ, i64_w, i32_w]
              rfl
            refine last_skip (i := 9) (w1 := w5.setCell ⟨w.heap.size, 5, none⟩ (.slice A' (kids.length + 1) c')) #[true, true, true, true, true, true, true, true, true, true] rfl rfl (one_of HT_.out (by kernel_rfl)) (by decide) rfl (by go_simp; try rfl) ?_
            refine done_ (done_of HT_.out (by kernel_rfl)) ?_
            go_wp2_with (go_at_call 59; refine (HMW.out _ _ hL5.rdr.1).mono ?_; rintro e w6 ⟨rfl, hB6⟩)
            rw [← HRes.out]
            exact ⟨rfl, rfl, hB6⟩
          | ok l2 p2 done =>
            have hpp := hadm l2 p2 done rfl
            clear hadm hl1
            rw [R.bind_ok] at hlst
            cases done with
            | true =>
              rw [if_pos rfl] at hlst
              unfold put at hlst
              by_cases hbig : 8192 ≤ vv.1.length
              · rw [if_pos hbig] at hlst
                have HRes := Aside0.mk hlst
                clear hlst
                go_wp2_with fail
                refine start_ (n := 10) (S := fun w' => w'.cell? ⟨w.heap.size, 5, none⟩ = some (.slice A kids.length c)) (ds := [9]) #[false, false, false, false, false, false, false, false, false, false] (by kernel_rfl) rfl rfl (hL.drew.cells.2.2.2.2.2) (fun hHeld => ?_)
                refine with_tabW list.tab5 list.bits5 (fun HT_ HW_ => ?_)
                refine pure_ (i := 0) (N := some 23) (v := ?_) (a' := ?_) #[true, false, false, false, false, false, false, false, false, false] rfl rfl (any_of HT_.out (by kernel_rfl)) (fun _ _ _ h => h) (Or.inl ⟨by rfl, ?_⟩) ?_ ?_
                rotate_left
                · intro w'
                  go_simp
                  with_reducible rfl
                rotate_left
                · simp only [Act.put, List.setIfInBounds_toArray, List.set_cons_zero, List.set_cons_succ, i64_w, i32_w]
                  rfl
                refine take_ (i := 1) (N := some 24) (v := ?_) (a' := ?_) #[true, true, false, false, false, false, false, false, false, false] rfl rfl (take_ofW HT_.out HW_.out (by kernel_rfl)) (fun _ _ _ h => h) (Or.inl ⟨by rfl, ?_⟩) hHeld ?_ ?_
                rotate_left
                · rintro w' s0
                  go_simp
                  with_reducible rfl
                rotate_left
                · simp only [Act.put, List.setIfInBounds_toArray, List.set_cons_zero, List.set_cons_succ, i64_w, i32_w]
                  rfl
                refine pure_ (i := 2) (N := some 25) (v := ?_) (a' := ?_) #[true, true, true, false, false, false, false, false, false, false] rfl rfl (any_of HT_.out (by kernel_rfl)) (fun _ _ _ h => h) (Or.inl ⟨by rfl, ?_⟩) ?_ ?_
                rotate_left
                · intro w'
                  go_simp
                  with_reducible rfl
                rotate_left
                · simp only [Act.put, List.setIfInBounds_toArray, List.set_cons_zero, List.set_cons_succ, i64_w, i32_w]
                  rfl
                refine pure_ (i := 3) (N := some 26) (v := ?_) (a' := ?_) #[true, true, true, true, false, false, false, false, false, false] rfl rfl (any_of HT_.out (by kernel_rfl)) (fun _ _ _ h => h) (Or.inl ⟨by rfl, ?_⟩) ?_ ?_
                rotate_left
                · intro w'
                  go_simp
                  with_reducible rfl
                rotate_left
                · simp only [Act.put, List.setIfInBounds_toArray, List.set_cons_zero, List.set_cons_succ, i64_w, i32_w]
                  rfl
                refine pure_ (i := 4) (N := some 27) (v := (.int .i64 ((deep : Int) + 1))) (a' := ?_) #[true, true, true, true, true, false, false, false, false, false] rfl rfl (any_of HT_.out (by kernel_rfl)) (fun _ _ _ h => h) (Or.inl ⟨by rfl, ?_⟩) ?_ ?_
                · intro w'
                  go_simp
                  try (first | exact hwd | simp [hwd, i64_w] | rw [hwd])
                rotate_left
                · simp only [Act.put, List.setIfInBounds_toArray, List.set_cons_zero, List.set_cons_succ, i64_w, i32_w]
                  rfl
                refine one_ (i := 5) (N := some 28) #[true, true, true, true, true, true, false, false, false, false] rfl rfl (one_of HT_.out (by kernel_rfl)) (by decide) (fun K hK => ?_)
                refine goes_ Tryd.func33 (by kernel_rfl) rfl #[.pointer (some ⟨b, 0, none⟩), .int .i64 ((deep : Int) + 1)] (by rfl) rfl rfl (by kernel_rfl) ?_
                refine (HCG.out _ hL.drew).mono ?_
                rintro e w4 ⟨rfl, -, tv2, hL4⟩
                refine ⟨_, rfl, ?_⟩
                refine hK.out _ _ hL4.cells.2.2.2.2.2 (fun hh => ?_)
                clear hK K
                refine one_ (i := 6) (N := some 29) #[true, true, true, true, true, true, true, false, false, false] rfl rfl (one_of HT_.out (by kernel_rfl)) (by decide) (fun K hK => ?_)
                refine value_ (v := .slice (some ⟨w4.heap.size, 0, none⟩) 1 1) (w1 := w4.alloc (.cells #[.int .i64 vv.2] 3)) (by rfl) rfl (by first | (go_simp; done) | (go_simp; rfl)) ?_
                refine hK.out _ _ ((hL4.below (below_alloc (Below.refl _ _) _)).cells.2.2.2.2.2) (fun hh => ?_)
                clear hK K
                refine one_ (i := 7) (N := some 30) #[true, true, true, true, true, true, true, true, false, false] rfl rfl (one_of HT_.out (by kernel_rfl)) (by decide) (fun K hK => ?_)
                refine Kd.R_append_step (Kd.int .i64) (w0 := w4) (W := w4) w.heap.size (by rfl) (.tmp 24) (.tmp 29) 37 3 _ 8 rfl Tryd.underlying37 infoInt rfl (by decide) (by decide) (.slice A kids.length c) kids vv.2 [.int .i64 vv.2] (fun _ => True) (fun _ => False) rfl rfl rfl (fun _ hk => hk.elim) (fun _ _ => trivial) (Kd.R_of_own hL4.kids_ (fun _ _ => trivial)) (Below.refl _ _) hL4.keep.1 (by omega) ?_
                intro v1 w5 hR1 hBl1 hg1 hat1
                obtain ⟨A', c', rfl⟩ := Kd.R_slice hR1
                have hL5 := hL4.kidded (Kd.own_of_R hR1) hg1 hat1
                have hll : (kids ++ [vv.2]).length = kids.length + 1 := by rw [List.length_append]; rfl
                rw [hll] at hL5 hat1
                have hbx5 := blk_grown hL4.box hg1 hL4.vb5
                have hfx5 := blk_frozen hbx5 5
                have hcx5 := blk_cell hbx5 5
                refine hK.out _ _ hcx5 (fun hh => ?_)
                clear hK K
                refine pure_ (i := 8) (N := some 31) (v := ?_) (a' := ?_) #[true, true, true, true, true, true, true, true, true, false] rfl rfl (any_of HT_.out (by kernel_rfl)) (fun _ _ _ h => h) (Or.inl ⟨by rfl, ?_⟩) ?_ ?_
                rotate_left
                · intro w'
                  go_simp
                  with_reducible rfl
                rotate_left
                · simp only [Act.put, List.setIfInBounds_toArray, List.set_cons_zero, List.set_cons_succ, i64_w, i32_w]
                  rfl
                refine last_skip (i := 9) (w1 := w5.setCell ⟨w.heap.size, 5, none⟩ (.slice A' (kids.length + 1) c')) #[true, true, true, true, true, true, true, true, true, true] rfl rfl (one_of HT_.out (by kernel_rfl)) (by decide) rfl (by go_simp; try rfl) ?_
                refine done_ (done_of HT_.out (by kernel_rfl)) ?_
                go_wp2_with (first
                  | (go_at_call 59; refine (HMW.out _ _ hL5.rdr.1).mono ?_; rintro e w6 ⟨rfl, hl2, hp2, hA6, hk6⟩; have HL2 := Aside0.mk (show l2 = s.data.toList.drop p2 ∧ p2 ≤ s.size from ⟨hl2, hp2⟩); clear hl2 hp2; have hL6 := hL5.moved hA6 hk6; obtain ⟨hx0, hx1, hx2, hx3, hx4, hx5⟩ := hL6.cells)
                  | (go_at_call 47; refine (hL6.put_no fr hbig).mono ?_; rintro e w7 ⟨rfl, hB7⟩))
                rw [← HRes.out]
                exact ⟨rfl, rfl, hB7⟩
              · rw [if_neg hbig] at hlst
                have HRes := Aside0.mk hlst
                clear hlst
                go_wp2_with fail
                refine start_ (n := 10) (S := fun w' => w'.cell? ⟨w.heap.size, 5, none⟩ = some (.slice A kids.length c)) (ds := [9]) #[false, false, false, false, false, false, false, false, false, false] (by kernel_rfl) rfl rfl (hL.drew.cells.2.2.2.2.2) (fun hHeld => ?_)
                refine with_tabW list.tab5 list.bits5 (fun HT_ HW_ => ?_)
                refine pure_ (i := 0) (N := some 23) (v := ?_) (a' := ?_) #[true, false, false, false, false, false, false, false, false, false] rfl rfl (any_of HT_.out (by kernel_rfl)) (fun _ _ _ h => h) (Or.inl ⟨by rfl, ?_⟩) ?_ ?_
                rotate_left
                · intro w'
                  go_simp
                  with_reducible rfl
                rotate_left
                · simp only [Act.put, List.setIfInBounds_toArray, List.set_cons_zero, List.set_cons_succ, i64_w, i32_w]
                  rfl
                refine take_ (i := 1) (N := some 24) (v := ?_) (a' := ?_) #[true, true, false, false, false, false, false, false, false, false] rfl rfl (take_ofW HT_.out HW_.out (by kernel_rfl)) (fun _ _ _ h => h) (Or.inl ⟨by rfl, ?_⟩) hHeld ?_ ?_
                rotate_left
                · rintro w' s0
                  go_simp
                  with_reducible rfl
                rotate_left
                · simp only [Act.put, List.setIfInBounds_toArray, List.set_cons_zero, List.set_cons_succ, i64_w, i32_w]
                  rfl
                refine pure_ (i := 2) (N := some 25) (v := ?_) (a' := ?_) #[true, true, true, false, false, false, false, false, false, false] rfl rfl (any_of HT_.out (by kernel_rfl)) (fun _ _ _ h => h) (Or.inl ⟨by rfl, ?_⟩) ?_ ?_
                rotate_left
                · intro w'
                  go_simp
                  with_reducible rfl
                rotate_left
                · simp only [Act.put, List.setIfInBounds_toArray, List.set_cons_zero, List.set_cons_succ, i64_w, i32_w]
                  rfl
                refine pure_ (i := 3) (N := some 26) (v := ?_) (a' := ?_) #[true, true, true, true, false, false, false, false, false, false] rfl rfl (any_of HT_.out (by kernel_rfl)) (fun _ _ _ h => h) (Or.inl ⟨by rfl, ?_⟩) ?_ ?_
                rotate_left
                · intro w'
                  go_simp
                  with_reducible rfl
                rotate_left
                · simp only [Act.put, List.setIfInBounds_toArray, List.set_cons_zero, List.set_cons_succ, i64_w, i32_w]
                  rfl
                refine pure_ (i := 4) (N := some 27) (v := (.int .i64 ((deep : Int) + 1))) (a' := ?_) #[true, true, true, true, true, false, false, false, false, false] rfl rfl (any_of HT_.out (by kernel_rfl)) (fun _ _ _ h => h) (Or.inl ⟨by rfl, ?_⟩) ?_ ?_
                · intro w'
                  go_simp
                  try (first | exact hwd | simp [hwd, i64_w] | rw [hwd])
                rotate_left
                · simp only [Act.put, List.setIfInBounds_toArray, List.set_cons_zero, List.set_cons_succ, i64_w, i32_w]
                  rfl
                refine one_ (i := 5) (N := some 28) #[true, true, true, true, true, true, false, false, false, false] rfl rfl (one_of HT_.out (by kernel_rfl)) (by decide) (fun K hK => ?_)
                refine goes_ Tryd.func33 (by kernel_rfl) rfl #[.pointer (some ⟨b, 0, none⟩), .int .i64 ((deep : Int) + 1)] (by rfl) rfl rfl (by kernel_rfl) ?_
                refine (HCG.out _ hL.drew).mono ?_
                rintro e w4 ⟨rfl, -, tv2, hL4⟩
                refine ⟨_, rfl, ?_⟩
                refine hK.out _ _ hL4.cells.2.2.2.2.2 (fun hh => ?_)
                clear hK K
                refine one_ (i := 6) (N := some 29) #[true, true, true, true, true, true, true, false, false, false] rfl rfl (one_of HT_.out (by kernel_rfl)) (by decide) (fun K hK => ?_)
                refine value_ (v := .slice (some ⟨w4.heap.size, 0, none⟩) 1 1) (w1 := w4.alloc (.cells #[.int .i64 vv.2] 3)) (by rfl) rfl (by first | (go_simp; done) | (go_simp; rfl)) ?_
                refine hK.out _ _ ((hL4.below (below_alloc (Below.refl _ _) _)).cells.2.2.2.2.2) (fun hh => ?_)
                clear hK K
                refine one_ (i := 7) (N := some 30) #[true, true, true, true, true, true, true, true, false, false] rfl rfl (one_of HT_.out (by kernel_rfl)) (by decide) (fun K hK => ?_)
                refine Kd.R_append_step (Kd.int .i64) (w0 := w4) (W := w4) w.heap.size (by rfl) (.tmp 24) (.tmp 29) 37 3 _ 8 rfl Tryd.underlying37 infoInt rfl (by decide) (by decide) (.slice A kids.length c) kids vv.2 [.int .i64 vv.2] (fun _ => True) (fun _ => False) rfl rfl rfl (fun _ hk => hk.elim) (fun _ _ => trivial) (Kd.R_of_own hL4.kids_ (fun _ _ => trivial)) (Below.refl _ _) hL4.keep.1 (by omega) ?_
                intro v1 w5 hR1 hBl1 hg1 hat1
                obtain ⟨A', c', rfl⟩ := Kd.R_slice hR1
                have hL5 := hL4.kidded (Kd.own_of_R hR1) hg1 hat1
                have hll : (kids ++ [vv.2]).length = kids.length + 1 := by rw [List.length_append]; rfl
                rw [hll] at hL5 hat1
                have hbx5 := blk_grown hL4.box hg1 hL4.vb5
                have hfx5 := blk_frozen hbx5 5
                have hcx5 := blk_cell hbx5 5
                refine hK.out _ _ hcx5 (fun hh => ?_)
                clear hK K
                refine pure_ (i := 8) (N := some 31) (v := ?_) (a' := ?_) #[true, true, true, true, true, true, true, true, true, false] rfl rfl (any_of HT_.out (by kernel_rfl)) (fun _ _ _ h => h) (Or.inl ⟨by rfl, ?_⟩) ?_ ?_
                rotate_left
                · intro w'
                  go_simp
                  with_reducible rfl
                rotate_left
                · simp only [Act.put, List.setIfInBounds_toArray, List.set_cons_zero, List.set_cons_succ, i64_w, i32_w]
                  rfl
                refine last_skip (i := 9) (w1 := w5.setCell ⟨w.heap.size, 5, none⟩ (.slice A' (kids.length + 1) c')) #[true, true, true, true, true, true, true, true, true, true] rfl rfl (one_of HT_.out (by kernel_rfl)) (by decide) rfl (by go_simp; try rfl) ?_
                refine done_ (done_of HT_.out (by kernel_rfl)) ?_
                go_wp2_with (first
                  | (go_at_call 59; refine (HMW.out _ _ hL5.rdr.1).mono ?_; rintro e w6 ⟨rfl, hl2, hp2, hA6, hk6⟩; have HL2 := Aside0.mk (show l2 = s.data.toList.drop p2 ∧ p2 ≤ s.size from ⟨hl2, hp2⟩); clear hl2 hp2; have hL6 := hL5.moved hA6 hk6; obtain ⟨hx0, hx1, hx2, hx3, hx4, hx5⟩ := hL6.cells)
                  | (go_at_call 47; refine (hL6.put_ok fr hbig).mono ?_; rintro e w7 ⟨rfl, hR7⟩))
                go_ret
                rw [← HRes.out]
                exact ⟨rfl, HL2.out.1, HL2.out.2, hR7⟩
            | false =>
              rw [if_neg (by decide)] at hlst
              have HRes := Aside0.mk hlst
              clear hlst
              go_wp2_with fail
              refine start_ (n := 10) (S := fun w' => w'.cell? ⟨w.heap.size, 5, none⟩ = some (.slice A kids.length c)) (ds := [9]) #[false, false, false, false, false, false, false, false, false, false] (by kernel_rfl) rfl rfl (hL.drew.cells.2.2.2.2.2) (fun hHeld => ?_)
              refine with_tabW list.tab5 list.bits5 (fun HT_ HW_ => ?_)
              refine pure_ (i := 0) (N := some 23) (v := ?_) (a' := ?_) #[true, false, false, false, false, false, false, false, false, false] rfl rfl (any_of HT_.out (by kernel_rfl)) (fun _ _ _ h => h) (Or.inl ⟨by rfl, ?_⟩) ?_ ?_
              rotate_left
              · intro w'
                go_simp
                with_reducible rfl
              rotate_left
              · simp only [Act.put, List.setIfInBounds_toArray, List.set_cons_zero, List.set_cons_succ, i64_w, i32_w]
                rfl
              refine take_ (i := 1) (N := some 24) (v := ?_) (a' := ?_) #[true, true, false, false, false, false, false, false, false, false] rfl rfl (take_ofW HT_.out HW_.out (by kernel_rfl)) (fun _ _ _ h => h) (Or.inl ⟨by rfl, ?_⟩) hHeld ?_ ?_
              rotate_left
              · rintro w' s0
                go_simp
                with_reducible rfl
              rotate_left
              · simp only [Act.put, List.setIfInBounds_toArray, List.set_cons_zero, List.set_cons_succ, i64_w, i32_w]
                rfl
              refine pure_ (i := 2) (N := some 25) (v := ?_) (a' := ?_) #[true, true, true, false, false, false, false, false, false, false] rfl rfl (any_of HT_.out (by kernel_rfl)) (fun _ _ _ h => h) (Or.inl ⟨by rfl, ?_⟩) ?_ ?_
              rotate_left
              · intro w'
                go_simp
                with_reducible rfl
              rotate_left
              · simp only [Act.put, List.setIfInBounds_toArray, List.set_cons_zero, List.set_cons_succ, i64_w, i32_w]
                rfl
              refine pure_ (i := 3) (N := some 26) (v := ?_) (a' := ?_) #[true, true, true, true, false, false, false, false, false, false] rfl rfl (any_of HT_.out (by kernel_rfl)) (fun _ _ _ h => h) (Or.inl ⟨by rfl, ?_⟩) ?_ ?_
              rotate_left
              · intro w'
                go_simp
                with_reducible rfl
              rotate_left
              · simp only [Act.put, List.setIfInBounds_toArray, List.set_cons_zero, List.set_cons_succ, i64_w, i32_w]
                rfl
              refine pure_ (i := 4) (N := some 27) (v := (.int .i64 ((deep : Int) + 1))) (a' := ?_) #[true, true, true, true, true, false, false, false, false, false] rfl rfl (any_of HT_.out (by kernel_rfl)) (fun _ _ _ h => h) (Or.inl ⟨by rfl, ?_⟩) ?_ ?_
              · intro w'
                go_simp
                try (first | exact hwd | simp [hwd, i64_w] | rw [hwd])
              rotate_left
              · simp only [Act.put, List.setIfInBounds_toArray, List.set_cons_zero, List.set_cons_succ, i64_w, i32_w]
                rfl
              refine one_ (i := 5) (N := some 28) #[true, true, true, true, true, true, false, false, false, false] rfl rfl (one_of HT_.out (by kernel_rfl)) (by decide) (fun K hK => ?_)
              refine goes_ Tryd.func33 (by kernel_rfl) rfl #[.pointer (some ⟨b, 0, none⟩), .int .i64 ((deep : Int) + 1)] (by rfl) rfl rfl (by kernel_rfl) ?_
              refine (HCG.out _ hL.drew).mono ?_
              rintro e w4 ⟨rfl, -, tv2, hL4⟩
              refine ⟨_, rfl, ?_⟩
              refine hK.out _ _ hL4.cells.2.2.2.2.2 (fun hh => ?_)
              clear hK K
              refine one_ (i := 6) (N := some 29) #[true, true, true, true, true, true, true, false, false, false] rfl rfl (one_of HT_.out (by kernel_rfl)) (by decide) (fun K hK => ?_)
              refine value_ (v := .slice (some ⟨w4.heap.size, 0, none⟩) 1 1) (w1 := w4.alloc (.cells #[.int .i64 vv.2] 3)) (by rfl) rfl (by first | (go_simp; done) | (go_simp; rfl)) ?_
              refine hK.out _ _ ((hL4.below (below_alloc (Below.refl _ _) _)).cells.2.2.2.2.2) (fun hh => ?_)
              clear hK K
              refine one_ (i := 7) (N := some 30) #[true, true, true, true, true, true, true, true, false, false] rfl rfl (one_of HT_.out (by kernel_rfl)) (by decide) (fun K hK => ?_)
              refine Kd.R_append_step (Kd.int .i64) (w0 := w4) (W := w4) w.heap.size (by rfl) (.tmp 24) (.tmp 29) 37 3 _ 8 rfl Tryd.underlying37 infoInt rfl (by decide) (by decide) (.slice A kids.length c) kids vv.2 [.int .i64 vv.2] (fun _ => True) (fun _ => False) rfl rfl rfl (fun _ hk => hk.elim) (fun _ _ => trivial) (Kd.R_of_own hL4.kids_ (fun _ _ => trivial)) (Below.refl _ _) hL4.keep.1 (by omega) ?_
              intro v1 w5 hR1 hBl1 hg1 hat1
              obtain ⟨A', c', rfl⟩ := Kd.R_slice hR1
              have hL5 := hL4.kidded (Kd.own_of_R hR1) hg1 hat1
              have hll : (kids ++ [vv.2]).length = kids.length + 1 := by rw [List.length_append]; rfl
              rw [hll] at hL5 hat1
              have hbx5 := blk_grown hL4.box hg1 hL4.vb5
              have hfx5 := blk_frozen hbx5 5
              have hcx5 := blk_cell hbx5 5
              refine hK.out _ _ hcx5 (fun hh => ?_)
              clear hK K
              refine pure_ (i := 8) (N := some 31) (v := ?_) (a' := ?_) #[true, true, true, true, true, true, true, true, true, false] rfl rfl (any_of HT_.out (by kernel_rfl)) (fun _ _ _ h => h) (Or.inl ⟨by rfl, ?_⟩) ?_ ?_
              rotate_left
              · intro w'
                go_simp
                with_reducible rfl
              rotate_left
              · simp only [Act.put, List.setIfInBounds_toArray, List.set_cons_zero, List.set_cons_succ, i64_w, i32_w]
                rfl
              refine last_skip (i := 9) (w1 := w5.setCell ⟨w.heap.size, 5, none⟩ (.slice A' (kids.length + 1) c')) #[true, true, true, true, true, true, true, true, true, true] rfl rfl (one_of HT_.out (by kernel_rfl)) (by decide) rfl (by go_simp; try rfl) ?_
              refine done_ (done_of HT_.out (by kernel_rfl)) ?_
              go_wp2_with (go_at_call 59; refine (HMW.out _ _ hL5.rdr.1).mono ?_; rintro e w6 ⟨rfl, hl2, hp2, hA6, hk6⟩; have HL2 := Aside0.mk (show l2 = s.data.toList.drop p2 ∧ p2 ≤ s.size from ⟨hl2, hp2⟩); clear hl2 hp2; have hL6 := hL5.moved hA6 hk6; obtain ⟨hx0, hx1, hx2, hx3, hx4, hx5⟩ := hL6.cells)
              go_roundg f1
              case measure => exact Nat.lt_succ_self _
              case rel => exact ⟨p2, tv2, _, kids ++ [vv.2], vv.1, ⟨by have := HZ.out; omega, HL2.out.2, by have := HZ.out; have := HL2.out; omega, by rw [hll]; have := HZ.out; omega, by rw [← HL2.out.1]; exact HRes.out⟩, hL6⟩
end Go.Proofs.YtldlkoncndlbhaaDoor.Js
