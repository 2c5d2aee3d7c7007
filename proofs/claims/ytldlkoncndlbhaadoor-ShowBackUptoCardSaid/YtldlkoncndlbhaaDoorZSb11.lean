/- YtldlkoncndlbhaaDoorZSb11: texts of the seat (Reader7), one behind the other, without what this claim's theorem does not rest on. -/
import Derived.Test.YtldlkoncndlbhaaDoorZSb10
import Derived.Lib.MapLaws
import Derived.Lib.RuneCount
import Derived.Lib.AppendStr

set_option linter.unusedVariables false
set_option linter.unusedSimpArgs false
namespace Go.Proofs.YtldlkoncndlbhaaDoor.Js
open Go.RowKit Go.Lib Go.Proofs.YtldlkoncndlbhaaDoor.PSh Go.Proofs.YtldlkoncndlbhaaDoorW.PrintWords Go.Proofs.YtldlkoncndlbhaaDoorW.PrintLast Go.Proofs.YtldlkoncndlbhaaDoorW.PrintMore
theorem infoByte : (Tryd.prog.info? 5).map (fun i => (i.zero, i.size, i.bytes)) = some (some (.int .u8 0), 1, 1) := by kernel_rfl
/-- Bytes that the call has collected. -/
def OutRow (w1 : World) (v : Value) (out : List UInt8) (w : World) : Prop := w.ownsRow w1.heap.size 5 1 v out.length (byteCells out)
theorem byteCells_append (a b : List UInt8) : byteCells (a ++ b) = byteCells a ++ byteCells b := by unfold byteCells; exact List.map_append
/-- What is so in each round. -/
def Rnd (w0 w1 : World) (b : Nat) (s : ByteArray) (z : Int) (tv : Value) (v : Value) (out : List UInt8) (w : World) : Prop := At w0 b s z tv w ∧ KeepBut w1 w b none ∧ OutRow w1 v out w ∧ b < w1.heap.size ∧ w0.heap.size ≤ w1.heap.size
section
variable {w0 w1 w w' : World} {b : Nat} {s : ByteArray} {z : Int} {tv v v' : Value} {out out' : List UInt8}
theorem Rnd.below (h : Rnd w0 w1 b s z tv v out w) (hb : Below w.heap.size w w') : Rnd w0 w1 b s z tv v out w' :=
  ⟨h.1.below hb, h.2.1.trans (KeepBut.of_below hb b none) (.inl rfl), own_move h.2.2.1 (fun k hk => hb.block k (own_lt h.2.2.1 k hk)), h.2.2.2⟩
theorem Rnd.drewN (h : Rnd w0 w1 b s z tv v out w) (n : Nat) : Rnd w0 w1 b s z tv v out (w.drewN n) := h.below (pw_below_drewN (Below.refl _ _) n)
theorem Rnd.drew (h : Rnd w0 w1 b s z tv v out w) : Rnd w0 w1 b s z tv v out w.drew := h.below (below_drew (Below.refl _ _))
theorem Rnd.far (h : Rnd w0 w1 b s z tv v out w) : ∀ k, v.ownBlock = some k → w1.heap.size ≤ k := fun k hk => own_base h.2.2.1 k hk
theorem Rnd.set1 (h : Rnd w0 w1 b s z tv v out w) (z' : Int) : Rnd w0 w1 b s z' tv v out (w.setCell ⟨b, 1, none⟩ (.int .i64 z')) :=
  ⟨h.1.set1 _, h.2.1.set_ _ _, own_move h.2.2.1 (fun k hk => Below.heap_setCell _ _ _ _ (fun e => by have := h.far k hk; have := h.2.2.2.1; have e2 : k = b := e; omega)), h.2.2.2⟩
/-- Another call has moved the reader alone. -/
theorem Rnd.moved {z' : Int} (h : Rnd w0 w1 b s z tv v out w) (hA : At w0 b s z' tv w') (hk : KeepBut w w' b none) : Rnd w0 w1 b s z' tv v out w' :=
  ⟨hA, h.2.1.trans hk (.inl rfl), own_move h.2.2.1 (fun k hk' => hk.2 k (own_lt h.2.2.1 k hk') (fun e => by have := h.far k hk'; have := h.2.2.2.1; omega) (by simp)), h.2.2.2⟩
theorem At.grown {row : Option Nat} (h : At w0 b s z tv w) (hg : w.grownBy w' row) (hne : ∀ g, row = some g → g ≠ b ∧ w0.heap.size ≤ g) : At w0 b s z tv w' :=
  ⟨h.1, h.2.1.grown hg h.2.1.size (fun k hk => (hne k hk).2), blk_grown h.2.2 hg (fun e => (hne b e.symm).1 rfl)⟩
/-- The row has been appended to. -/
theorem Rnd.grown (h : Rnd w0 w1 b s z tv v out w) (hg : w.grownBy w' v.ownBlock) (ho : OutRow w1 v' out' w') : Rnd w0 w1 b s z tv v' out' w' := by
  have hf := h.far
  refine ⟨h.1.grown hg (fun g hg' => ⟨by have := hf g hg'; have := h.2.2.2.1; omega, by have := hf g hg'; have := h.2.2.2.2; omega⟩), ⟨Nat.le_trans h.2.1.1 hg.size, fun i hi hib hr => ?_⟩, ho, h.2.2.2⟩
  rw [hg.block i (Nat.lt_of_lt_of_le hi h.2.1.1) (fun e => by have := hf i e.symm; omega)]
  exact h.2.1.2 i hi hib hr
theorem strOfNums_bytes (t : List UInt8) : strOfNums (t.map fun b => (b.toNat : Int)) = ⟨t.toArray⟩ := by
  unfold strOfNums
  rw [List.map_map]
  have : (fun n : Int => UInt8.ofNat n.toNat) ∘ (fun b : UInt8 => (b.toNat : Int)) = id := by
    funext b
    simp
  rw [this, List.map_id]
/-- The row as a string. -/
theorem Rnd.string (h : Rnd w0 w1 b s z tv v out w) (hm : out.length ≤ 140737488355328) : (convert 30 9 v).run Tryd.prog w = .ok (.string ⟨out.toArray⟩) w := by
  have hl : (out.map fun b => (b.toNat : Int)).length = out.length := List.length_map _
  have key : ∃ A c, v = .slice A out.length c ∧ ReadsInt w .u8 A out.length (out.map fun b => (b.toNat : Int)) := by
    rcases Nat.eq_zero_or_pos out.length with h0 | h0
    · rcases h.2.2.1.2 with ⟨rfl, _⟩ | ⟨g, cap, cur, rfl, _⟩
      · exact ⟨none, 0, by rw [h0], hl, by omega, fun e => by omega⟩
      · exact ⟨_, _, rfl, hl, by omega, fun e => by omega⟩
    · obtain ⟨g, cap, rfl, _, _⟩ := World.ownsRow.form h.2.2.1 h0
      have hc := World.ownsRow.cells h.2.2.1 (g := g) rfl
      refine ⟨_, _, rfl, hl, by omega, fun _ => ⟨⟨g, 0, none⟩, rfl, fun j hj => ?_⟩⟩
      refine hc j _ ?_
      unfold byteCells
      rw [List.getElem?_map, List.getD_eq_getElem?_getD, List.getElem?_map, List.getElem?_eq_getElem hj]
      rfl
  obtain ⟨A, c, rfl, hr⟩ := key
  have := string_of_reads (P := Tryd.prog) (src := 30) (dst := 9) (e := 5) (c := c) Tryd.underlying30 Tryd.underlying5 Tryd.underlying9 hr
  rw [this, strOfNums_bytes]
/-- append(out, a string...). -/
theorem str_step {ops : Array Oper} {ol : Oper} {a : Act} {Q : Exit → Act → World → Prop} {K : Act → World → Prop} (hgd : ol.guard = none) (sl x : Operand) (ho : ol.op = .call { callee := .builtin .append, args := #[sl, x], argTypes := #[30, 9] })
    (h : Rnd w0 w1 b s z tv v out w) (t : ByteArray) (hs : a.eval sl = v) (hx : a.eval x = .string t) (hlen : out.length + t.size ≤ 140737488355328)
    (hk : ∀ v2 w2, Rnd w0 w1 b s z tv v2 (out ++ t.data.toList) w2 → K (a.put ol.dst v2) w2) :
    if Region.wanted ol (yielded ops a.tmps) = true then Oper.wp Tryd.prog ol a w K Q else K (a.put ol.dst undef) w := by
  have hw : Region.wanted ol (yielded ops a.tmps) = true := by simp [Region.wanted, hgd]
  rw [if_pos hw]
  obtain ⟨i0, hi, hz0, hz1, hz2⟩ := info_parts infoByte
  obtain ⟨v2, w2, hr, hown, hg, _⟩ := run_append_own_string (P := Tryd.prog) w w1.heap.size 30 9 ol.type 5 i0 Tryd.underlying30 Tryd.underlying9 hi hz0 hz1 hz2 v out.length (byteCells out) h.2.2.1 t (by unfold maxLen; omega) hlen h.2.1.1
  unfold Oper.wp execOp
  simp only [ho, resolve, invoke, builtin, Sem.run_bind, Sem.run_pure, Result.andThen_ok, List.map_toArray, List.map_cons, List.map_nil, hs, hx, hr]
  have hl : t.data.toList.length = t.size := data_length t
  exact hk v2 w2 (h.grown hg (by unfold OutRow; rw [List.length_append, byteCells_append, hl]; exact hown))
end
theorem decGo_L (s : ByteArray) (q : Nat) (hq : q < s.size) : decodeGo (s.extract q s.size) = decodeL (s.data.toList.drop q) := by
  have e : s.extract q s.size = ⟨(s.data.toList.drop q).toArray⟩ := by
    apply ByteArray.ext
    rw [← Array.toList_inj, ByteArray.data_extract, Array.toList_extract, List.extract_eq_take_drop]
    rw [List.take_of_length_le (by rw [List.length_drop, data_length]; exact Nat.le_refl _)]
  unfold decodeGo decodeL
  rw [if_neg (by rw [ByteArray.size_extract]; omega), e]
theorem decL_pos (l : List UInt8) (h : l ≠ []) : 1 ≤ (decodeL l).2 := decode_width_pos ⟨l.toArray⟩ 0 (by show 0 < l.toArray.size; rw [List.size_toArray]; exact List.length_pos_iff.2 h)
theorem decL_fst (l : List UInt8) : (decodeL l).1 ≤ 1114111 := by
  rw [decodeL_N]
  have k0 := (l.getD 0 0).toNat_lt
  have k1 := (l.getD 1 0).toNat_lt
  have k2 := (l.getD 2 0).toNat_lt
  have k3 := (l.getD 3 0).toNat_lt
  unfold decodeN
  repeat' split
  all_goals (dsimp only; omega)
theorem escape_lt (l : List UInt8) (p : Nat) (l' : List UInt8) (p' m : Nat) (h : escape l p = .ok l' p' m) : m ≤ 1114111 := by
  unfold escape at h
  have h1 := half_lt l p p
  generalize half l p p = r at *
  cases r with
  | no pp ee => cases h
  | ok l1 p1 n =>
    have hn := h1 l1 p1 n rfl
    rw [R.bind_ok] at h
    split at h
    · cases h
    · split at h
      · cases h; omega
      · split at h
        · have h2 := half_lt l1 p1 p
          generalize half l1 p1 p = r2 at *
          cases r2 with
          | no pp ee => cases h
          | ok l2 p2 m2 =>
            have hm := h2 l2 p2 m2 rfl
            rw [R.bind_ok] at h
            split at h
            · cases h
            · cases h; omega
        · cases h
theorem hex_adv : ∀ (k : Nat) (l : List UInt8) (p fr n : Nat) (l' : List UInt8) (p' m : Nat), hex k l p fr n = .ok l' p' m → p' = p + k
  | 0, l, p, fr, n, l', p', m, h => by rw [hex_zero] at h; cases h; rfl
  | k + 1, [], p, fr, n, l', p', m, h => by rw [hex_end] at h; cases h
  | k + 1, c :: r, p, fr, n, l', p', m, h => by
    cases hd : digit c with
    | none => rw [hex_bad _ _ _ _ _ _ hd] at h; cases h
    | some d =>
      rw [hex_good _ _ _ _ _ _ _ hd] at h
      have := hex_adv k r (p + 1) fr (16 * n + d) l' p' m h
      omega
theorem half_adv (l : List UInt8) (p fr : Nat) (l' : List UInt8) (p' m : Nat) (h : half l p fr = .ok l' p' m) : p + 2 ≤ p' := by
  match l, h with
  | [], h => cases h
  | [_], h => cases h
  | x :: c :: r, h =>
    cases hm : mark c with
    | some n => rw [half_two _ _ _ _ _ _ hm] at h; cases h; exact Nat.le_refl _
    | none =>
      rw [half_none _ _ _ _ _ hm] at h
      split at h
      · have := hex_adv 4 _ _ _ _ _ _ _ h; omega
      · cases h
theorem escape_adv (l : List UInt8) (p : Nat) (l' : List UInt8) (p' m : Nat) (h : escape l p = .ok l' p' m) : p + 2 ≤ p' := by
  unfold escape at h
  have h1 := half_adv l p p
  generalize half l p p = r at *
  cases r with
  | no pp ee => cases h
  | ok l1 p1 n =>
    have hn := h1 l1 p1 n rfl
    rw [R.bind_ok] at h
    split at h
    · cases h
    · split at h
      · cases h; exact hn
      · split at h
        · have h2 := half_adv l1 p1 p
          generalize half l1 p1 p = r2 at *
          cases r2 with
          | no pp ee => cases h
          | ok l2 p2 m2 =>
            have hm := h2 l2 p2 m2 rfl
            rw [R.bind_ok] at h
            split at h
            · cases h
            · cases h; omega
        · cases h
theorem textGo_nil (f p : Nat) (out : List UInt8) : textGo (f + 1) [] p out = .no p 21 := rfl
theorem textGo_cons (f : Nat) (c : UInt8) (r : List UInt8) (p : Nat) (out : List UInt8) : textGo (f + 1) (c :: r) p out =
    if c = 34 then .ok r (p + 1) out
    else if c.toNat < 32 then .no p 22
    else if c = 92 then (escape (c :: r) p).bind fun l1 p1 n => textGo f l1 p1 (out ++ encodeRune n)
    else if decodeL (c :: r) = (65533, 1) then .no p 23
    else textGo f ((c :: r).drop (decodeL (c :: r)).2) (p + (decodeL (c :: r)).2) (out ++ (c :: r).take (decodeL (c :: r)).2) := rfl
def text.T6 : Bool × List (List Nat × List Nat) := (true, [([], []), ([0], [0]), ([1], [1]), ([2], [2]), ([], []), ([4], [4]), ([5], [5]), ([6], [6]), ([3, 7], [3, 7]), ([8], [8]), ([9], [9]), ([10], [10]), ([10], [10]), ([11, 9, 0, 1, 2, 3, 4, 5, 6, 7, 8, 9, 10, 11], [11]), ([12, 13, 0, 1, 2, 3, 4, 5, 6, 7, 8, 9, 10, 11, 12, 13], [12])])
def text.B6 : List Nat := [0, 1, 3, 7, 0, 16, 48, 112, 255, 511, 1023, 2047, 2047, 4095, 16383]
theorem text.tab6 : rtab .any (opsOf Tryd.f48 6) = text.T6 := by kernel_rfl
theorem text.bits6 : waitsOk text.T6.2 text.B6 = true := by kernel_rfl
def text.T9 : Bool × List (List Nat × List Nat) := (true, [([], []), ([], []), ([1], [1]), ([2], [2]), ([3], [3]), ([], []), ([5], [5]), ([6], [6]), ([7], [7]), ([], []), ([9], [9]), ([10], [10]), ([11], [11]), ([], []), ([12, 13], [12, 13]), ([4, 8, 14], [4, 8, 14]), ([0, 15], [0, 15]), ([16, 16, 0, 1, 2, 3, 4, 5, 6, 7, 8, 9, 10, 11, 12, 13, 14, 15, 16], [0, 16])])
def text.B9 : List Nat := [0, 0, 2, 6, 14, 0, 32, 96, 224, 0, 512, 1536, 3584, 0, 15872, 32766, 65535, 131071]
theorem text.tab9 : rtab .any (opsOf Tryd.f48 9) = text.T9 := by kernel_rfl
theorem text.bits9 : waitsOk text.T9.2 text.B9 = true := by kernel_rfl
set_option maxHeartbeats 16000000 in
set_option maxRecDepth 100000 in
theorem text_walk (w0 w : World) (b : Nat) (s : ByteArray) (p : Nat) (tv : Value) (hG : Aside0 (Glob w0)) (hA : At w0 b s (p : Int) tv w) (hp : p < s.size) (hs : s.size ≤ 65536) :
    Calls Tryd.prog 48 #[.pointer (some ⟨b, 0, none⟩)] w (Ret w0 b s tv w (text (s.data.toList.drop (p + 1)) (p + 1)) (fun t => .string ⟨t.toArray⟩)) := by
  obtain ⟨res, hres⟩ : ∃ r, text (s.data.toList.drop (p + 1)) (p + 1) = r := ⟨_, rfl⟩
  rw [hres]
  have HRes := Aside0.mk hres
  clear hres
  obtain ⟨z, hz⟩ : ∃ z : Int, z = p := ⟨_, rfl⟩
  have HZ := Aside0.mk hz
  replace hA := hA.cast hz.symm
  have hz0 : 0 ≤ z := by omega
  have hz1 : z ≤ 65536 := by omega
  clear hz
  have hc1 := hA.c1
  have hf1 := hA.fr 1
  have hbl := hA.lt
  have hbs := hA.2.1.size
  have hR : Rnd w0 w b s (z + 1) tv (.slice none 0 0) [] (w.setCell ⟨b, 1, none⟩ (.int .i64 (z + 1))) := ⟨hA.set1 _, (KeepBut.refl _ _ _).set_ _ _, World.ownsRow_nil _ _ _ _, hbl, hbs⟩
  go_enter Tryd.func48, Tryd.ntmps48
  go_wp2
  go_loopg [3] (s.size - (p + 1)) (fun kq k3 wr => ∃ (f q : Nat) (z : Int) (out : List UInt8), Aside0 (z = q ∧ q ≤ s.size ∧ kq = s.size - q ∧ s.size - q < f ∧ out.length ≤ 4 * q ∧ textGo f (s.data.toList.drop q) q out = res) ∧ Rnd w0 w b s z tv k3 out wr)
  case atStart => exact ⟨(s.data.toList.drop (p + 1)).length + 1, p + 1, z + 1, [], ⟨by have := HZ.out; omega, hp, rfl, by rw [List.length_drop, data_length]; omega, by simp, HRes.out⟩, hR⟩
  case round =>
    clear hA hc1 hf1 hR HRes HZ hz0 hz1
    obtain ⟨f, q, z, out, HZ, hR⟩ := hrel
    have hc0 := hR.1.c0
    have hc1 := hR.1.c1
    have hf1 := hR.1.fr 1
    have hz0 : 0 ≤ z := by have := HZ.out.1; omega
    have hz1 : z ≤ 65536 := by have := HZ.out; omega
    have p4 : (0 ≤ z) = True := eq_true hz0
    have hol : out.length ≤ 262144 := by have := HZ.out; omega
    obtain ⟨f, hff⟩ : ∃ f', f = f' + 1 := ⟨f - 1, by have := HZ.out; omega⟩
    subst hff
    obtain ⟨l, hl⟩ : ∃ l, s.data.toList.drop q = l := ⟨_, rfl⟩
    have hw := HZ.out.2.2.2.2.2
    rw [hl] at hw
    cases l with
    | nil =>
      have c2 : decide ((s.size : Int) ≤ z) = true := decide_eq_true (by have h1 := HZ.out; have h2 := drop_end (by omega) hl; omega)
      rw [textGo_nil] at hw
      have HW := Aside0.mk hw
      clear hl hw
      go_wp2
      go_quiet (fail)
      go_wp2_with (go_at_call 35; refine (fail_walk _ _ _).mono ?_; rintro e w2 ⟨rfl, rfl⟩)
      rw [← HW.out]
      exact ⟨rfl, by rw [← HZ.out.1], (hR.drewN _).1.2.1⟩
    | cons c r =>
      obtain ⟨hlt, hbt, hr⟩ := bt_head hl
      have c2 : decide ((s.size : Int) ≤ z) = false := decide_eq_false (by have h1 := HZ.out; omega)
      have q4 : (z < (s.size : Int)) = True := eq_true (by have h1 := HZ.out; omega)
      have hx := bt_at s z
      rw [← HZ.out.1] at hbt
      have hv0 : 0 ≤ bt s z ∧ bt s z < 256 := by have := c.toNat_lt; omega
      generalize hvv : bt s z = v at *
      obtain ⟨hv1, hv2⟩ := hv0
      have HB := Aside0.mk hbt
      have HL := Aside0.mk hl
      have HR := Aside0.mk hr
      rw [textGo_cons] at hw
      clear hbt hl hr hvv
      by_cases h34 : c = 34
      · rw [if_pos h34] at hw
        have HW := Aside0.mk hw
        have e1 : (v == 34) = true := by rw [HB.out, h34]; rfl
        have hcv := fun (n : Nat) => Rnd.string ((hR.drewN n).set1 (z + 1)) (by omega)
        clear hw h34
        go_wp2
        go_quiet (fail)
        go_wp2
        go_quiet (fail)
        go_wp2
        go_ret
        rw [← HW.out]
        have h5 := (hR.drewN 0).set1 (z + 1)
        exact ⟨rfl, HR.out.symm, hlt, ((hR.drewN _).set1 (z + 1)).1.cast (by have := HZ.out.1; omega), ((hR.drewN _).set1 (z + 1)).2.1⟩
      · rw [if_neg h34] at hw
        have e1 : (v == 34) = false := by rw [HB.out]; exact (byte_eq c 34).trans (decide_eq_false h34)
        by_cases h32 : c.toNat < 32
        · rw [if_pos h32] at hw
          have HW := Aside0.mk hw
          have e2 : decide (v < 32) = true := decide_eq_true (by have := HB.out; omega)
          clear hw h34 h32
          go_wp2
          go_quiet (fail)
          go_wp2
          go_quiet (fail)
          go_wp2_with (go_at_call 35; refine (fail_walk _ _ _).mono ?_; rintro e w2 ⟨rfl, rfl⟩)
          rw [← HW.out]
          exact ⟨rfl, by rw [← HZ.out.1], (hR.drewN _).1.2.1⟩
        · rw [if_neg h32] at hw
          have e2 : decide (v < 32) = false := decide_eq_false (by have := HB.out; omega)
          by_cases h92 : c = 92
          · rw [if_pos h92] at hw
            have e3 : (v == 92) = true := by rw [HB.out, h92]; rfl
            have hew := fun (w' : World) (h : At w0 b s z tv w') => escape_walk w0 w' b s q tv (h.cast HZ.out.1) (by omega) hs
            rw [HL.out] at hew
            have hel := escape_lt (c :: r) q
            have hadv := escape_adv (c :: r) q
            generalize escape (c :: r) q = re at *
            have HE := Aside0.mk hew
            cases re with
            | no pp ee =>
              have HW := Aside0.mk (show R.no pp ee = res from hw)
              clear hw h34 h32 h92 hew hel hadv
              go_wp2
              go_quiet (fail)
              go_wp2
              go_quiet (fail)
              go_wp2_with (go_at_call 56; refine (HE.out _ (hR.drewN _).1).mono ?_; rintro e w2 ⟨rfl, hB2⟩)
              rw [← HW.out]
              exact ⟨rfl, rfl, hB2⟩
            | ok l1 p1 n =>
              have hn := hel l1 p1 n rfl
              have hp1 := hadv l1 p1 n rfl
              rw [R.bind_ok] at hw
              have HW := Aside0.mk hw
              have hrl : (encodeRune (n : Int)).length ≤ 4 := by rw [← runeCells_length]; exact (runeCells_le _).2
              have HRL := Aside0.mk hrl
              have HA := Aside0.mk hp1
              have hap := fun (w' : World) (h : Rnd w0 w b s (p1 : Int) tv u3 out w') => Tryd.utf8_AppendRune_plain w.heap.size u3 out.length (byteCells out) (n : Int) (by omega) (by omega) w' h.2.2.1 (by omega) h.2.1.1
              have HAP := Aside0.mk hap
              clear hw h34 h32 h92 hew hel hadv hrl hp1 hap
              go_wp2
              go_quiet (fail)
              go_wp2
              go_quiet (fail)
              go_wp2_with (first
                | (go_at_call 56; refine (HE.out _ (hR.drewN _).1).mono ?_; rintro e w2 ⟨rfl, hl2, hq2, hA2, hk2⟩; have HL2 := Aside0.mk hl2; clear hl2; have hR2 := (hR.drewN _).moved hA2 hk2)
                | (go_at_call 44; refine (HAP.out _ hR2).mono ?_; rintro e w3 ⟨v3, rfl, ho3, ob, hg3⟩; have hR3 : Rnd w0 w b s (p1 : Int) tv v3 (out ++ encodeRune (n : Int)) w3 := (hR2.below (below_alloc (Below.refl _ _) ob)).grown hg3 (by unfold OutRow; rw [List.length_append, byteCells_append, byteCells_encodeRune, ← runeCells_length]; exact ho3)))
              go_roundg (s.size - p1)
              case measure => have := HZ.out; have := HA.out; omega
              case rel => exact ⟨f, p1, (p1 : Int), out ++ encodeRune (n : Int), ⟨rfl, hq2, rfl, by have := HZ.out; have := HA.out; omega, by rw [List.length_append]; have := HZ.out; have := HA.out; have := HRL.out; omega, by rw [← HL2.out]; exact HW.out⟩, hR3⟩
          · rw [if_neg h92] at hw
            have e3 : (v == 92) = false := by rw [HB.out]; exact (byte_eq c 92).trans (decide_eq_false h92)
            have hl1 := decL_pos (c :: r) (by simp)
            have hl2 := decodeL_le (c :: r) (by simp)
            have hl3 : (c :: r).length = s.size - q := by rw [← HL.out, List.length_drop, data_length]
            have hl4 := decL_fst (c :: r)
            have hdg := decGo_L s q hlt
            rw [HL.out] at hdg
            obtain ⟨nx, hnx⟩ : ∃ nx, (decodeL (c :: r)).1 = nx := ⟨_, rfl⟩
            obtain ⟨nn, hnn⟩ : ∃ nn, (decodeL (c :: r)).2 = nn := ⟨_, rfl⟩
            obtain ⟨zx, hzx⟩ : ∃ zx : Int, zx = nx := ⟨_, rfl⟩
            obtain ⟨zn, hzn⟩ : ∃ zn : Int, zn = nn := ⟨_, rfl⟩
            have hdec : ∀ w', Rnd w0 w b s z tv u3 out w' → Calls Tryd.prog 57 #[.string (s.extract z.toNat s.size)] w' fun e w'' => e = .returned (.tuple #[.int .i32 zx, .int .i64 zn]) ∧ Below w'.heap.size w' w'' := fun w' h => by
              have h1 := Tryd.utf8_DecodeRuneInString (s.extract q s.size) w' (hG.out.below h.1.2.1).2
              rw [hdg, hnx, hnn, ← hzx, ← hzn] at h1
              rw [show z.toNat = q by have := HZ.out.1; omega]
              exact h1
            have HDec := Aside0.mk hdec
            rw [hnn] at hl1 hl2
            rw [hnx] at hl4
            have hzn1 : 1 ≤ zn := by omega
            have hzn2 : z + zn ≤ (s.size : Int) := by have := HZ.out.1; omega
            have hzn3 : zn ≤ 65536 := by omega
            have hzx0 : 0 ≤ zx := by omega
            have hzx1 : zx ≤ 1114111 := by omega
            have p7 : (z ≤ (s.size : Int)) = True := eq_true (by omega)
            have hb : (zx == 65533) = decide (nx = 65533) := by rw [Bool.eq_iff_iff, beq_iff_eq, decide_eq_true_iff]; omega
            have hb1 : (zn == 1) = decide (nn = 1) := by rw [Bool.eq_iff_iff, beq_iff_eq, decide_eq_true_iff]; omega
            have hpair : decodeL (c :: r) = (nx, nn) := by rw [← hnx, ← hnn]
            rw [hpair] at hw
            by_cases hbad : (nx, nn) = ((65533, 1) : Nat × Nat)
            · rw [if_pos hbad] at hw
              have HW := Aside0.mk hw
              obtain ⟨e5, e6⟩ := Prod.mk.inj hbad
              rw [decide_eq_true e5] at hb
              rw [decide_eq_true e6] at hb1
              clear hw h34 h32 h92 hdg hnx hnn hzx hzn hdec hbad e5 e6 hpair
              go_wp2
              go_quiet (fail)
              go_wp2
              go_quiet (fail)
              go_wp2_with fail
              refine start_ (n := 15) (S := fun w' => w'.cell? ⟨b, 0, none⟩ = some (.string s) ∧ w'.cell? ⟨b, 1, none⟩ = some (.int .i64 z)) (ds := []) #[false, false, false, false, false, false, false, false, false, false, false, false, false, false, false] (by kernel_rfl) rfl rfl ⟨((hR.drewN _).drew).1.c0, ((hR.drewN _).drew).1.c1⟩ (fun hHeld => ?_)
              refine with_tabW text.tab6 text.bits6 (fun HT_ HW_ => ?_)
              refine pure_ (i := 0) (N := some 39) (v := ?_) (a' := ?_) #[true, false, false, false, false, false, false, false, false, false, false, false, false, false, false] rfl rfl (any_of HT_.out (by kernel_rfl)) (fun _ _ _ h => h) (Or.inl ⟨by rfl, ?_⟩) ?_ ?_
              rotate_left
              · intro w'
                go_simp
                with_reducible rfl
              rotate_left
              · simp only [Act.put, List.setIfInBounds_toArray, List.set_cons_zero, List.set_cons_succ, i64_w, i32_w]
                rfl
              refine pure_ (i := 1) (N := some 40) (v := ?_) (a' := ?_) #[true, true, false, false, false, false, false, false, false, false, false, false, false, false, false] rfl rfl (any_of HT_.out (by kernel_rfl)) (fun _ _ _ h => h) (Or.inl ⟨by rfl, ?_⟩) ?_ ?_
              rotate_left
              · intro w'
                go_simp
                with_reducible rfl
              rotate_left
              · simp only [Act.put, List.setIfInBounds_toArray, List.set_cons_zero, List.set_cons_succ, i64_w, i32_w]
                rfl
              refine pure_ (i := 2) (N := some 41) (v := ?_) (a' := ?_) #[true, true, true, false, false, false, false, false, false, false, false, false, false, false, false] rfl rfl (any_of HT_.out (by kernel_rfl)) (fun _ _ _ h => h) (Or.inl ⟨by rfl, ?_⟩) ?_ ?_
              rotate_left
              · intro w'
                go_simp
                with_reducible rfl
              rotate_left
              · simp only [Act.put, List.setIfInBounds_toArray, List.set_cons_zero, List.set_cons_succ, i64_w, i32_w]
                rfl
              refine take_ (i := 3) (N := some 42) (v := ?_) (a' := ?_) #[true, true, true, true, false, false, false, false, false, false, false, false, false, false, false] rfl rfl (take_ofW HT_.out HW_.out (by kernel_rfl)) (fun _ _ _ h => h) (Or.inl ⟨by rfl, ?_⟩) hHeld ?_ ?_
              rotate_left
              · rintro w' ⟨s0, s1⟩
                go_simp
                with_reducible rfl
              rotate_left
              · simp only [Act.put, List.setIfInBounds_toArray, List.set_cons_zero, List.set_cons_succ, i64_w, i32_w]
                rfl
              refine pure_ (i := 4) (N := some 43) (v := ?_) (a' := ?_) #[true, true, true, true, true, false, false, false, false, false, false, false, false, false, false] rfl rfl (any_of HT_.out (by kernel_rfl)) (fun _ _ _ h => h) (Or.inl ⟨by rfl, ?_⟩) ?_ ?_
              rotate_left
              · intro w'
                go_simp
                with_reducible rfl
              rotate_left
              · simp only [Act.put, List.setIfInBounds_toArray, List.set_cons_zero, List.set_cons_succ, i64_w, i32_w]
                rfl
              refine pure_ (i := 5) (N := some 44) (v := ?_) (a' := ?_) #[true, true, true, true, true, true, false, false, false, false, false, false, false, false, false] rfl rfl (any_of HT_.out (by kernel_rfl)) (fun _ _ _ h => h) (Or.inl ⟨by rfl, ?_⟩) ?_ ?_
              rotate_left
              · intro w'
                go_simp
                with_reducible rfl
              rotate_left
              · simp only [Act.put, List.setIfInBounds_toArray, List.set_cons_zero, List.set_cons_succ, i64_w, i32_w]
                rfl
              refine pure_ (i := 6) (N := some 45) (v := ?_) (a' := ?_) #[true, true, true, true, true, true, true, false, false, false, false, false, false, false, false] rfl rfl (any_of HT_.out (by kernel_rfl)) (fun _ _ _ h => h) (Or.inl ⟨by rfl, ?_⟩) ?_ ?_
              rotate_left
              · intro w'
                go_simp
                with_reducible rfl
              rotate_left
              · simp only [Act.put, List.setIfInBounds_toArray, List.set_cons_zero, List.set_cons_succ, i64_w, i32_w]
                rfl
              refine take_ (i := 7) (N := some 46) (v := ?_) (a' := ?_) #[true, true, true, true, true, true, true, true, false, false, false, false, false, false, false] rfl rfl (take_ofW HT_.out HW_.out (by kernel_rfl)) (fun _ _ _ h => h) (Or.inl ⟨by rfl, ?_⟩) hHeld ?_ ?_
              rotate_left
              · rintro w' ⟨s0, s1⟩
                go_simp
                with_reducible rfl
              rotate_left
              · simp only [Act.put, List.setIfInBounds_toArray, List.set_cons_zero, List.set_cons_succ, i64_w, i32_w]
                rfl
              refine pure_ (i := 8) (N := some 47) (v := ?_) (a' := ?_) #[true, true, true, true, true, true, true, true, true, false, false, false, false, false, false] rfl rfl (any_of HT_.out (by kernel_rfl)) (fun _ _ _ h => h) (Or.inl ⟨by rfl, ?_⟩) ?_ ?_
              rotate_left
              · intro w'
                go_simp
                with_reducible rfl
              rotate_left
              · simp only [Act.put, List.setIfInBounds_toArray, List.set_cons_zero, List.set_cons_succ, i64_w, i32_w]
                rfl
              refine one_ (i := 9) (N := some 48) #[true, true, true, true, true, true, true, true, true, true, false, false, false, false, false] rfl rfl (one_of HT_.out (by kernel_rfl)) (by decide) (fun K hK => ?_)
              refine goes_ Tryd.func57 (by kernel_rfl) rfl #[.string (s.extract z.toNat s.size)] (by rfl) rfl rfl (by kernel_rfl) ?_
              refine (HDec.out _ ((hR.drewN _).drew)).mono ?_
              rintro e w4 ⟨rfl, hb4⟩
              have hR4 := ((hR.drewN _).drew).below hb4
              refine ⟨_, rfl, ?_⟩
              refine hK.out _ _ ⟨hR4.1.c0, hR4.1.c1⟩ (fun hh => ?_)
              clear hK K
              refine pure_ (i := 10) (N := some 38) (v := ?_) (a' := ?_) #[true, true, true, true, true, true, true, true, true, true, true, false, false, false, false] rfl rfl (any_of HT_.out (by kernel_rfl)) (fun _ _ _ h => h) (Or.inl ⟨by rfl, ?_⟩) ?_ ?_
              rotate_left
              · intro w'
                go_simp
                with_reducible rfl
              rotate_left
              · simp only [Act.put, List.setIfInBounds_toArray, List.set_cons_zero, List.set_cons_succ, i64_w, i32_w]
                rfl
              refine pure_ (i := 11) (N := some 49) (v := ?_) (a' := ?_) #[true, true, true, true, true, true, true, true, true, true, true, true, false, false, false] rfl rfl (any_of HT_.out (by kernel_rfl)) (fun _ _ _ h => h) (Or.inl ⟨by rfl, ?_⟩) ?_ ?_
              rotate_left
              · intro w'
                go_simp
                with_reducible rfl
              rotate_left
              · simp only [Act.put, List.setIfInBounds_toArray, List.set_cons_zero, List.set_cons_succ, i64_w, i32_w]
                rfl
              refine pure_ (i := 12) (N := some 50) (v := ?_) (a' := ?_) #[true, true, true, true, true, true, true, true, true, true, true, true, true, false, false] rfl rfl (any_of HT_.out (by kernel_rfl)) (fun _ _ _ h => h) (Or.inl ⟨by rfl, ?_⟩) ?_ ?_
              rotate_left
              · intro w'
                go_simp
                with_reducible rfl
              rotate_left
              · simp only [Act.put, List.setIfInBounds_toArray, List.set_cons_zero, List.set_cons_succ, i64_w, i32_w]
                rfl
              refine pure_ (i := 13) (N := some 5) (v := ?_) (a' := ?_) #[true, true, true, true, true, true, true, true, true, true, true, true, true, true, false] rfl rfl (any_of HT_.out (by kernel_rfl)) (fun _ _ _ h => h) (Or.inl ⟨by rfl, ?_⟩) ?_ ?_
              rotate_left
              · intro w'
                go_simp
                with_reducible rfl
              rotate_left
              · simp only [Act.put, List.setIfInBounds_toArray, List.set_cons_zero, List.set_cons_succ, i64_w, i32_w]
                rfl
              refine pure_ (i := 14) (N := some 6) (v := ?_) (a' := ?_) #[true, true, true, true, true, true, true, true, true, true, true, true, true, true, true] rfl rfl (any_of HT_.out (by kernel_rfl)) (fun _ _ _ h => h) (Or.inl ⟨by rfl, ?_⟩) ?_ ?_
              rotate_left
              · intro w'
                go_simp
                with_reducible rfl
              rotate_left
              · simp only [Act.put, List.setIfInBounds_toArray, List.set_cons_zero, List.set_cons_succ, i64_w, i32_w]
                rfl
              refine done_ (done_of HT_.out (by kernel_rfl)) ?_
              go_wp2_with (go_at_call 35; refine (fail_walk _ _ _).mono ?_; rintro e w2 ⟨rfl, rfl⟩)
              rw [← HW.out]
              exact ⟨rfl, by rw [← HZ.out.1], hR4.1.2.1⟩
            · rw [if_neg hbad] at hw
              have HW := Aside0.mk hw
              have HQ := Aside0.mk hzn
              have hbo : (zx == 65533) = false ∨ ((zx == 65533) = true ∧ (zn == 1) = false) := by
                rw [hb, hb1]
                by_cases h5 : nx = 65533
                · by_cases h6 : nn = 1
                  · exact absurd (by rw [h5, h6]) hbad
                  · exact .inr ⟨decide_eq_true h5, decide_eq_false h6⟩
                · exact .inl (decide_eq_false h5)
              have hpc := cut_data s q (q + nn) (by omega)
              rw [Nat.add_sub_cancel_left, HL.out] at hpc
              have hpd : (s.extract z.toNat (z + zn).toNat).data.toList = (c :: r).take nn := by rw [show z.toNat = q by have := HZ.out.1; omega, show (z + zn).toNat = q + nn by have := HZ.out.1; omega]; exact hpc
              have HPD := Aside0.mk hpd
              have hpl : ((c :: r).take nn).length = nn := by rw [List.length_take]; omega
              have HPL := Aside0.mk hpl
              have HSz : Aside0 ((s.extract z.toNat (z + zn).toNat).size ≤ 65536) := ⟨by rw [← data_length, hpd, hpl]; omega⟩
              have hnq : q + nn ≤ s.size := by omega
              have hnn1 : 1 ≤ nn := hl1
              have hd2 : (c :: r).drop nn = s.data.toList.drop (q + nn) := by rw [← HL.out, List.drop_drop]
              have HD2 := Aside0.mk hd2
              have HN4 : Aside0 (nn ≤ 4 ∨ True) := ⟨.inr trivial⟩
              have hwr : IntKind.i64.wrap (z + zn) = z + zn := IntWalk.i64_in _ (by omega)
              have hwr2 : wrap64 (z + zn) = z + zn := by unfold wrap64; omega
              have p8 : (0 ≤ z + zn) = True := eq_true (by omega)
              have p9 : (z ≤ z + zn) = True := eq_true (by omega)
              have p10 : (z + zn ≤ (s.size : Int)) = True := eq_true hzn2
              clear hw h34 h32 h92 hdg hnx hnn hzx hzn hdec hbad hpair hpc hpd hpl hd2 hb hb1
              rcases hbo with hbo | ⟨hbo, hbo2⟩
              · go_wp2
                go_quiet (fail)
                go_wp2
                go_quiet (fail)
                go_wp2_with fail
                refine start_ (n := 15) (S := fun w' => w'.cell? ⟨b, 0, none⟩ = some (.string s) ∧ w'.cell? ⟨b, 1, none⟩ = some (.int .i64 z)) (ds := []) #[false, false, false, false, false, false, false, false, false, false, false, false, false, false, false] (by kernel_rfl) rfl rfl ⟨((hR.drewN _).drew).1.c0, ((hR.drewN _).drew).1.c1⟩ (fun hHeld => ?_)
                refine with_tabW text.tab6 text.bits6 (fun HT_ HW_ => ?_)
                refine pure_ (i := 0) (N := some 39) (v := ?_) (a' := ?_) #[true, false, false, false, false, false, false, false, false, false, false, false, false, false, false] rfl rfl (any_of HT_.out (by kernel_rfl)) (fun _ _ _ h => h) (Or.inl ⟨by rfl, ?_⟩) ?_ ?_
                rotate_left
                · intro w'
                  go_simp
                  with_reducible rfl
                rotate_left
                · simp only [Act.put, List.setIfInBounds_toArray, List.set_cons_zero, List.set_cons_succ, i64_w, i32_w]
                  rfl
                refine pure_ (i := 1) (N := some 40) (v := ?_) (a' := ?_) #[true, true, false, false, false, false, false, false, false, false, false, false, false, false, false] rfl rfl (any_of HT_.out (by kernel_rfl)) (fun _ _ _ h => h) (Or.inl ⟨by rfl, ?_⟩) ?_ ?_
                rotate_left
                · intro w'
                  go_simp
                  with_reducible rfl
                rotate_left
                · simp only [Act.put, List.setIfInBounds_toArray, List.set_cons_zero, List.set_cons_succ, i64_w, i32_w]
                  rfl
                refine pure_ (i := 2) (N := some 41) (v := ?_) (a' := ?_) #[true, true, true, false, false, false, false, false, false, false, false, false, false, false, false] rfl rfl (any_of HT_.out (by kernel_rfl)) (fun _ _ _ h => h) (Or.inl ⟨by rfl, ?_⟩) ?_ ?_
                rotate_left
                · intro w'
                  go_simp
                  with_reducible rfl
                rotate_left
                · simp only [Act.put, List.setIfInBounds_toArray, List.set_cons_zero, List.set_cons_succ, i64_w, i32_w]
                  rfl
                refine take_ (i := 3) (N := some 42) (v := ?_) (a' := ?_) #[true, true, true, true, false, false, false, false, false, false, false, false, false, false, false] rfl rfl (take_ofW HT_.out HW_.out (by kernel_rfl)) (fun _ _ _ h => h) (Or.inl ⟨by rfl, ?_⟩) hHeld ?_ ?_
                rotate_left
                · rintro w' ⟨s0, s1⟩
                  go_simp
                  with_reducible rfl
                rotate_left
                · simp only [Act.put, List.setIfInBounds_toArray, List.set_cons_zero, List.set_cons_succ, i64_w, i32_w]
                  rfl
                refine pure_ (i := 4) (N := some 43) (v := ?_) (a' := ?_) #[true, true, true, true, true, false, false, false, false, false, false, false, false, false, false] rfl rfl (any_of HT_.out (by kernel_rfl)) (fun _ _ _ h => h) (Or.inl ⟨by rfl, ?_⟩) ?_ ?_
                rotate_left
                · intro w'
                  go_simp
                  with_reducible rfl
                rotate_left
                · simp only [Act.put, List.setIfInBounds_toArray, List.set_cons_zero, List.set_cons_succ, i64_w, i32_w]
                  rfl
                refine pure_ (i := 5) (N := some 44) (v := ?_) (a' := ?_) #[true, true, true, true, true, true, false, false, false, false, false, false, false, false, false] rfl rfl (any_of HT_.out (by kernel_rfl)) (fun _ _ _ h => h) (Or.inl ⟨by rfl, ?_⟩) ?_ ?_
                rotate_left
                · intro w'
                  go_simp
                  with_reducible rfl
                rotate_left
                · simp only [Act.put, List.setIfInBounds_toArray, List.set_cons_zero, List.set_cons_succ, i64_w, i32_w]
                  rfl
                refine pure_ (i := 6) (N := some 45) (v := ?_) (a' := ?_) #[true, true, true, true, true, true, true, false, false, false, false, false, false, false, false] rfl rfl (any_of HT_.out (by kernel_rfl)) (fun _ _ _ h => h) (Or.inl ⟨by rfl, ?_⟩) ?_ ?_
                rotate_left
                · intro w'
                  go_simp
                  with_reducible rfl
                rotate_left
                · simp only [Act.put, List.setIfInBounds_toArray, List.set_cons_zero, List.set_cons_succ, i64_w, i32_w]
                  rfl
                refine take_ (i := 7) (N := some 46) (v := ?_) (a' := ?_) #[true, true, true, true, true, true, true, true, false, false, false, false, false, false, false] rfl rfl (take_ofW HT_.out HW_.out (by kernel_rfl)) (fun _ _ _ h => h) (Or.inl ⟨by rfl, ?_⟩) hHeld ?_ ?_
                rotate_left
                · rintro w' ⟨s0, s1⟩
                  go_simp
                  with_reducible rfl
                rotate_left
                · simp only [Act.put, List.setIfInBounds_toArray, List.set_cons_zero, List.set_cons_succ, i64_w, i32_w]
                  rfl
                refine pure_ (i := 8) (N := some 47) (v := ?_) (a' := ?_) #[true, true, true, true, true, true, true, true, true, false, false, false, false, false, false] rfl rfl (any_of HT_.out (by kernel_rfl)) (fun _ _ _ h => h) (Or.inl ⟨by rfl, ?_⟩) ?_ ?_
                rotate_left
                · intro w'
                  go_simp
                  with_reducible rfl
                rotate_left
                · simp only [Act.put, List.setIfInBounds_toArray, List.set_cons_zero, List.set_cons_succ, i64_w, i32_w]
                  rfl
                refine one_ (i := 9) (N := some 48) #[true, true, true, true, true, true, true, true, true, true, false, false, false, false, false] rfl rfl (one_of HT_.out (by kernel_rfl)) (by decide) (fun K hK => ?_)
                refine goes_ Tryd.func57 (by kernel_rfl) rfl #[.string (s.extract z.toNat s.size)] (by rfl) rfl rfl (by kernel_rfl) ?_
                refine (HDec.out _ ((hR.drewN _).drew)).mono ?_
                rintro e w4 ⟨rfl, hb4⟩
                have hR4 := ((hR.drewN _).drew).below hb4
                refine ⟨_, rfl, ?_⟩
                refine hK.out _ _ ⟨hR4.1.c0, hR4.1.c1⟩ (fun hh => ?_)
                clear hK K
                refine pure_ (i := 10) (N := some 38) (v := ?_) (a' := ?_) #[true, true, true, true, true, true, true, true, true, true, true, false, false, false, false] rfl rfl (any_of HT_.out (by kernel_rfl)) (fun _ _ _ h => h) (Or.inl ⟨by rfl, ?_⟩) ?_ ?_
                rotate_left
                · intro w'
                  go_simp
                  with_reducible rfl
                rotate_left
                · simp only [Act.put, List.setIfInBounds_toArray, List.set_cons_zero, List.set_cons_succ, i64_w, i32_w]
                  rfl
                refine pure_ (i := 11) (N := some 49) (v := ?_) (a' := ?_) #[true, true, true, true, true, true, true, true, true, true, true, true, false, false, false] rfl rfl (any_of HT_.out (by kernel_rfl)) (fun _ _ _ h => h) (Or.inl ⟨by rfl, ?_⟩) ?_ ?_
                rotate_left
                · intro w'
                  go_simp
                  with_reducible rfl
                rotate_left
                · simp only [Act.put, List.setIfInBounds_toArray, List.set_cons_zero, List.set_cons_succ, i64_w, i32_w]
                  rfl
                refine pure_ (i := 12) (N := some 50) (v := ?_) (a' := ?_) #[true, true, true, true, true, true, true, true, true, true, true, true, true, false, false] rfl rfl (any_of HT_.out (by kernel_rfl)) (fun _ _ _ h => h) (Or.inl ⟨by rfl, ?_⟩) ?_ ?_
                rotate_left
                · intro w'
                  go_simp
                  with_reducible rfl
                rotate_left
                · simp only [Act.put, List.setIfInBounds_toArray, List.set_cons_zero, List.set_cons_succ, i64_w, i32_w]
                  rfl
                refine pure_ (i := 13) (N := some 5) (v := ?_) (a' := ?_) #[true, true, true, true, true, true, true, true, true, true, true, true, true, true, false] rfl rfl (any_of HT_.out (by kernel_rfl)) (fun _ _ _ h => h) (Or.inl ⟨by rfl, ?_⟩) ?_ ?_
                rotate_left
                · intro w'
                  go_simp
                  with_reducible rfl
                rotate_left
                · simp only [Act.put, List.setIfInBounds_toArray, List.set_cons_zero, List.set_cons_succ, i64_w, i32_w]
                  rfl
                refine pure_ (i := 14) (N := some 6) (v := ?_) (a' := ?_) #[true, true, true, true, true, true, true, true, true, true, true, true, true, true, true] rfl rfl (any_of HT_.out (by kernel_rfl)) (fun _ _ _ h => h) (Or.inl ⟨by rfl, ?_⟩) ?_ ?_
                rotate_left
                · intro w'
                  go_simp
                  with_reducible rfl
                rotate_left
                · simp only [Act.put, List.setIfInBounds_toArray, List.set_cons_zero, List.set_cons_succ, i64_w, i32_w]
                  rfl
                refine done_ (done_of HT_.out (by kernel_rfl)) ?_
                go_wp2
                refine start_ (n := 18) (S := fun w' => w'.cell? ⟨b, 0, none⟩ = some (.string s) ∧ w'.cell? ⟨b, 1, none⟩ = some (.int .i64 z)) (ds := []) #[false, false, false, false, false, false, false, false, false, false, false, false, false, false, false, false, false, false] (by kernel_rfl) rfl rfl ⟨hR4.drew.1.c0, hR4.drew.1.c1⟩ (fun hHeld => ?_)
                refine with_tabW text.tab9 text.bits9 (fun HT_ HW_ => ?_)
                refine pure_ (i := 0) (N := some 62) (v := ?_) (a' := ?_) #[true, false, false, false, false, false, false, false, false, false, false, false, false, false, false, false, false, false] rfl rfl (any_of HT_.out (by kernel_rfl)) (fun _ _ _ h => h) (Or.inl ⟨by rfl, ?_⟩) ?_ ?_
                rotate_left
                · intro w'
                  go_simp
                  with_reducible rfl
                rotate_left
                · simp only [Act.put, List.setIfInBounds_toArray, List.set_cons_zero, List.set_cons_succ, i64_w, i32_w]
                  rfl
                refine pure_ (i := 1) (N := some 63) (v := ?_) (a' := ?_) #[true, true, false, false, false, false, false, false, false, false, false, false, false, false, false, false, false, false] rfl rfl (any_of HT_.out (by kernel_rfl)) (fun _ _ _ h => h) (Or.inl ⟨by rfl, ?_⟩) ?_ ?_
                rotate_left
                · intro w'
                  go_simp
                  with_reducible rfl
                rotate_left
                · simp only [Act.put, List.setIfInBounds_toArray, List.set_cons_zero, List.set_cons_succ, i64_w, i32_w]
                  rfl
                refine pure_ (i := 2) (N := some 64) (v := ?_) (a' := ?_) #[true, true, true, false, false, false, false, false, false, false, false, false, false, false, false, false, false, false] rfl rfl (any_of HT_.out (by kernel_rfl)) (fun _ _ _ h => h) (Or.inl ⟨by rfl, ?_⟩) ?_ ?_
                rotate_left
                · intro w'
                  go_simp
                  with_reducible rfl
                rotate_left
                · simp only [Act.put, List.setIfInBounds_toArray, List.set_cons_zero, List.set_cons_succ, i64_w, i32_w]
                  rfl
                refine pure_ (i := 3) (N := some 65) (v := ?_) (a' := ?_) #[true, true, true, true, false, false, false, false, false, false, false, false, false, false, false, false, false, false] rfl rfl (any_of HT_.out (by kernel_rfl)) (fun _ _ _ h => h) (Or.inl ⟨by rfl, ?_⟩) ?_ ?_
                rotate_left
                · intro w'
                  go_simp
                  with_reducible rfl
                rotate_left
                · simp only [Act.put, List.setIfInBounds_toArray, List.set_cons_zero, List.set_cons_succ, i64_w, i32_w]
                  rfl
                refine take_ (i := 4) (N := some 66) (v := ?_) (a' := ?_) #[true, true, true, true, true, false, false, false, false, false, false, false, false, false, false, false, false, false] rfl rfl (take_ofW HT_.out HW_.out (by kernel_rfl)) (fun _ _ _ h => h) (Or.inl ⟨by rfl, ?_⟩) hHeld ?_ ?_
                rotate_left
                · rintro w' ⟨s0, s1⟩
                  go_simp
                  with_reducible rfl
                rotate_left
                · simp only [Act.put, List.setIfInBounds_toArray, List.set_cons_zero, List.set_cons_succ, i64_w, i32_w]
                  rfl
                refine pure_ (i := 5) (N := some 67) (v := ?_) (a' := ?_) #[true, true, true, true, true, true, false, false, false, false, false, false, false, false, false, false, false, false] rfl rfl (any_of HT_.out (by kernel_rfl)) (fun _ _ _ h => h) (Or.inl ⟨by rfl, ?_⟩) ?_ ?_
                rotate_left
                · intro w'
                  go_simp
                  with_reducible rfl
                rotate_left
                · simp only [Act.put, List.setIfInBounds_toArray, List.set_cons_zero, List.set_cons_succ, i64_w, i32_w]
                  rfl
                refine pure_ (i := 6) (N := some 68) (v := ?_) (a' := ?_) #[true, true, true, true, true, true, true, false, false, false, false, false, false, false, false, false, false, false] rfl rfl (any_of HT_.out (by kernel_rfl)) (fun _ _ _ h => h) (Or.inl ⟨by rfl, ?_⟩) ?_ ?_
                rotate_left
                · intro w'
                  go_simp
                  with_reducible rfl
                rotate_left
                · simp only [Act.put, List.setIfInBounds_toArray, List.set_cons_zero, List.set_cons_succ, i64_w, i32_w]
                  rfl
                refine pure_ (i := 7) (N := some 69) (v := ?_) (a' := ?_) #[true, true, true, true, true, true, true, true, false, false, false, false, false, false, false, false, false, false] rfl rfl (any_of HT_.out (by kernel_rfl)) (fun _ _ _ h => h) (Or.inl ⟨by rfl, ?_⟩) ?_ ?_
                rotate_left
                · intro w'
                  go_simp
                  with_reducible rfl
                rotate_left
                · simp only [Act.put, List.setIfInBounds_toArray, List.set_cons_zero, List.set_cons_succ, i64_w, i32_w]
                  rfl
                refine take_ (i := 8) (N := some 70) (v := ?_) (a' := ?_) #[true, true, true, true, true, true, true, true, true, false, false, false, false, false, false, false, false, false] rfl rfl (take_ofW HT_.out HW_.out (by kernel_rfl)) (fun _ _ _ h => h) (Or.inl ⟨by rfl, ?_⟩) hHeld ?_ ?_
                rotate_left
                · rintro w' ⟨s0, s1⟩
                  go_simp
                  with_reducible rfl
                rotate_left
                · simp only [Act.put, List.setIfInBounds_toArray, List.set_cons_zero, List.set_cons_succ, i64_w, i32_w]
                  rfl
                refine pure_ (i := 9) (N := some 71) (v := ?_) (a' := ?_) #[true, true, true, true, true, true, true, true, true, true, false, false, false, false, false, false, false, false] rfl rfl (any_of HT_.out (by kernel_rfl)) (fun _ _ _ h => h) (Or.inl ⟨by rfl, ?_⟩) ?_ ?_
                rotate_left
                · intro w'
                  go_simp
                  with_reducible rfl
                rotate_left
                · simp only [Act.put, List.setIfInBounds_toArray, List.set_cons_zero, List.set_cons_succ, i64_w, i32_w]
                  rfl
                refine pure_ (i := 10) (N := some 72) (v := ?_) (a' := ?_) #[true, true, true, true, true, true, true, true, true, true, true, false, false, false, false, false, false, false] rfl rfl (any_of HT_.out (by kernel_rfl)) (fun _ _ _ h => h) (Or.inl ⟨by rfl, ?_⟩) ?_ ?_
                rotate_left
                · intro w'
                  go_simp
                  with_reducible rfl
                rotate_left
                · simp only [Act.put, List.setIfInBounds_toArray, List.set_cons_zero, List.set_cons_succ, i64_w, i32_w]
                  rfl
                refine pure_ (i := 11) (N := some 73) (v := ?_) (a' := ?_) #[true, true, true, true, true, true, true, true, true, true, true, true, false, false, false, false, false, false] rfl rfl (any_of HT_.out (by kernel_rfl)) (fun _ _ _ h => h) (Or.inl ⟨by rfl, ?_⟩) ?_ ?_
                rotate_left
                · intro w'
                  go_simp
                  with_reducible rfl
                rotate_left
                · simp only [Act.put, List.setIfInBounds_toArray, List.set_cons_zero, List.set_cons_succ, i64_w, i32_w]
                  rfl
                refine take_ (i := 12) (N := some 74) (v := ?_) (a' := ?_) #[true, true, true, true, true, true, true, true, true, true, true, true, true, false, false, false, false, false] rfl rfl (take_ofW HT_.out HW_.out (by kernel_rfl)) (fun _ _ _ h => h) (Or.inl ⟨by rfl, ?_⟩) hHeld ?_ ?_
                rotate_left
                · rintro w' ⟨s0, s1⟩
                  go_simp
                  with_reducible rfl
                rotate_left
                · simp only [Act.put, List.setIfInBounds_toArray, List.set_cons_zero, List.set_cons_succ, i64_w, i32_w]
                  rfl
                refine pure_ (i := 13) (N := some 75) (v := ?_) (a' := ?_) #[true, true, true, true, true, true, true, true, true, true, true, true, true, true, false, false, false, false] rfl rfl (any_of HT_.out (by kernel_rfl)) (fun _ _ _ h => h) (Or.inl ⟨by rfl, ?_⟩) ?_ ?_
                rotate_left
                · intro w'
                  go_simp
                  with_reducible rfl
                rotate_left
                · simp only [Act.put, List.setIfInBounds_toArray, List.set_cons_zero, List.set_cons_succ, i64_w, i32_w]
                  rfl
                refine pure_ (i := 14) (N := some 76) (v := ?_) (a' := ?_) #[true, true, true, true, true, true, true, true, true, true, true, true, true, true, true, false, false, false] rfl rfl (any_of HT_.out (by kernel_rfl)) (fun _ _ _ h => h) (Or.inl ⟨by rfl, ?_⟩) ?_ ?_
                rotate_left
                · intro w'
                  go_simp
                  with_reducible rfl
                rotate_left
                · simp only [Act.put, List.setIfInBounds_toArray, List.set_cons_zero, List.set_cons_succ, i64_w, i32_w]
                  rfl
                refine pure_ (i := 15) (N := some 77) (v := ?_) (a' := ?_) #[true, true, true, true, true, true, true, true, true, true, true, true, true, true, true, true, false, false] rfl rfl (any_of HT_.out (by kernel_rfl)) (fun _ _ _ h => h) (Or.inl ⟨by rfl, ?_⟩) ?_ ?_
                rotate_left
                · intro w'
                  go_simp
                  with_reducible rfl
                rotate_left
                · simp only [Act.put, List.setIfInBounds_toArray, List.set_cons_zero, List.set_cons_succ, i64_w, i32_w]
                  rfl
                refine one_ (i := 16) (N := some 78) #[true, true, true, true, true, true, true, true, true, true, true, true, true, true, true, true, true, false] rfl rfl (one_of HT_.out (by kernel_rfl)) (by decide) (fun K hK => ?_)
                refine str_step rfl (.tmp 62) (.tmp 77) rfl hR4.drew (s.extract z.toNat (z + zn).toNat) (by kernel_rfl) (by kernel_rfl) (by have := HSz.out; omega) ?_
                intro v3 w3 hR3
                refine hK.out _ _ ⟨hR3.1.c0, hR3.1.c1⟩ (fun hh => ?_)
                clear hK K
                refine pure_ (i := 17) (N := some 3) (v := ?_) (a' := ?_) #[true, true, true, true, true, true, true, true, true, true, true, true, true, true, true, true, true, true] rfl rfl (any_of HT_.out (by kernel_rfl)) (fun _ _ _ h => h) (Or.inl ⟨by rfl, ?_⟩) ?_ ?_
                rotate_left
                · intro w'
                  go_simp
                  with_reducible rfl
                rotate_left
                · simp only [Act.put, List.setIfInBounds_toArray, List.set_cons_zero, List.set_cons_succ, i64_w, i32_w]
                  rfl
                refine done_ (done_of HT_.out (by kernel_rfl)) ?_
                have hf3 := hR3.1.fr 1
                have hd3 := hR3.1.c1
                go_wp2
                rw [HPD.out] at hR3
                go_roundg (s.size - (q + nn))
                case measure => have := HZ.out; omega
                case rel => exact ⟨f, q + nn, z + zn, out ++ (c :: r).take nn, ⟨by have := HZ.out.1; have := HQ.out; omega, hnq, rfl, by have := HZ.out; omega, by rw [List.length_append, HPL.out]; have := HZ.out; omega, by rw [← HD2.out]; exact HW.out⟩, hR3.set1 _⟩
              · go_wp2
                go_quiet (fail)
                go_wp2
                go_quiet (fail)
                go_wp2_with fail
                refine start_ (n := 15) (S := fun w' => w'.cell? ⟨b, 0, none⟩ = some (.string s) ∧ w'.cell? ⟨b, 1, none⟩ = some (.int .i64 z)) (ds := []) #[false, false, false, false, false, false, false, false, false, false, false, false, false, false, false] (by kernel_rfl) rfl rfl ⟨((hR.drewN _).drew).1.c0, ((hR.drewN _).drew).1.c1⟩ (fun hHeld => ?_)
                refine with_tabW text.tab6 text.bits6 (fun HT_ HW_ => ?_)
                refine pure_ (i := 0) (N := some 39) (v := ?_) (a' := ?_) #[true, false, false, false, false, false, false, false, false, false, false, false, false, false, false] rfl rfl (any_of HT_.out (by kernel_rfl)) (fun _ _ _ h => h) (Or.inl ⟨by rfl, ?_⟩) ?_ ?_
                rotate_left
                · intro w'
                  go_simp
                  with_reducible rfl
                rotate_left
                · simp only [Act.put, List.setIfInBounds_toArray, List.set_cons_zero, List.set_cons_succ, i64_w, i32_w]
                  rfl
                refine pure_ (i := 1) (N := some 40) (v := ?_) (a' := ?_) #[true, true, false, false, false, false, false, false, false, false, false, false, false, false, false] rfl rfl (any_of HT_.out (by kernel_rfl)) (fun _ _ _ h => h) (Or.inl ⟨by rfl, ?_⟩) ?_ ?_
                rotate_left
                · intro w'
                  go_simp
                  with_reducible rfl
                rotate_left
                · simp only [Act.put, List.setIfInBounds_toArray, List.set_cons_zero, List.set_cons_succ, i64_w, i32_w]
                  rfl
                refine pure_ (i := 2) (N := some 41) (v := ?_) (a' := ?_) #[true, true, true, false, false, false, false, false, false, false, false, false, false, false, false] rfl rfl (any_of HT_.out (by kernel_rfl)) (fun _ _ _ h => h) (Or.inl ⟨by rfl, ?_⟩) ?_ ?_
                rotate_left
                · intro w'
                  go_simp
                  with_reducible rfl
                rotate_left
                · simp only [Act.put, List.setIfInBounds_toArray, List.set_cons_zero, List.set_cons_succ, i64_w, i32_w]
                  rfl
                refine take_ (i := 3) (N := some 42) (v := ?_) (a' := ?_) #[true, true, true, true, false, false, false, false, false, false, false, false, false, false, false] rfl rfl (take_ofW HT_.out HW_.out (by kernel_rfl)) (fun _ _ _ h => h) (Or.inl ⟨by rfl, ?_⟩) hHeld ?_ ?_
                rotate_left
                · rintro w' ⟨s0, s1⟩
                  go_simp
                  with_reducible rfl
                rotate_left
                · simp only [Act.put, List.setIfInBounds_toArray, List.set_cons_zero, List.set_cons_succ, i64_w, i32_w]
                  rfl
                refine pure_ (i := 4) (N := some 43) (v := ?_) (a' := ?_) #[true, true, true, true, true, false, false, false, false, false, false, false, false, false, false] rfl rfl (any_of HT_.out (by kernel_rfl)) (fun _ _ _ h => h) (Or.inl ⟨by rfl, ?_⟩) ?_ ?_
                rotate_left
                · intro w'
                  go_simp
                  with_reducible rfl
                rotate_left
                · simp only [Act.put, List.setIfInBounds_toArray, List.set_cons_zero, List.set_cons_succ, i64_w, i32_w]
                  rfl
                refine pure_ (i := 5) (N := some 44) (v := ?_) (a' := ?_) #[true, true, true, true, true, true, false, false, false, false, false, false, false, false, false] rfl rfl (any_of HT_.out (by kernel_rfl)) (fun _ _ _ h => h) (Or.inl ⟨by rfl, ?_⟩) ?_ ?_
                rotate_left
                · intro w'
                  go_simp
                  with_reducible rfl
                rotate_left
                · simp only [Act.put, List.setIfInBounds_toArray, List.set_cons_zero, List.set_cons_succ, i64_w, i32_w]
                  rfl
                refine pure_ (i := 6) (N := some 45) (v := ?_) (a' := ?_) #[true, true, true, true, true, true, true, false, false, false, false, false, false, false, false] rfl rfl (any_of HT_.out (by kernel_rfl)) (fun _ _ _ h => h) (Or.inl ⟨by rfl, ?_⟩) ?_ ?_
                rotate_left
                · intro w'
                  go_simp
                  with_reducible rfl
                rotate_left
                · simp only [Act.put, List.setIfInBounds_toArray, List.set_cons_zero, List.set_cons_succ, i64_w, i32_w]
                  rfl
                refine take_ (i := 7) (N := some 46) (v := ?_) (a' := ?_) #[true, true, true, true, true, true, true, true, false, false, false, false, false, false, false] rfl rfl (take_ofW HT_.out HW_.out (by kernel_rfl)) (fun _ _ _ h => h) (Or.inl ⟨by rfl, ?_⟩) hHeld ?_ ?_
                rotate_left
                · rintro w' ⟨s0, s1⟩
                  go_simp
                  with_reducible rfl
                rotate_left
                · simp only [Act.put, List.setIfInBounds_toArray, List.set_cons_zero, List.set_cons_succ, i64_w, i32_w]
                  rfl
                refine pure_ (i := 8) (N := some 47) (v := ?_) (a' := ?_) #[true, true, true, true, true, true, true, true, true, false, false, false, false, false, false] rfl rfl (any_of HT_.out (by kernel_rfl)) (fun _ _ _ h => h) (Or.inl ⟨by rfl, ?_⟩) ?_ ?_
                rotate_left
                · intro w'
                  go_simp
                  with_reducible rfl
                rotate_left
                · simp only [Act.put, List.setIfInBounds_toArray, List.set_cons_zero, List.set_cons_succ, i64_w, i32_w]
                  rfl
                refine one_ (i := 9) (N := some 48) #[true, true, true, true, true, true, true, true, true, true, false, false, false, false, false] rfl rfl (one_of HT_.out (by kernel_rfl)) (by decide) (fun K hK => ?_)
                refine goes_ Tryd.func57 (by kernel_rfl) rfl #[.string (s.extract z.toNat s.size)] (by rfl) rfl rfl (by kernel_rfl) ?_
                refine (HDec.out _ ((hR.drewN _).drew)).mono ?_
                rintro e w4 ⟨rfl, hb4⟩
                have hR4 := ((hR.drewN _).drew).below hb4
                refine ⟨_, rfl, ?_⟩
                refine hK.out _ _ ⟨hR4.1.c0, hR4.1.c1⟩ (fun hh => ?_)
                clear hK K
                refine pure_ (i := 10) (N := some 38) (v := ?_) (a' := ?_) #[true, true, true, true, true, true, true, true, true, true, true, false, false, false, false] rfl rfl (any_of HT_.out (by kernel_rfl)) (fun _ _ _ h => h) (Or.inl ⟨by rfl, ?_⟩) ?_ ?_
                rotate_left
                · intro w'
                  go_simp
                  with_reducible rfl
                rotate_left
                · simp only [Act.put, List.setIfInBounds_toArray, List.set_cons_zero, List.set_cons_succ, i64_w, i32_w]
                  rfl
                refine pure_ (i := 11) (N := some 49) (v := ?_) (a' := ?_) #[true, true, true, true, true, true, true, true, true, true, true, true, false, false, false] rfl rfl (any_of HT_.out (by kernel_rfl)) (fun _ _ _ h => h) (Or.inl ⟨by rfl, ?_⟩) ?_ ?_
                rotate_left
                · intro w'
                  go_simp
                  with_reducible rfl
                rotate_left
                · simp only [Act.put, List.setIfInBounds_toArray, List.set_cons_zero, List.set_cons_succ, i64_w, i32_w]
                  rfl
                refine pure_ (i := 12) (N := some 50) (v := ?_) (a' := ?_) #[true, true, true, true, true, true, true, true, true, true, true, true, true, false, false] rfl rfl (any_of HT_.out (by kernel_rfl)) (fun _ _ _ h => h) (Or.inl ⟨by rfl, ?_⟩) ?_ ?_
                rotate_left
                · intro w'
                  go_simp
                  with_reducible rfl
                rotate_left
                · simp only [Act.put, List.setIfInBounds_toArray, List.set_cons_zero, List.set_cons_succ, i64_w, i32_w]
                  rfl
                refine pure_ (i := 13) (N := some 5) (v := ?_) (a' := ?_) #[true, true, true, true, true, true, true, true, true, true, true, true, true, true, false] rfl rfl (any_of HT_.out (by kernel_rfl)) (fun _ _ _ h => h) (Or.inl ⟨by rfl, ?_⟩) ?_ ?_
                rotate_left
                · intro w'
                  go_simp
                  with_reducible rfl
                rotate_left
                · simp only [Act.put, List.setIfInBounds_toArray, List.set_cons_zero, List.set_cons_succ, i64_w, i32_w]
                  rfl
                refine pure_ (i := 14) (N := some 6) (v := ?_) (a' := ?_) #[true, true, true, true, true, true, true, true, true, true, true, true, true, true, true] rfl rfl (any_of HT_.out (by kernel_rfl)) (fun _ _ _ h => h) (Or.inl ⟨by rfl, ?_⟩) ?_ ?_
                rotate_left
                · intro w'
                  go_simp
                  with_reducible rfl
                rotate_left
                · simp only [Act.put, List.setIfInBounds_toArray, List.set_cons_zero, List.set_cons_succ, i64_w, i32_w]
                  rfl
                refine done_ (done_of HT_.out (by kernel_rfl)) ?_
                go_wp2
                refine start_ (n := 18) (S := fun w' => w'.cell? ⟨b, 0, none⟩ = some (.string s) ∧ w'.cell? ⟨b, 1, none⟩ = some (.int .i64 z)) (ds := []) #[false, false, false, false, false, false, false, false, false, false, false, false, false, false, false, false, false, false] (by kernel_rfl) rfl rfl ⟨hR4.drew.1.c0, hR4.drew.1.c1⟩ (fun hHeld => ?_)
                refine with_tabW text.tab9 text.bits9 (fun HT_ HW_ => ?_)
                refine pure_ (i := 0) (N := some 62) (v := ?_) (a' := ?_) #[true, false, false, false, false, false, false, false, false, false, false, false, false, false, false, false, false, false] rfl rfl (any_of HT_.out (by kernel_rfl)) (fun _ _ _ h => h) (Or.inl ⟨by rfl, ?_⟩) ?_ ?_
                rotate_left
                · intro w'
                  go_simp
                  with_reducible rfl
                rotate_left
                · simp only [Act.put, List.setIfInBounds_toArray, List.set_cons_zero, List.set_cons_succ, i64_w, i32_w]
                  rfl
                refine pure_ (i := 1) (N := some 63) (v := ?_) (a' := ?_) #[true, true, false, false, false, false, false, false, false, false, false, false, false, false, false, false, false, false] rfl rfl (any_of HT_.out (by kernel_rfl)) (fun _ _ _ h => h) (Or.inl ⟨by rfl, ?_⟩) ?_ ?_
                rotate_left
                · intro w'
                  go_simp
                  with_reducible rfl
                rotate_left
                · simp only [Act.put, List.setIfInBounds_toArray, List.set_cons_zero, List.set_cons_succ, i64_w, i32_w]
                  rfl
                refine pure_ (i := 2) (N := some 64) (v := ?_) (a' := ?_) #[true, true, true, false, false, false, false, false, false, false, false, false, false, false, false, false, false, false] rfl rfl (any_of HT_.out (by kernel_rfl)) (fun _ _ _ h => h) (Or.inl ⟨by rfl, ?_⟩) ?_ ?_
                rotate_left
                · intro w'
                  go_simp
                  with_reducible rfl
                rotate_left
                · simp only [Act.put, List.setIfInBounds_toArray, List.set_cons_zero, List.set_cons_succ, i64_w, i32_w]
                  rfl
                refine pure_ (i := 3) (N := some 65) (v := ?_) (a' := ?_) #[true, true, true, true, false, false, false, false, false, false, false, false, false, false, false, false, false, false] rfl rfl (any_of HT_.out (by kernel_rfl)) (fun _ _ _ h => h) (Or.inl ⟨by rfl, ?_⟩) ?_ ?_
                rotate_left
                · intro w'
                  go_simp
                  with_reducible rfl
                rotate_left
                · simp only [Act.put, List.setIfInBounds_toArray, List.set_cons_zero, List.set_cons_succ, i64_w, i32_w]
                  rfl
                refine take_ (i := 4) (N := some 66) (v := ?_) (a' := ?_) #[true, true, true, true, true, false, false, false, false, false, false, false, false, false, false, false, false, false] rfl rfl (take_ofW HT_.out HW_.out (by kernel_rfl)) (fun _ _ _ h => h) (Or.inl ⟨by rfl, ?_⟩) hHeld ?_ ?_
                rotate_left
                · rintro w' ⟨s0, s1⟩
                  go_simp
                  with_reducible rfl
                rotate_left
                · simp only [Act.put, List.setIfInBounds_toArray, List.set_cons_zero, List.set_cons_succ, i64_w, i32_w]
                  rfl
                refine pure_ (i := 5) (N := some 67) (v := ?_) (a' := ?_) #[true, true, true, true, true, true, false, false, false, false, false, false, false, false, false, false, false, false] rfl rfl (any_of HT_.out (by kernel_rfl)) (fun _ _ _ h => h) (Or.inl ⟨by rfl, ?_⟩) ?_ ?_
                rotate_left
                · intro w'
                  go_simp
                  with_reducible rfl
                rotate_left
                · simp only [Act.put, List.setIfInBounds_toArray, List.set_cons_zero, List.set_cons_succ, i64_w, i32_w]
                  rfl
                refine pure_ (i := 6) (N := some 68) (v := ?_) (a' := ?_) #[true, true, true, true, true, true, true, false, false, false, false, false, false, false, false, false, false, false] rfl rfl (any_of HT_.out (by kernel_rfl)) (fun _ _ _ h => h) (Or.inl ⟨by rfl, ?_⟩) ?_ ?_
                rotate_left
                · intro w'
                  go_simp
                  with_reducible rfl
                rotate_left
                · simp only [Act.put, List.setIfInBounds_toArray, List.set_cons_zero, List.set_cons_succ, i64_w, i32_w]
                  rfl
                refine pure_ (i := 7) (N := some 69) (v := ?_) (a' := ?_) #[true, true, true, true, true, true, true, true, false, false, false, false, false, false, false, false, false, false] rfl rfl (any_of HT_.out (by kernel_rfl)) (fun _ _ _ h => h) (Or.inl ⟨by rfl, ?_⟩) ?_ ?_
                rotate_left
                · intro w'
                  go_simp
                  with_reducible rfl
                rotate_left
                · simp only [Act.put, List.setIfInBounds_toArray, List.set_cons_zero, List.set_cons_succ, i64_w, i32_w]
                  rfl
                refine take_ (i := 8) (N := some 70) (v := ?_) (a' := ?_) #[true, true, true, true, true, true, true, true, true, false, false, false, false, false, false, false, false, false] rfl rfl (take_ofW HT_.out HW_.out (by kernel_rfl)) (fun _ _ _ h => h) (Or.inl ⟨by rfl, ?_⟩) hHeld ?_ ?_
                rotate_left
                · rintro w' ⟨s0, s1⟩
                  go_simp
                  with_reducible rfl
                rotate_left
                · simp only [Act.put, List.setIfInBounds_toArray, List.set_cons_zero, List.set_cons_succ, i64_w, i32_w]
                  rfl
                refine pure_ (i := 9) (N := some 71) (v := ?_) (a' := ?_) #[true, true, true, true, true, true, true, true, true, true, false, false, false, false, false, false, false, false] rfl rfl (any_of HT_.out (by kernel_rfl)) (fun _ _ _ h => h) (Or.inl ⟨by rfl, ?_⟩) ?_ ?_
                rotate_left
                · intro w'
                  go_simp
                  with_reducible rfl
                rotate_left
                · simp only [Act.put, List.setIfInBounds_toArray, List.set_cons_zero, List.set_cons_succ, i64_w, i32_w]
                  rfl
                refine pure_ (i := 10) (N := some 72) (v := ?_) (a' := ?_) #[true, true, true, true, true, true, true, true, true, true, true, false, false, false, false, false, false, false] rfl rfl (any_of HT_.out (by kernel_rfl)) (fun _ _ _ h => h) (Or.inl ⟨by rfl, ?_⟩) ?_ ?_
                rotate_left
                · intro w'
                  go_simp
                  with_reducible rfl
                rotate_left
                · simp only [Act.put, List.setIfInBounds_toArray, List.set_cons_zero, List.set_cons_succ, i64_w, i32_w]
                  rfl
                refine pure_ (i := 11) (N := some 73) (v := ?_) (a' := ?_) #[true, true, true, true, true, true, true, true, true, true, true, true, false, false, false, false, false, false] rfl rfl (any_of HT_.out (by kernel_rfl)) (fun _ _ _ h => h) (Or.inl ⟨by rfl, ?_⟩) ?_ ?_
                rotate_left
                · intro w'
                  go_simp
                  with_reducible rfl
                rotate_left
                · simp only [Act.put, List.setIfInBounds_toArray, List.set_cons_zero, List.set_cons_succ, i64_w, i32_w]
                  rfl
                refine take_ (i := 12) (N := some 74) (v := ?_) (a' := ?_) #[true, true, true, true, true, true, true, true, true, true, true, true, true, false, false, false, false, false] rfl rfl (take_ofW HT_.out HW_.out (by kernel_rfl)) (fun _ _ _ h => h) (Or.inl ⟨by rfl, ?_⟩) hHeld ?_ ?_
                rotate_left
                · rintro w' ⟨s0, s1⟩
                  go_simp
                  with_reducible rfl
                rotate_left
                · simp only [Act.put, List.setIfInBounds_toArray, List.set_cons_zero, List.set_cons_succ, i64_w, i32_w]
                  rfl
                refine pure_ (i := 13) (N := some 75) (v := ?_) (a' := ?_) #[true, true, true, true, true, true, true, true, true, true, true, true, true, true, false, false, false, false] rfl rfl (any_of HT_.out (by kernel_rfl)) (fun _ _ _ h => h) (Or.inl ⟨by rfl, ?_⟩) ?_ ?_
                rotate_left
                · intro w'
                  go_simp
                  with_reducible rfl
                rotate_left
                · simp only [Act.put, List.setIfInBounds_toArray, List.set_cons_zero, List.set_cons_succ, i64_w, i32_w]
                  rfl
                refine pure_ (i := 14) (N := some 76) (v := ?_) (a' := ?_) #[true, true, true, true, true, true, true, true, true, true, true, true, true, true, true, false, false, false] rfl rfl (any_of HT_.out (by kernel_rfl)) (fun _ _ _ h => h) (Or.inl ⟨by rfl, ?_⟩) ?_ ?_
                rotate_left
                · intro w'
                  go_simp
                  with_reducible rfl
                rotate_left
                · simp only [Act.put, List.setIfInBounds_toArray, List.set_cons_zero, List.set_cons_succ, i64_w, i32_w]
                  rfl
                refine pure_ (i := 15) (N := some 77) (v := ?_) (a' := ?_) #[true, true, true, true, true, true, true, true, true, true, true, true, true, true, true, true, false, false] rfl rfl (any_of HT_.out (by kernel_rfl)) (fun _ _ _ h => h) (Or.inl ⟨by rfl, ?_⟩) ?_ ?_
                rotate_left
                · intro w'
                  go_simp
                  with_reducible rfl
                rotate_left
                · simp only [Act.put, List.setIfInBounds_toArray, List.set_cons_zero, List.set_cons_succ, i64_w, i32_w]
                  rfl
                refine one_ (i := 16) (N := some 78) #[true, true, true, true, true, true, true, true, true, true, true, true, true, true, true, true, true, false] rfl rfl (one_of HT_.out (by kernel_rfl)) (by decide) (fun K hK => ?_)
                refine str_step rfl (.tmp 62) (.tmp 77) rfl hR4.drew (s.extract z.toNat (z + zn).toNat) (by kernel_rfl) (by kernel_rfl) (by have := HSz.out; omega) ?_
                intro v3 w3 hR3
                refine hK.out _ _ ⟨hR3.1.c0, hR3.1.c1⟩ (fun hh => ?_)
                clear hK K
                refine pure_ (i := 17) (N := some 3) (v := ?_) (a' := ?_) #[true, true, true, true, true, true, true, true, true, true, true, true, true, true, true, true, true, true] rfl rfl (any_of HT_.out (by kernel_rfl)) (fun _ _ _ h => h) (Or.inl ⟨by rfl, ?_⟩) ?_ ?_
                rotate_left
                · intro w'
                  go_simp
                  with_reducible rfl
                rotate_left
                · simp only [Act.put, List.setIfInBounds_toArray, List.set_cons_zero, List.set_cons_succ, i64_w, i32_w]
                  rfl
                refine done_ (done_of HT_.out (by kernel_rfl)) ?_
                have hf3 := hR3.1.fr 1
                have hd3 := hR3.1.c1
                go_wp2
                rw [HPD.out] at hR3
                go_roundg (s.size - (q + nn))
                case measure => have := HZ.out; omega
                case rel => exact ⟨f, q + nn, z + zn, out ++ (c :: r).take nn, ⟨by have := HZ.out.1; have := HQ.out; omega, hnq, rfl, by have := HZ.out; omega, by rw [List.length_append, HPL.out]; have := HZ.out; omega, by rw [← HD2.out]; exact HW.out⟩, hR3.set1 _⟩
end Go.Proofs.YtldlkoncndlbhaaDoor.Js
