/- The reader's 'value' walked, over what 'list' and 'object' come to with less fuel. -/
import Derived.Test.YtipbcdjnemdciaaDoorReader8
set_option linter.unusedVariables false
set_option linter.unusedSimpArgs false
namespace Go.Proofs.YtipbcdjnemdciaaDoor.Js
open Go.RowKit Go.Lib Go.Proofs.YtipbcdjnemdciaaDoor.PSh Go.Proofs.YtipbcdjnemdciaaDoor.Np Go.Proofs.YtipbcdjnemdciaaDoorW.PrintWords Go.Proofs.YtipbcdjnemdciaaDoorW.PrintLast Go.Proofs.YtipbcdjnemdciaaDoorW.PrintMore

theorem here_adv (l : List UInt8) (p : Nat) (l' : List UInt8) (q : Nat) (c : UInt8) (h : here l p = .ok l' q c) : p ≤ q := by
  unfold here at h
  split at h
  · cases h
  · cases h
    exact Nat.le_add_right _ _
/-- How a call that may grow the tree ends. -/
def TreeEnds (w0 : World) (b : Nat) (s : ByteArray) (ok : Nat → Prop) (tv : Value) (w : World) (r : R (List S39 × Int)) : Ending → World → Prop := fun e w' => match r with
  | .ok l' p' v => e = .returned (.int .i64 v.2) ∧ l' = s.data.toList.drop p' ∧ p' ≤ s.size ∧ ∃ tv', Rdr w0 b s (p' : Int) ok tv' v.1 w' ∧ KeepBut w w' b tv.ownBlock ∧ Row w tv tv'
  | .no pp ee => e = halted (pp : Int) ee ∧ Below w0.heap.size w0 w'
/-- 'list' behind its bracket, and 'object' behind its brace. -/
def listF (f deep fr : Nat) (l : List UInt8) (p : Nat) (t : List S39) : R (List S39 × Int) := (here l p).bind fun l1 p1 c1 => if c1 = 93 then put t fr ⟨5, false, 0, ⟨#[]⟩, [], []⟩ l1.tail (p1 + 1) else list f deep fr [] l1 p1 t
def objectF (f deep fr : Nat) (l : List UInt8) (p : Nat) (t : List S39) : R (List S39 × Int) := (here l p).bind fun l1 p1 c1 => if c1 = 125 then put t fr ⟨6, false, 0, ⟨#[]⟩, [], []⟩ l1.tail (p1 + 1) else object f deep fr [] [] l1 p1 t
/-- What is handed on to each call: the reader, where new rows may lie, sizes. -/
structure Given (w0 : World) (b : Nat) (s : ByteArray) (p : Nat) (ok : Nat → Prop) (tv : Value) (t : List S39) (w : World) : Prop where
  rdr : Rdr w0 b s (p : Int) ok tv t w
  fresh : ∀ k, w.heap.size ≤ k → ok k
  place : p ≤ s.size
def VT (w0 : World) (b : Nat) (s : ByteArray) (f : Nat) : Prop := ∀ (deep p : Nat) (ok : Nat → Prop) (tv : Value) (t : List S39) (w : World), Given w0 b s p ok tv t w → deep ≤ 16 → 2 * (s.size - p) < f →
  Calls Tryd.prog 17 #[.pointer (some ⟨b, 0, none⟩), .int .i64 (deep : Int)] w (TreeEnds w0 b s ok tv w (value f deep (s.data.toList.drop p) p t))
def LT (w0 : World) (b : Nat) (s : ByteArray) (f : Nat) : Prop := ∀ (deep fr p : Nat) (ok : Nat → Prop) (tv : Value) (t : List S39) (w : World), Given w0 b s p ok tv t w → deep ≤ 15 → 2 * (s.size - p) + 1 < f →
  Calls Tryd.prog 25 #[.pointer (some ⟨b, 0, none⟩), .int .i64 (deep : Int), .int .i64 (fr : Int)] w (TreeEnds w0 b s ok tv w (listF f deep fr (s.data.toList.drop p) p t))
def OT (w0 : World) (b : Nat) (s : ByteArray) (f : Nat) : Prop := ∀ (deep fr p : Nat) (ok : Nat → Prop) (tv : Value) (t : List S39) (w : World), Given w0 b s p ok tv t w → deep ≤ 15 → 2 * (s.size - p) + 1 < f →
  Calls Tryd.prog 26 #[.pointer (some ⟨b, 0, none⟩), .int .i64 (deep : Int), .int .i64 (fr : Int)] w (TreeEnds w0 b s ok tv w (objectF f deep fr (s.data.toList.drop p) p t))

section
variable {w0 w w' : World} {b : Nat} {s : ByteArray} {p : Nat} {ok : Nat → Prop} {tv : Value} {t : List S39}
/-- The reader alone has moved. -/
theorem Given.moved {p' : Nat} (h : Given w0 b s p ok tv t w) (hA : At w0 b s (p' : Int) tv w') (hk : KeepBut w w' b none) (hp : p' ≤ s.size) : Given w0 b s p' ok tv t w' := ⟨h.rdr.moved hA hk, fun k hk' => h.fresh k (Nat.le_trans hk.1 hk'), hp⟩
theorem Given.drewN (h : Given w0 b s p ok tv t w) (n : Nat) : Given w0 b s p ok tv t (w.drewN n) := ⟨h.rdr.below (pw_below_drewN (Below.refl _ _) n), h.fresh, h.place⟩
/-- A value without rows. -/
theorem bare_M (w : World) (base : Nat) (f0 : Int) (f1 : Bool) (f2 : Int) (f3 : ByteArray) : k39.M w base (fun _ => False) ⟨f0, f1, f2, f3, [], []⟩ [.int .i64 f0, .bool f1, .int .i64 f2, .string f3, .slice none 0 0, .slice none 0 0] :=
  k39_mkM w base (fun _ => False) ⟨f0, f1, f2, f3, [], []⟩ (Kd.R_nil _ _ _ _ _) (Kd.R_nil _ _ _ _ _)
/-- 'put' of such a value, as a tree's end. -/
theorem put_bare (h : Given w0 b s p ok tv t w) (f0 : Int) (f1 : Bool) (f2 : Int) (f3 : ByteArray) (fr : Nat) :
    Calls Tryd.prog 22 #[.pointer (some ⟨b, 0, none⟩), .agg #[.int .i64 f0, .bool f1, .int .i64 f2, .string f3, .slice none 0 0, .slice none 0 0], .int .i64 (fr : Int)] w (TreeEnds w0 b s ok tv w (put t fr ⟨f0, f1, f2, f3, [], []⟩ (s.data.toList.drop p) p)) := by
  refine (put_walk w0 w b s (p : Int) ok (fun _ => False) tv t ⟨f0, f1, f2, f3, [], []⟩ (.slice none 0 0) (.slice none 0 0) fr h.rdr (bare_M _ _ _ _ _ _) (fun _ hk => hk.elim) h.fresh).mono fun e w' he => ?_
  unfold PutEnds at he
  unfold put
  by_cases hbig : 8192 ≤ t.length
  · rw [if_pos hbig] at he ⊢
    exact he
  · rw [if_neg hbig] at he ⊢
    exact ⟨he.1, rfl, h.place, he.2⟩
theorem TreeEnds.of {r : R (List S39 × Int)} {e : Ending} {w1 : World} (h : TreeEnds w0 b s ok tv w1 r e w') (hk : KeepBut w w1 b none) : TreeEnds w0 b s ok tv w r e w' := by
  unfold TreeEnds at h ⊢
  cases r with
  | no pp ee => exact h
  | ok l' p' v =>
    obtain ⟨h1, h2, h3, tv', h4, h5, h6⟩ := h
    refine ⟨h1, h2, h3, tv', h4, (keep_none hk).trans h5 (.inl rfl), ?_⟩
    rcases h6 with h6 | ⟨k, h6, h7⟩
    · exact .inl h6
    · exact .inr ⟨k, h6, Nat.le_trans hk.1 h7⟩
end

section
variable {w0 w w2 w3 : World} {b : Nat} {s : ByteArray} {p : Nat} {ok : Nat → Prop} {tv : Value} {t t' : List S39}
theorem put_no (h : Given w0 b s p ok tv t w) (hbig : 8192 ≤ t.length) (f0 : Int) (f1 : Bool) (f2 : Int) (f3 : ByteArray) (fr : Nat) :
    Calls Tryd.prog 22 #[.pointer (some ⟨b, 0, none⟩), .agg #[.int .i64 f0, .bool f1, .int .i64 f2, .string f3, .slice none 0 0, .slice none 0 0], .int .i64 (fr : Int)] w fun e w' => e = halted (fr : Int) 27 ∧ Below w0.heap.size w0 w' :=
  (put_walk w0 w b s (p : Int) ok (fun _ => False) tv t ⟨f0, f1, f2, f3, [], []⟩ (.slice none 0 0) (.slice none 0 0) fr h.rdr (bare_M _ _ _ _ _ _) (fun _ hk => hk.elim) h.fresh).mono fun e w' he => by
    unfold PutEnds at he
    rw [if_pos hbig] at he
    exact he
/-- What a call that has put a value leaves. -/
def Grew (w0 : World) (b : Nat) (s : ByteArray) (p : Nat) (ok : Nat → Prop) (tv : Value) (t' : List S39) (w w' : World) : Prop := ∃ tv', Rdr w0 b s (p : Int) ok tv' t' w' ∧ KeepBut w w' b tv.ownBlock ∧ Row w tv tv'
theorem put_ok (h : Given w0 b s p ok tv t w) (hbig : ¬ 8192 ≤ t.length) (f0 : Int) (f1 : Bool) (f2 : Int) (f3 : ByteArray) (fr : Nat) :
    Calls Tryd.prog 22 #[.pointer (some ⟨b, 0, none⟩), .agg #[.int .i64 f0, .bool f1, .int .i64 f2, .string f3, .slice none 0 0, .slice none 0 0], .int .i64 (fr : Int)] w fun e w' => e = .returned (.int .i64 (t.length : Int)) ∧ Grew w0 b s p ok tv (t ++ [⟨f0, f1, f2, f3, [], []⟩]) w w' :=
  (put_walk w0 w b s (p : Int) ok (fun _ => False) tv t ⟨f0, f1, f2, f3, [], []⟩ (.slice none 0 0) (.slice none 0 0) fr h.rdr (bare_M _ _ _ _ _ _) (fun _ hk => hk.elim) h.fresh).mono fun e w' he => by
    unfold PutEnds at he
    rw [if_neg hbig] at he
    exact he
theorem Given.step {q : Nat} (h : Given w0 b s q ok tv t w) (hq : q < s.size) : Given w0 b s (q + 1) ok tv t (w.setCell ⟨b, 1, none⟩ (.int .i64 ((q : Int) + 1))) :=
  ⟨(h.rdr.set1 _).cast (by omega), fun k hk => h.fresh k (by simpa [World.setCell] using hk), hq⟩
theorem Grew.from (h : Grew w0 b s p ok tv t' w2 w3) (hk : KeepBut w w2 b none) : Grew w0 b s p ok tv t' w w3 := by
  obtain ⟨tv', h4, h5, h6⟩ := h
  refine ⟨tv', h4, (keep_none hk).trans h5 (.inl rfl), ?_⟩
  rcases h6 with h6 | ⟨k, h6, h7⟩
  · exact .inl h6
  · exact .inr ⟨k, h6, Nat.le_trans hk.1 h7⟩
end
/-- A value, by the byte that stands there. -/
def valueOn (f deep : Nat) (t : List S39) (l : List UInt8) (p : Nat) (c : UInt8) : R (List S39 × Int) :=
    if c = 110 then (word [110, 117, 108, 108] l p).bind fun l1 p1 _ => put t p ⟨1, false, 0, ⟨#[]⟩, [], []⟩ l1 p1
    else if c = 116 then (word [116, 114, 117, 101] l p).bind fun l1 p1 _ => put t p ⟨2, true, 0, ⟨#[]⟩, [], []⟩ l1 p1
    else if c = 102 then (word [102, 97, 108, 115, 101] l p).bind fun l1 p1 _ => put t p ⟨2, false, 0, ⟨#[]⟩, [], []⟩ l1 p1
    else if c = 34 then (text l.tail (p + 1)).bind fun l1 p1 s => put t p ⟨4, false, 0, str s, [], []⟩ l1 p1
    else if c = 45 ∨ (48 ≤ c.toNat ∧ c.toNat ≤ 57) then (number l p).bind fun l1 p1 n => put t p ⟨3, false, n, ⟨#[]⟩, [], []⟩ l1 p1
    else if c = 91 ∨ c = 123 then
      if 16 ≤ deep then .no p 26
      else if c = 91 then listF f deep p l.tail (p + 1) t
      else objectF f deep p l.tail (p + 1) t
    else .no p 22
theorem value_succ (f deep : Nat) (l0 : List UInt8) (p0 : Nat) (t : List S39) : value (f + 1) deep l0 p0 t = (here l0 p0).bind (valueOn f deep t) := by
  rw [value]
  rfl

set_option maxHeartbeats 40000000 in
set_option maxRecDepth 100000 in
theorem value_step (w0 : World) (b : Nat) (s : ByteArray) (f : Nat) (hG : Aside0 (Glob w0)) (hGN : Aside0 (GlobN w0)) (hs : s.size ≤ 65536) (hL : LT w0 b s f) (hO : OT w0 b s f) : VT w0 b s (f + 1) := by
  intro deep p ok tv t w g hd hf
  have HLT := Aside0.mk hL
  have HOT := Aside0.mk hO
  clear hL hO
  have hh := here_walk w0 w b s p tv g.rdr.1 g.place hs
  have hok := here_ok (s.data.toList.drop p) p
  have hadv := here_adv (s.data.toList.drop p) p
  obtain ⟨res, hres⟩ : ∃ r, value (f + 1) deep (s.data.toList.drop p) p t = r := ⟨_, rfl⟩
  rw [hres]
  rw [value_succ] at hres
  generalize here (s.data.toList.drop p) p = r at *
  cases r with
  | no pp ee =>
    have hw2 : Calls Tryd.prog 20 #[.pointer (some ⟨b, 0, none⟩)] w fun e w' => e = halted (pp : Int) ee ∧ Below w0.heap.size w0 w' := hh
    have HRes := Aside0.mk (show R.no pp ee = res from hres)
    clear hh hok hadv hres
    go_enter Tryd.func17, Tryd.ntmps17
    go_wp2_with (go_at_call 20; refine hw2.mono ?_; rintro e w1 ⟨rfl, hB1⟩)
    rw [← HRes.out]
    exact ⟨rfl, rfl, hB1⟩
  | ok l q c =>
    have hlc := hok l q c rfl
    have hpq := hadv l q c rfl
    have hw2 : Calls Tryd.prog 20 #[.pointer (some ⟨b, 0, none⟩)] w fun e w' => e = .returned (.int .u8 (c.toNat : Int)) ∧ l = s.data.toList.drop q ∧ q ≤ s.size ∧ At w0 b s (q : Int) tv w' ∧ KeepBut w w' b none := hh
    clear hh hok hadv
    by_cases hq : l = s.data.toList.drop q ∧ q ≤ s.size
    rotate_left
    · have HQ := Aside0.mk hq
      clear hq hres
      go_enter Tryd.func17, Tryd.ntmps17
      go_wp2_with (go_at_call 20; refine hw2.mono ?_; rintro e w1 ⟨rfl, hl1, hq1, hA1, hk1⟩; exact absurd ⟨hl1, hq1⟩ HQ.out)
    obtain ⟨hlq, hqs⟩ := hq
    obtain ⟨hlt, htl⟩ := drop_tail hlc hlq
    have hw3 : Calls Tryd.prog 20 #[.pointer (some ⟨b, 0, none⟩)] w fun e w' => e = .returned (.int .u8 (c.toNat : Int)) ∧ At w0 b s (q : Int) tv w' ∧ KeepBut w w' b none := hw2.mono fun e w' h => ⟨h.1, h.2.2.2⟩
    clear hw2
    rw [R.bind_ok] at hres
    unfold valueOn at hres
    rw [htl] at hres
    rw [hlq] at hres
    clear hlc
    have hzq0 : (0 : Int) ≤ (q : Int) := by omega
    have hzq1 : (q : Int) ≤ 65536 := by omega
    have hcu := c.toNat_lt
    have hc110 : ((c.toNat : Int) == 110) = decide (c = 110) := byte_eq c 110
    have hc116 : ((c.toNat : Int) == 116) = decide (c = 116) := byte_eq c 116
    have hc102 : ((c.toNat : Int) == 102) = decide (c = 102) := byte_eq c 102
    have hc34 : ((c.toNat : Int) == 34) = decide (c = 34) := byte_eq c 34
    have hc45 : ((c.toNat : Int) == 45) = decide (c = 45) := byte_eq c 45
    have hc91 : ((c.toNat : Int) == 91) = decide (c = 91) := byte_eq c 91
    have hc123 : ((c.toNat : Int) == 123) = decide (c = 123) := byte_eq c 123
    obtain ⟨cn, hcn⟩ : ∃ cn : Int, (c.toNat : Int) = cn := ⟨_, rfl⟩
    rw [hcn] at hw3 hc110 hc116 hc102 hc34 hc45 hc91 hc123
    have hcn0 : 0 ≤ cn := by omega
    have hcn1 : cn < 256 := by omega
    by_cases h110 : c = 110
    · rw [if_pos h110] at hres
      have e110 : (cn == 110) = true := hc110.trans (decide_eq_true h110)
      have hcw := fun (w1 : World) (h : At w0 b s (q : Int) tv w1) => word_walk w0 w1 b s ⟨#[110, 117, 108, 108]⟩ q tv h hqs hs (by decide)
      generalize hrw : word [110, 117, 108, 108] (s.data.toList.drop q) q = rw1 at *
      clear hrw
      have HC := Aside0.mk hcw
      clear hcw
      cases rw1 with
      | no pp ee =>
        have HRes := Aside0.mk (show R.no pp ee = res from hres)
        clear hres hc110 hc116 hc102 hc34 hc45 hc91 hc123 hcn hlq htl
        go_enter Tryd.func17, Tryd.ntmps17
        go_wp2_with (first
          | (go_at_call 20; refine hw3.mono ?_; rintro e w1 ⟨rfl, hA1, hk1⟩; have hc1 := hA1.c1; have hf1 := hA1.fr 1; have hg1 := g.moved hA1 hk1 hqs)
          | (go_at_call 21; refine (HC.out w1 hA1).mono ?_; rintro e w2 ⟨rfl, hB2⟩))
        rw [← HRes.out]
        exact ⟨rfl, rfl, hB2⟩
      | ok l2 p2 a2 =>
        rw [R.bind_ok] at hres
        unfold put at hres
        by_cases hbig : 8192 ≤ t.length
        · rw [if_pos hbig] at hres
          have HRes := Aside0.mk hres
          clear hres hc110 hc116 hc102 hc34 hc45 hc91 hc123 hcn hlq htl
          go_enter Tryd.func17, Tryd.ntmps17
          go_wp2_with (first
            | (go_at_call 20; refine hw3.mono ?_; rintro e w1 ⟨rfl, hA1, hk1⟩; have hc1 := hA1.c1; have hf1 := hA1.fr 1; have hg1 := g.moved hA1 hk1 hqs)
            | (go_at_call 21; refine (HC.out w1 hA1).mono ?_; rintro e w2 ⟨rfl, hl2, hp2, hA2, hk2⟩; have HL2 := Aside0.mk hl2; clear hl2; have hg2 := hg1.moved hA2 hk2 hp2)
            | (go_at_call 22; refine (put_no hg2 hbig 1 false 0 ⟨#[]⟩ q).mono ?_; rintro e w3 ⟨rfl, hB3⟩))
          rw [← HRes.out]
          exact ⟨rfl, rfl, hB3⟩
        · rw [if_neg hbig] at hres
          have HRes := Aside0.mk hres
          clear hres hc110 hc116 hc102 hc34 hc45 hc91 hc123 hcn hlq htl
          go_enter Tryd.func17, Tryd.ntmps17
          go_wp2_with (first
            | (go_at_call 20; refine hw3.mono ?_; rintro e w1 ⟨rfl, hA1, hk1⟩; have hc1 := hA1.c1; have hf1 := hA1.fr 1; have hg1 := g.moved hA1 hk1 hqs)
            | (go_at_call 21; refine (HC.out w1 hA1).mono ?_; rintro e w2 ⟨rfl, hl2, hp2, hA2, hk2⟩; have HL2 := Aside0.mk hl2; clear hl2; have hg2 := hg1.moved hA2 hk2 hp2)
            | (go_at_call 22; refine (put_ok hg2 hbig 1 false 0 ⟨#[]⟩ q).mono ?_; rintro e w3 ⟨rfl, hR3⟩))
          go_ret
          rw [← HRes.out]
          exact ⟨rfl, HL2.out, hp2, hR3.from (hk1.trans hk2 (.inl rfl))⟩
    rw [if_neg h110] at hres
    have e110 : (cn == 110) = false := hc110.trans (decide_eq_false h110)
    by_cases h116 : c = 116
    · rw [if_pos h116] at hres
      have e116 : (cn == 116) = true := hc116.trans (decide_eq_true h116)
      have hcw := fun (w1 : World) (h : At w0 b s (q : Int) tv w1) => word_walk w0 w1 b s ⟨#[116, 114, 117, 101]⟩ q tv h hqs hs (by decide)
      generalize hrw : word [116, 114, 117, 101] (s.data.toList.drop q) q = rw1 at *
      clear hrw
      have HC := Aside0.mk hcw
      clear hcw
      cases rw1 with
      | no pp ee =>
        have HRes := Aside0.mk (show R.no pp ee = res from hres)
        clear hres hc110 hc116 hc102 hc34 hc45 hc91 hc123 hcn hlq htl
        go_enter Tryd.func17, Tryd.ntmps17
        go_wp2_with (first
          | (go_at_call 20; refine hw3.mono ?_; rintro e w1 ⟨rfl, hA1, hk1⟩; have hc1 := hA1.c1; have hf1 := hA1.fr 1; have hg1 := g.moved hA1 hk1 hqs)
          | (go_at_call 21; refine (HC.out w1 hA1).mono ?_; rintro e w2 ⟨rfl, hB2⟩))
        rw [← HRes.out]
        exact ⟨rfl, rfl, hB2⟩
      | ok l2 p2 a2 =>
        rw [R.bind_ok] at hres
        unfold put at hres
        by_cases hbig : 8192 ≤ t.length
        · rw [if_pos hbig] at hres
          have HRes := Aside0.mk hres
          clear hres hc110 hc116 hc102 hc34 hc45 hc91 hc123 hcn hlq htl
          go_enter Tryd.func17, Tryd.ntmps17
          go_wp2_with (first
            | (go_at_call 20; refine hw3.mono ?_; rintro e w1 ⟨rfl, hA1, hk1⟩; have hc1 := hA1.c1; have hf1 := hA1.fr 1; have hg1 := g.moved hA1 hk1 hqs)
            | (go_at_call 21; refine (HC.out w1 hA1).mono ?_; rintro e w2 ⟨rfl, hl2, hp2, hA2, hk2⟩; have HL2 := Aside0.mk hl2; clear hl2; have hg2 := hg1.moved hA2 hk2 hp2)
            | (go_at_call 22; refine (put_no hg2 hbig 2 true 0 ⟨#[]⟩ q).mono ?_; rintro e w3 ⟨rfl, hB3⟩))
          rw [← HRes.out]
          exact ⟨rfl, rfl, hB3⟩
        · rw [if_neg hbig] at hres
          have HRes := Aside0.mk hres
          clear hres hc110 hc116 hc102 hc34 hc45 hc91 hc123 hcn hlq htl
          go_enter Tryd.func17, Tryd.ntmps17
          go_wp2_with (first
            | (go_at_call 20; refine hw3.mono ?_; rintro e w1 ⟨rfl, hA1, hk1⟩; have hc1 := hA1.c1; have hf1 := hA1.fr 1; have hg1 := g.moved hA1 hk1 hqs)
            | (go_at_call 21; refine (HC.out w1 hA1).mono ?_; rintro e w2 ⟨rfl, hl2, hp2, hA2, hk2⟩; have HL2 := Aside0.mk hl2; clear hl2; have hg2 := hg1.moved hA2 hk2 hp2)
            | (go_at_call 22; refine (put_ok hg2 hbig 2 true 0 ⟨#[]⟩ q).mono ?_; rintro e w3 ⟨rfl, hR3⟩))
          go_ret
          rw [← HRes.out]
          exact ⟨rfl, HL2.out, hp2, hR3.from (hk1.trans hk2 (.inl rfl))⟩
    rw [if_neg h116] at hres
    have e116 : (cn == 116) = false := hc116.trans (decide_eq_false h116)
    by_cases h102 : c = 102
    · rw [if_pos h102] at hres
      have e102 : (cn == 102) = true := hc102.trans (decide_eq_true h102)
      have hcw := fun (w1 : World) (h : At w0 b s (q : Int) tv w1) => word_walk w0 w1 b s ⟨#[102, 97, 108, 115, 101]⟩ q tv h hqs hs (by decide)
      generalize hrw : word [102, 97, 108, 115, 101] (s.data.toList.drop q) q = rw1 at *
      clear hrw
      have HC := Aside0.mk hcw
      clear hcw
      cases rw1 with
      | no pp ee =>
        have HRes := Aside0.mk (show R.no pp ee = res from hres)
        clear hres hc110 hc116 hc102 hc34 hc45 hc91 hc123 hcn hlq htl
        go_enter Tryd.func17, Tryd.ntmps17
        go_wp2_with (first
          | (go_at_call 20; refine hw3.mono ?_; rintro e w1 ⟨rfl, hA1, hk1⟩; have hc1 := hA1.c1; have hf1 := hA1.fr 1; have hg1 := g.moved hA1 hk1 hqs)
          | (go_at_call 21; refine (HC.out w1 hA1).mono ?_; rintro e w2 ⟨rfl, hB2⟩))
        rw [← HRes.out]
        exact ⟨rfl, rfl, hB2⟩
      | ok l2 p2 a2 =>
        rw [R.bind_ok] at hres
        unfold put at hres
        by_cases hbig : 8192 ≤ t.length
        · rw [if_pos hbig] at hres
          have HRes := Aside0.mk hres
          clear hres hc110 hc116 hc102 hc34 hc45 hc91 hc123 hcn hlq htl
          go_enter Tryd.func17, Tryd.ntmps17
          go_wp2_with (first
            | (go_at_call 20; refine hw3.mono ?_; rintro e w1 ⟨rfl, hA1, hk1⟩; have hc1 := hA1.c1; have hf1 := hA1.fr 1; have hg1 := g.moved hA1 hk1 hqs)
            | (go_at_call 21; refine (HC.out w1 hA1).mono ?_; rintro e w2 ⟨rfl, hl2, hp2, hA2, hk2⟩; have HL2 := Aside0.mk hl2; clear hl2; have hg2 := hg1.moved hA2 hk2 hp2)
            | (go_at_call 22; refine (put_no hg2 hbig 2 false 0 ⟨#[]⟩ q).mono ?_; rintro e w3 ⟨rfl, hB3⟩))
          rw [← HRes.out]
          exact ⟨rfl, rfl, hB3⟩
        · rw [if_neg hbig] at hres
          have HRes := Aside0.mk hres
          clear hres hc110 hc116 hc102 hc34 hc45 hc91 hc123 hcn hlq htl
          go_enter Tryd.func17, Tryd.ntmps17
          go_wp2_with (first
            | (go_at_call 20; refine hw3.mono ?_; rintro e w1 ⟨rfl, hA1, hk1⟩; have hc1 := hA1.c1; have hf1 := hA1.fr 1; have hg1 := g.moved hA1 hk1 hqs)
            | (go_at_call 21; refine (HC.out w1 hA1).mono ?_; rintro e w2 ⟨rfl, hl2, hp2, hA2, hk2⟩; have HL2 := Aside0.mk hl2; clear hl2; have hg2 := hg1.moved hA2 hk2 hp2)
            | (go_at_call 22; refine (put_ok hg2 hbig 2 false 0 ⟨#[]⟩ q).mono ?_; rintro e w3 ⟨rfl, hR3⟩))
          go_ret
          rw [← HRes.out]
          exact ⟨rfl, HL2.out, hp2, hR3.from (hk1.trans hk2 (.inl rfl))⟩
    rw [if_neg h102] at hres
    have e102 : (cn == 102) = false := hc102.trans (decide_eq_false h102)
    by_cases h34 : c = 34
    · rw [if_pos h34] at hres
      have e34 : (cn == 34) = true := hc34.trans (decide_eq_true h34)
      have hcw := fun (w1 : World) (h : At w0 b s (q : Int) tv w1) => text_walk w0 w1 b s q tv hG h hlt hs
      generalize hrw : text (s.data.toList.drop (q + 1)) (q + 1) = rw1 at *
      clear hrw
      have HC := Aside0.mk hcw
      clear hcw
      cases rw1 with
      | no pp ee =>
        have HRes := Aside0.mk (show R.no pp ee = res from hres)
        clear hres hc110 hc116 hc102 hc34 hc45 hc91 hc123 hcn hlq htl
        go_enter Tryd.func17, Tryd.ntmps17
        go_wp2_with (first
          | (go_at_call 20; refine hw3.mono ?_; rintro e w1 ⟨rfl, hA1, hk1⟩; have hc1 := hA1.c1; have hf1 := hA1.fr 1; have hg1 := g.moved hA1 hk1 hqs)
          | (go_at_call 23; refine (HC.out w1 hA1).mono ?_; rintro e w2 ⟨rfl, hB2⟩))
        rw [← HRes.out]
        exact ⟨rfl, rfl, hB2⟩
      | ok l2 p2 a2 =>
        rw [R.bind_ok] at hres
        unfold put at hres
        by_cases hbig : 8192 ≤ t.length
        · rw [if_pos hbig] at hres
          have HRes := Aside0.mk hres
          clear hres hc110 hc116 hc102 hc34 hc45 hc91 hc123 hcn hlq htl
          go_enter Tryd.func17, Tryd.ntmps17
          go_wp2_with (first
            | (go_at_call 20; refine hw3.mono ?_; rintro e w1 ⟨rfl, hA1, hk1⟩; have hc1 := hA1.c1; have hf1 := hA1.fr 1; have hg1 := g.moved hA1 hk1 hqs)
            | (go_at_call 23; refine (HC.out w1 hA1).mono ?_; rintro e w2 ⟨rfl, hl2, hp2, hA2, hk2⟩; have HL2 := Aside0.mk hl2; clear hl2; have hg2 := hg1.moved hA2 hk2 hp2)
            | (go_at_call 22; refine (put_no hg2 hbig 4 false 0 (str a2) q).mono ?_; rintro e w3 ⟨rfl, hB3⟩))
          rw [← HRes.out]
          exact ⟨rfl, rfl, hB3⟩
        · rw [if_neg hbig] at hres
          have HRes := Aside0.mk hres
          clear hres hc110 hc116 hc102 hc34 hc45 hc91 hc123 hcn hlq htl
          go_enter Tryd.func17, Tryd.ntmps17
          go_wp2_with (first
            | (go_at_call 20; refine hw3.mono ?_; rintro e w1 ⟨rfl, hA1, hk1⟩; have hc1 := hA1.c1; have hf1 := hA1.fr 1; have hg1 := g.moved hA1 hk1 hqs)
            | (go_at_call 23; refine (HC.out w1 hA1).mono ?_; rintro e w2 ⟨rfl, hl2, hp2, hA2, hk2⟩; have HL2 := Aside0.mk hl2; clear hl2; have hg2 := hg1.moved hA2 hk2 hp2)
            | (go_at_call 22; refine (put_ok hg2 hbig 4 false 0 (str a2) q).mono ?_; rintro e w3 ⟨rfl, hR3⟩))
          go_ret
          rw [← HRes.out]
          exact ⟨rfl, HL2.out, hp2, hR3.from (hk1.trans hk2 (.inl rfl))⟩
    rw [if_neg h34] at hres
    have e34 : (cn == 34) = false := hc34.trans (decide_eq_false h34)
    by_cases hnum : c = 45 ∨ (48 ≤ c.toNat ∧ c.toNat ≤ 57)
    · rw [if_pos hnum] at hres
      rcases hnum with hnum | hnum
      · have e45 : (cn == 45) = true := hc45.trans (decide_eq_true hnum)
        have hcw := fun (w1 : World) (h : At w0 b s (q : Int) tv w1) => number_walk w0 w1 b s q tv hGN h hqs hs
        generalize hrw : number (s.data.toList.drop q) q = rw1 at *
        clear hrw
        have HC := Aside0.mk hcw
        clear hcw
        cases rw1 with
        | no pp ee =>
          have HRes := Aside0.mk (show R.no pp ee = res from hres)
          clear hres hc110 hc116 hc102 hc34 hc45 hc91 hc123 hcn hlq htl
          go_enter Tryd.func17, Tryd.ntmps17
          go_wp2_with (first
            | (go_at_call 20; refine hw3.mono ?_; rintro e w1 ⟨rfl, hA1, hk1⟩; have hc1 := hA1.c1; have hf1 := hA1.fr 1; have hg1 := g.moved hA1 hk1 hqs)
            | (go_at_call 24; refine (HC.out w1 hA1).mono ?_; rintro e w2 ⟨rfl, hB2⟩))
          rw [← HRes.out]
          exact ⟨rfl, rfl, hB2⟩
        | ok l2 p2 a2 =>
          rw [R.bind_ok] at hres
          unfold put at hres
          by_cases hbig : 8192 ≤ t.length
          · rw [if_pos hbig] at hres
            have HRes := Aside0.mk hres
            clear hres hc110 hc116 hc102 hc34 hc45 hc91 hc123 hcn hlq htl
            go_enter Tryd.func17, Tryd.ntmps17
            go_wp2_with (first
              | (go_at_call 20; refine hw3.mono ?_; rintro e w1 ⟨rfl, hA1, hk1⟩; have hc1 := hA1.c1; have hf1 := hA1.fr 1; have hg1 := g.moved hA1 hk1 hqs)
              | (go_at_call 24; refine (HC.out w1 hA1).mono ?_; rintro e w2 ⟨rfl, hl2, hp2, hA2, hk2⟩; have HL2 := Aside0.mk hl2; clear hl2; have hg2 := hg1.moved hA2 hk2 hp2)
              | (go_at_call 22; refine (put_no hg2 hbig 3 false a2 ⟨#[]⟩ q).mono ?_; rintro e w3 ⟨rfl, hB3⟩))
            rw [← HRes.out]
            exact ⟨rfl, rfl, hB3⟩
          · rw [if_neg hbig] at hres
            have HRes := Aside0.mk hres
            clear hres hc110 hc116 hc102 hc34 hc45 hc91 hc123 hcn hlq htl
            go_enter Tryd.func17, Tryd.ntmps17
            go_wp2_with (first
              | (go_at_call 20; refine hw3.mono ?_; rintro e w1 ⟨rfl, hA1, hk1⟩; have hc1 := hA1.c1; have hf1 := hA1.fr 1; have hg1 := g.moved hA1 hk1 hqs)
              | (go_at_call 24; refine (HC.out w1 hA1).mono ?_; rintro e w2 ⟨rfl, hl2, hp2, hA2, hk2⟩; have HL2 := Aside0.mk hl2; clear hl2; have hg2 := hg1.moved hA2 hk2 hp2)
              | (go_at_call 22; refine (put_ok hg2 hbig 3 false a2 ⟨#[]⟩ q).mono ?_; rintro e w3 ⟨rfl, hR3⟩))
            go_ret
            rw [← HRes.out]
            exact ⟨rfl, HL2.out, hp2, hR3.from (hk1.trans hk2 (.inl rfl))⟩
      · have e45 : (cn == 45) = false := hc45.trans (decide_eq_false (fun e => by rw [e] at hnum; revert hnum; decide))
        have e48 : decide (48 ≤ cn) = true := decide_eq_true (by omega)
        have e57 : decide (cn ≤ 57) = true := decide_eq_true (by omega)
        have hcw := fun (w1 : World) (h : At w0 b s (q : Int) tv w1) => number_walk w0 w1 b s q tv hGN h hqs hs
        generalize hrw : number (s.data.toList.drop q) q = rw1 at *
        clear hrw
        have HC := Aside0.mk hcw
        clear hcw
        cases rw1 with
        | no pp ee =>
          have HRes := Aside0.mk (show R.no pp ee = res from hres)
          clear hres hc110 hc116 hc102 hc34 hc45 hc91 hc123 hcn hlq htl
          go_enter Tryd.func17, Tryd.ntmps17
          go_wp2_with (first
            | (go_at_call 20; refine hw3.mono ?_; rintro e w1 ⟨rfl, hA1, hk1⟩; have hc1 := hA1.c1; have hf1 := hA1.fr 1; have hg1 := g.moved hA1 hk1 hqs)
            | (go_at_call 24; refine (HC.out w1 hA1).mono ?_; rintro e w2 ⟨rfl, hB2⟩))
          rw [← HRes.out]
          exact ⟨rfl, rfl, hB2⟩
        | ok l2 p2 a2 =>
          rw [R.bind_ok] at hres
          unfold put at hres
          by_cases hbig : 8192 ≤ t.length
          · rw [if_pos hbig] at hres
            have HRes := Aside0.mk hres
            clear hres hc110 hc116 hc102 hc34 hc45 hc91 hc123 hcn hlq htl
            go_enter Tryd.func17, Tryd.ntmps17
            go_wp2_with (first
              | (go_at_call 20; refine hw3.mono ?_; rintro e w1 ⟨rfl, hA1, hk1⟩; have hc1 := hA1.c1; have hf1 := hA1.fr 1; have hg1 := g.moved hA1 hk1 hqs)
              | (go_at_call 24; refine (HC.out w1 hA1).mono ?_; rintro e w2 ⟨rfl, hl2, hp2, hA2, hk2⟩; have HL2 := Aside0.mk hl2; clear hl2; have hg2 := hg1.moved hA2 hk2 hp2)
              | (go_at_call 22; refine (put_no hg2 hbig 3 false a2 ⟨#[]⟩ q).mono ?_; rintro e w3 ⟨rfl, hB3⟩))
            rw [← HRes.out]
            exact ⟨rfl, rfl, hB3⟩
          · rw [if_neg hbig] at hres
            have HRes := Aside0.mk hres
            clear hres hc110 hc116 hc102 hc34 hc45 hc91 hc123 hcn hlq htl
            go_enter Tryd.func17, Tryd.ntmps17
            go_wp2_with (first
              | (go_at_call 20; refine hw3.mono ?_; rintro e w1 ⟨rfl, hA1, hk1⟩; have hc1 := hA1.c1; have hf1 := hA1.fr 1; have hg1 := g.moved hA1 hk1 hqs)
              | (go_at_call 24; refine (HC.out w1 hA1).mono ?_; rintro e w2 ⟨rfl, hl2, hp2, hA2, hk2⟩; have HL2 := Aside0.mk hl2; clear hl2; have hg2 := hg1.moved hA2 hk2 hp2)
              | (go_at_call 22; refine (put_ok hg2 hbig 3 false a2 ⟨#[]⟩ q).mono ?_; rintro e w3 ⟨rfl, hR3⟩))
            go_ret
            rw [← HRes.out]
            exact ⟨rfl, HL2.out, hp2, hR3.from (hk1.trans hk2 (.inl rfl))⟩
    rw [if_neg hnum] at hres
    have e45 : (cn == 45) = false := hc45.trans (decide_eq_false (fun e => hnum (.inl e)))
    have hn2 : decide (48 ≤ cn) = false ∨ (decide (48 ≤ cn) = true ∧ decide (cn ≤ 57) = false) := by
      by_cases h1 : 48 ≤ cn
      · exact .inr ⟨decide_eq_true h1, decide_eq_false (fun h2 => hnum (.inr ⟨by omega, by omega⟩))⟩
      · exact .inl (decide_eq_false h1)
    rcases hn2 with e48 | ⟨e48, e57⟩
    · by_cases hbr : c = 91 ∨ c = 123
      · rw [if_pos hbr] at hres
        by_cases hdp : 16 ≤ deep
        · rw [if_pos hdp] at hres
          have d1 : decide ((16 : Int) ≤ (deep : Int)) = true := decide_eq_true (by omega)
          have d2 : decide (16 ≤ deep) = true := decide_eq_true hdp
          have HRes := Aside0.mk hres
          rcases hbr with hbr | hbr
          · have e91 : (cn == 91) = true := hc91.trans (decide_eq_true hbr)
            clear hbr
            clear hres hc110 hc116 hc102 hc34 hc45 hc91 hc123 hcn hlq htl
            go_enter Tryd.func17, Tryd.ntmps17
            go_wp2_with (first
              | (go_at_call 20; refine hw3.mono ?_; rintro e w1 ⟨rfl, hA1, hk1⟩; have hc1 := hA1.c1; have hf1 := hA1.fr 1; have hg1 := g.moved hA1 hk1 hqs)
              | (go_at_call 19; refine (fail_walk _ _ _).mono ?_; rintro e w2 ⟨rfl, rfl⟩))
            rw [← HRes.out]
            exact ⟨rfl, rfl, hA1.2.1⟩
          · have e91 : (cn == 91) = false := hc91.trans (decide_eq_false (fun e => by rw [e] at hbr; revert hbr; decide))
            have e123 : (cn == 123) = true := hc123.trans (decide_eq_true hbr)
            clear hbr
            clear hres hc110 hc116 hc102 hc34 hc45 hc91 hc123 hcn hlq htl
            go_enter Tryd.func17, Tryd.ntmps17
            go_wp2_with (first
              | (go_at_call 20; refine hw3.mono ?_; rintro e w1 ⟨rfl, hA1, hk1⟩; have hc1 := hA1.c1; have hf1 := hA1.fr 1; have hg1 := g.moved hA1 hk1 hqs)
              | (go_at_call 19; refine (fail_walk _ _ _).mono ?_; rintro e w2 ⟨rfl, rfl⟩))
            rw [← HRes.out]
            exact ⟨rfl, rfl, hA1.2.1⟩
        · rw [if_neg hdp] at hres
          have d1 : decide ((16 : Int) ≤ (deep : Int)) = false := decide_eq_false (by omega)
          have d2 : decide (16 ≤ deep) = false := decide_eq_false hdp
          have hd15 : deep ≤ 15 := by omega
          have hfu : 2 * (s.size - (q + 1)) + 1 < f := by omega
          by_cases hbl : c = 91
          · rw [if_pos hbl] at hres
            have e91 : (cn == 91) = true := hc91.trans (decide_eq_true hbl)
            clear hbr hbl
            have hcw := fun (w1 : World) (h : Given w0 b s (q + 1) ok tv t w1) => HLT.out deep q (q + 1) ok tv t w1 h hd15 hfu
            generalize hrw : listF f deep q (s.data.toList.drop (q + 1)) (q + 1) t = rw1 at *
            clear hrw
            have HC := Aside0.mk hcw
            have HRes := Aside0.mk hres
            clear hcw
            cases rw1 with
            | no pp ee =>
              clear hres hc110 hc116 hc102 hc34 hc45 hc91 hc123 hcn hlq htl
              go_enter Tryd.func17, Tryd.ntmps17
              go_wp2_with (first
                | (go_at_call 20; refine hw3.mono ?_; rintro e w1 ⟨rfl, hA1, hk1⟩; have hc1 := hA1.c1; have hf1 := hA1.fr 1; have hg1 := g.moved hA1 hk1 hqs)
                | (go_at_call 25; refine (HC.out _ (hg1.step hlt)).mono ?_; rintro e w2 ⟨rfl, hB2⟩))
              rw [← HRes.out]
              exact ⟨rfl, rfl, hB2⟩
            | ok l2 p2 v2 =>
              clear hres hc110 hc116 hc102 hc34 hc45 hc91 hc123 hcn hlq htl
              go_enter Tryd.func17, Tryd.ntmps17
              go_wp2_with (first
                | (go_at_call 20; refine hw3.mono ?_; rintro e w1 ⟨rfl, hA1, hk1⟩; have hc1 := hA1.c1; have hf1 := hA1.fr 1; have hg1 := g.moved hA1 hk1 hqs)
                | (go_at_call 25; refine (HC.out _ (hg1.step hlt)).mono ?_; rintro e w2 ⟨rfl, hl2, hp2, hR2⟩; have HL2 := Aside0.mk hl2; clear hl2; have hR3 : Grew w0 b s p2 ok tv v2.1 _ w2 := hR2; clear hR2))
              go_ret
              rw [← HRes.out]
              exact ⟨rfl, HL2.out, hp2, hR3.from (hk1.set_ 1 _)⟩
          · rw [if_neg hbl] at hres
            have e91 : (cn == 91) = false := hc91.trans (decide_eq_false hbl)
            have e123 : (cn == 123) = true := hc123.trans (decide_eq_true (hbr.resolve_left hbl))
            clear hbr hbl
            have hcw := fun (w1 : World) (h : Given w0 b s (q + 1) ok tv t w1) => HOT.out deep q (q + 1) ok tv t w1 h hd15 hfu
            generalize hrw : objectF f deep q (s.data.toList.drop (q + 1)) (q + 1) t = rw1 at *
            clear hrw
            have HC := Aside0.mk hcw
            have HRes := Aside0.mk hres
            clear hcw
            cases rw1 with
            | no pp ee =>
              clear hres hc110 hc116 hc102 hc34 hc45 hc91 hc123 hcn hlq htl
              go_enter Tryd.func17, Tryd.ntmps17
              go_wp2_with (first
                | (go_at_call 20; refine hw3.mono ?_; rintro e w1 ⟨rfl, hA1, hk1⟩; have hc1 := hA1.c1; have hf1 := hA1.fr 1; have hg1 := g.moved hA1 hk1 hqs)
                | (go_at_call 26; refine (HC.out _ (hg1.step hlt)).mono ?_; rintro e w2 ⟨rfl, hB2⟩))
              rw [← HRes.out]
              exact ⟨rfl, rfl, hB2⟩
            | ok l2 p2 v2 =>
              clear hres hc110 hc116 hc102 hc34 hc45 hc91 hc123 hcn hlq htl
              go_enter Tryd.func17, Tryd.ntmps17
              go_wp2_with (first
                | (go_at_call 20; refine hw3.mono ?_; rintro e w1 ⟨rfl, hA1, hk1⟩; have hc1 := hA1.c1; have hf1 := hA1.fr 1; have hg1 := g.moved hA1 hk1 hqs)
                | (go_at_call 26; refine (HC.out _ (hg1.step hlt)).mono ?_; rintro e w2 ⟨rfl, hl2, hp2, hR2⟩; have HL2 := Aside0.mk hl2; clear hl2; have hR3 : Grew w0 b s p2 ok tv v2.1 _ w2 := hR2; clear hR2))
              go_ret
              rw [← HRes.out]
              exact ⟨rfl, HL2.out, hp2, hR3.from (hk1.set_ 1 _)⟩
      · rw [if_neg hbr] at hres
        have e91 : (cn == 91) = false := hc91.trans (decide_eq_false (fun e => hbr (.inl e)))
        have e123 : (cn == 123) = false := hc123.trans (decide_eq_false (fun e => hbr (.inr e)))
        have HRes := Aside0.mk hres
        clear hbr
        clear hres hc110 hc116 hc102 hc34 hc45 hc91 hc123 hcn hlq htl
        go_enter Tryd.func17, Tryd.ntmps17
        go_wp2_with (first
          | (go_at_call 20; refine hw3.mono ?_; rintro e w1 ⟨rfl, hA1, hk1⟩; have hc1 := hA1.c1; have hf1 := hA1.fr 1; have hg1 := g.moved hA1 hk1 hqs)
          | (go_at_call 19; refine (fail_walk _ _ _).mono ?_; rintro e w2 ⟨rfl, rfl⟩))
        rw [← HRes.out]
        exact ⟨rfl, rfl, hA1.2.1⟩
    · by_cases hbr : c = 91 ∨ c = 123
      · rw [if_pos hbr] at hres
        by_cases hdp : 16 ≤ deep
        · rw [if_pos hdp] at hres
          have d1 : decide ((16 : Int) ≤ (deep : Int)) = true := decide_eq_true (by omega)
          have d2 : decide (16 ≤ deep) = true := decide_eq_true hdp
          have HRes := Aside0.mk hres
          rcases hbr with hbr | hbr
          · have e91 : (cn == 91) = true := hc91.trans (decide_eq_true hbr)
            clear hbr
            clear hres hc110 hc116 hc102 hc34 hc45 hc91 hc123 hcn hlq htl
            go_enter Tryd.func17, Tryd.ntmps17
            go_wp2_with (first
              | (go_at_call 20; refine hw3.mono ?_; rintro e w1 ⟨rfl, hA1, hk1⟩; have hc1 := hA1.c1; have hf1 := hA1.fr 1; have hg1 := g.moved hA1 hk1 hqs)
              | (go_at_call 19; refine (fail_walk _ _ _).mono ?_; rintro e w2 ⟨rfl, rfl⟩))
            rw [← HRes.out]
            exact ⟨rfl, rfl, hA1.2.1⟩
          · have e91 : (cn == 91) = false := hc91.trans (decide_eq_false (fun e => by rw [e] at hbr; revert hbr; decide))
            have e123 : (cn == 123) = true := hc123.trans (decide_eq_true hbr)
            clear hbr
            clear hres hc110 hc116 hc102 hc34 hc45 hc91 hc123 hcn hlq htl
            go_enter Tryd.func17, Tryd.ntmps17
            go_wp2_with (first
              | (go_at_call 20; refine hw3.mono ?_; rintro e w1 ⟨rfl, hA1, hk1⟩; have hc1 := hA1.c1; have hf1 := hA1.fr 1; have hg1 := g.moved hA1 hk1 hqs)
              | (go_at_call 19; refine (fail_walk _ _ _).mono ?_; rintro e w2 ⟨rfl, rfl⟩))
            rw [← HRes.out]
            exact ⟨rfl, rfl, hA1.2.1⟩
        · rw [if_neg hdp] at hres
          have d1 : decide ((16 : Int) ≤ (deep : Int)) = false := decide_eq_false (by omega)
          have d2 : decide (16 ≤ deep) = false := decide_eq_false hdp
          have hd15 : deep ≤ 15 := by omega
          have hfu : 2 * (s.size - (q + 1)) + 1 < f := by omega
          by_cases hbl : c = 91
          · rw [if_pos hbl] at hres
            have e91 : (cn == 91) = true := hc91.trans (decide_eq_true hbl)
            clear hbr hbl
            have hcw := fun (w1 : World) (h : Given w0 b s (q + 1) ok tv t w1) => HLT.out deep q (q + 1) ok tv t w1 h hd15 hfu
            generalize hrw : listF f deep q (s.data.toList.drop (q + 1)) (q + 1) t = rw1 at *
            clear hrw
            have HC := Aside0.mk hcw
            have HRes := Aside0.mk hres
            clear hcw
            cases rw1 with
            | no pp ee =>
              clear hres hc110 hc116 hc102 hc34 hc45 hc91 hc123 hcn hlq htl
              go_enter Tryd.func17, Tryd.ntmps17
              go_wp2_with (first
                | (go_at_call 20; refine hw3.mono ?_; rintro e w1 ⟨rfl, hA1, hk1⟩; have hc1 := hA1.c1; have hf1 := hA1.fr 1; have hg1 := g.moved hA1 hk1 hqs)
                | (go_at_call 25; refine (HC.out _ (hg1.step hlt)).mono ?_; rintro e w2 ⟨rfl, hB2⟩))
              rw [← HRes.out]
              exact ⟨rfl, rfl, hB2⟩
            | ok l2 p2 v2 =>
              clear hres hc110 hc116 hc102 hc34 hc45 hc91 hc123 hcn hlq htl
              go_enter Tryd.func17, Tryd.ntmps17
              go_wp2_with (first
                | (go_at_call 20; refine hw3.mono ?_; rintro e w1 ⟨rfl, hA1, hk1⟩; have hc1 := hA1.c1; have hf1 := hA1.fr 1; have hg1 := g.moved hA1 hk1 hqs)
                | (go_at_call 25; refine (HC.out _ (hg1.step hlt)).mono ?_; rintro e w2 ⟨rfl, hl2, hp2, hR2⟩; have HL2 := Aside0.mk hl2; clear hl2; have hR3 : Grew w0 b s p2 ok tv v2.1 _ w2 := hR2; clear hR2))
              go_ret
              rw [← HRes.out]
              exact ⟨rfl, HL2.out, hp2, hR3.from (hk1.set_ 1 _)⟩
          · rw [if_neg hbl] at hres
            have e91 : (cn == 91) = false := hc91.trans (decide_eq_false hbl)
            have e123 : (cn == 123) = true := hc123.trans (decide_eq_true (hbr.resolve_left hbl))
            clear hbr hbl
            have hcw := fun (w1 : World) (h : Given w0 b s (q + 1) ok tv t w1) => HOT.out deep q (q + 1) ok tv t w1 h hd15 hfu
            generalize hrw : objectF f deep q (s.data.toList.drop (q + 1)) (q + 1) t = rw1 at *
            clear hrw
            have HC := Aside0.mk hcw
            have HRes := Aside0.mk hres
            clear hcw
            cases rw1 with
            | no pp ee =>
              clear hres hc110 hc116 hc102 hc34 hc45 hc91 hc123 hcn hlq htl
              go_enter Tryd.func17, Tryd.ntmps17
              go_wp2_with (first
                | (go_at_call 20; refine hw3.mono ?_; rintro e w1 ⟨rfl, hA1, hk1⟩; have hc1 := hA1.c1; have hf1 := hA1.fr 1; have hg1 := g.moved hA1 hk1 hqs)
                | (go_at_call 26; refine (HC.out _ (hg1.step hlt)).mono ?_; rintro e w2 ⟨rfl, hB2⟩))
              rw [← HRes.out]
              exact ⟨rfl, rfl, hB2⟩
            | ok l2 p2 v2 =>
              clear hres hc110 hc116 hc102 hc34 hc45 hc91 hc123 hcn hlq htl
              go_enter Tryd.func17, Tryd.ntmps17
              go_wp2_with (first
                | (go_at_call 20; refine hw3.mono ?_; rintro e w1 ⟨rfl, hA1, hk1⟩; have hc1 := hA1.c1; have hf1 := hA1.fr 1; have hg1 := g.moved hA1 hk1 hqs)
                | (go_at_call 26; refine (HC.out _ (hg1.step hlt)).mono ?_; rintro e w2 ⟨rfl, hl2, hp2, hR2⟩; have HL2 := Aside0.mk hl2; clear hl2; have hR3 : Grew w0 b s p2 ok tv v2.1 _ w2 := hR2; clear hR2))
              go_ret
              rw [← HRes.out]
              exact ⟨rfl, HL2.out, hp2, hR3.from (hk1.set_ 1 _)⟩
      · rw [if_neg hbr] at hres
        have e91 : (cn == 91) = false := hc91.trans (decide_eq_false (fun e => hbr (.inl e)))
        have e123 : (cn == 123) = false := hc123.trans (decide_eq_false (fun e => hbr (.inr e)))
        have HRes := Aside0.mk hres
        clear hbr
        clear hres hc110 hc116 hc102 hc34 hc45 hc91 hc123 hcn hlq htl
        go_enter Tryd.func17, Tryd.ntmps17
        go_wp2_with (first
          | (go_at_call 20; refine hw3.mono ?_; rintro e w1 ⟨rfl, hA1, hk1⟩; have hc1 := hA1.c1; have hf1 := hA1.fr 1; have hg1 := g.moved hA1 hk1 hqs)
          | (go_at_call 19; refine (fail_walk _ _ _).mono ?_; rintro e w2 ⟨rfl, rfl⟩))
        rw [← HRes.out]
        exact ⟨rfl, rfl, hA1.2.1⟩

end Go.Proofs.YtipbcdjnemdciaaDoor.Js
