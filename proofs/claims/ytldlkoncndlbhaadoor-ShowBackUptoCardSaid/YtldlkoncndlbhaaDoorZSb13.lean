/- YtldlkoncndlbhaaDoorZSb13: texts of the seat (PlE, PlQ, PlN, PlG, Jay, JayS, JayD), one behind the other, without what this claim's theorem does not rest on. -/
import Derived.Test.YtldlkoncndlbhaaDoorZSb12
import Derived.Lib.ItoaNum
import Derived.Lib.MapLaws

set_option linter.unusedVariables false
set_option linter.unusedSimpArgs false
namespace Go.Proofs.YtldlkoncndlbhaaDoor.Js
open Go.RowKit Go.Lib Go.Proofs.YtldlkoncndlbhaaDoor.PSh
/-- A hexadecimal digit. -/
def hd (small : Bool) (k : Nat) : UInt8 := if k < 10 then UInt8.ofNat (48 + k) else if small = true then UInt8.ofNat (87 + k) else UInt8.ofNat (55 + k)
theorem digit_all : ∀ small : Bool, ∀ k : Nat, k < 16 → digit (hd small k) = some k := by decide
theorem digit_hd (small : Bool) (k : Nat) (h : k < 16) : digit (hd small k) = some k := digit_all small k h
/-- One escape. -/
def h4 (small : Bool) (n : Nat) : List UInt8 := [92, 117, hd small (n / 4096 % 16), hd small (n / 256 % 16), hd small (n / 16 % 16), hd small (n % 16)]
theorem hex_hd (small : Bool) (k j : Nat) (r : List UInt8) (p fr n : Nat) (h : j < 16) : hex (k + 1) (hd small j :: r) p fr n = hex k r (p + 1) fr (16 * n + j) := by
  rw [hex, digit_hd small j h]
theorem half_u (x : UInt8) (r : List UInt8) (p fr : Nat) : half (x :: 117 :: r) p fr = hex 4 r (p + 2) fr 0 := rfl
theorem half_h4 (small : Bool) (n : Nat) (hn : n < 65536) (r : List UInt8) (p fr : Nat) : half (h4 small n ++ r) p fr = .ok r (p + 6) n := by
  show half (92 :: 117 :: hd small (n / 4096 % 16) :: hd small (n / 256 % 16) :: hd small (n / 16 % 16) :: hd small (n % 16) :: r) p fr = _
  rw [half_u, hex_hd _ _ _ _ _ _ _ (by omega), hex_hd _ _ _ _ _ _ _ (by omega), hex_hd _ _ _ _ _ _ _ (by omega), hex_hd _ _ _ _ _ _ _ (by omega), hex]
  congr 1
  omega
theorem escape_one (small : Bool) (n : Nat) (hn : n < 65536) (h : n < 55296 ∨ 57343 < n) (r : List UInt8) (p : Nat) : escape (h4 small n ++ r) p = .ok r (p + 6) n := by
  unfold escape
  rw [half_h4 small n hn, R.bind_ok, if_neg (by omega), if_pos (by omega)]
theorem textGo_escape (f : Nat) (r : List UInt8) (p : Nat) (out : List UInt8) : textGo (f + 1) (92 :: r) p out = (escape (92 :: r) p).bind fun l1 p1 n => textGo f l1 p1 (out ++ encodeRune n) := by
  rw [textGo_cons, if_neg (by decide), if_neg (by decide), if_pos rfl]
theorem value_text (f deep : Nat) (r : List UInt8) (p : Nat) (t : List S39) : value (f + 1) deep (34 :: r) p t = (text r (p + 1)).bind fun l1 p1 s => put t p ⟨4, false, 0, str s, [], []⟩ l1 p1 := by
  rw [value_cons rfl]
  unfold valueOn
  rw [if_neg (by decide), if_neg (by decide), if_neg (by decide), if_pos rfl]
  rfl
/-- What is written for a rune. -/
def esc (small : Bool) (x : Nat) : List UInt8 := if x < 65536 then h4 small x else h4 small (55296 + (x - 65536) / 1024) ++ h4 small (56320 + (x - 65536) % 1024)
def whole (small : Bool) (x : Nat) : List UInt8 := 34 :: 97 :: (esc small x ++ [98, 34])
end Go.Proofs.YtldlkoncndlbhaaDoor.Js
set_option linter.unusedVariables false
set_option linter.unusedSimpArgs false
namespace Go.Proofs.YtldlkoncndlbhaaDoor.Js
open Go.RowKit Go.Lib Go.Proofs.YtldlkoncndlbhaaDoor.PSh Go.Proofs.YtldlkoncndlbhaaDoor.Utf
/-- The string as it is read back: what is no UTF-8 is the sign for it. -/
def fix (l : List UInt8) : List UInt8 := if _h : l = [] then [] else (if wid l = 0 then [239, 191, 189] else l.take (wid l)) ++ fix (l.drop (Utf.adv l))
termination_by l.length
decreasing_by
  rw [List.length_drop]
  have : 0 < l.length := List.length_pos_iff.2 _h
  have := adv_pos l
  omega
theorem fix_nil : fix [] = [] := by unfold fix; rw [dif_pos rfl]
theorem fix_step (l : List UInt8) (h : l ≠ []) : fix l = (if wid l = 0 then [239, 191, 189] else l.take (wid l)) ++ fix (l.drop (Utf.adv l)) := by
  conv => lhs; unfold fix
  rw [dif_neg h]
theorem fix_utf : ∀ (n : Nat) (l : List UInt8), l.length ≤ n → utf l = true → fix l = l
  | 0, l, hn, _ => by
    have : l = [] := List.eq_nil_of_length_eq_zero (by omega)
    subst this
    exact fix_nil
  | n + 1, l, hn, hu => by
    by_cases h : l = []
    · subst h; exact fix_nil
    · rw [utf, dif_neg h] at hu
      by_cases hw : wid l = 0
      · rw [dif_pos hw] at hu; cases hu
      · rw [dif_neg hw] at hu
        have hl := wid_le l
        rw [fix_step l h, if_neg hw, show Utf.adv l = wid l by unfold Utf.adv; rw [if_neg hw], fix_utf n (l.drop (wid l)) (by rw [List.length_drop]; omega) hu, List.take_append_drop]
theorem inner_nil' : Utf.inner [] = [] := by unfold Utf.inner; rw [dif_pos rfl]
theorem inner_step' (l : List UInt8) (h : l ≠ []) : Utf.inner l = Utf.piece l ++ Utf.inner (l.drop (Utf.adv l)) := by
  conv => lhs; unfold inner
  rw [dif_neg h]
theorem hexOf_hd (k : Nat) : hexOf k = hd true k := by
  unfold hexOf hd
  split
  · rfl
  · rfl
/-- A rune that stands as it is. -/
theorem textGo_rune (f : Nat) (c : UInt8) (r : List UInt8) (p : Nat) (out : List UInt8) (h1 : c ≠ 34) (h2 : c ≠ 92) (h3 : 32 ≤ c.toNat) (x w : Nat) (hd : decodeL (c :: r) = (x, w)) (hx : ¬ (x = 65533 ∧ w = 1)) :
    textGo (f + 1) (c :: r) p out = textGo f ((c :: r).drop w) (p + w) (out ++ (c :: r).take w) := by
  rw [textGo_cons, if_neg h1, if_neg (by omega), if_neg h2, hd, if_neg (by intro e; injection e with e1 e2; exact hx ⟨e1, e2⟩)]
theorem text_inner : ∀ (n : Nat) (l : List UInt8), l.length ≤ n → ∀ (f p : Nat) (out r : List UInt8), l.length < f → textGo f (Utf.inner l ++ 34 :: r) p out = .ok r (p + (Utf.inner l).length + 1) (out ++ fix l)
  | n, [], _, f, p, out, r, hf => by
    obtain ⟨f, rfl⟩ : ∃ k, f = k + 1 := ⟨f - 1, by omega⟩
    rw [inner_nil', fix_nil, List.append_nil, List.nil_append, textGo_end]
    rfl
  | 0, a :: t, hn, f, p, out, r, hf => by rw [List.length_cons] at hn; omega
  | n + 1, a :: t, hn, f, p, out, r, hf => by
    obtain ⟨f, rfl⟩ : ∃ k, f = k + 1 := ⟨f - 1, by omega⟩
    have hne : a :: t ≠ [] := by simp
    have hap := adv_pos (a :: t)
    have hdl : ((a :: t).drop (Utf.adv (a :: t))).length ≤ n := by rw [List.length_drop]; omega
    have hdf : ((a :: t).drop (Utf.adv (a :: t))).length < f := by rw [List.length_drop]; rw [List.length_cons] at hf hn ⊢; omega
    rw [inner_step' _ hne, fix_step _ hne, List.append_assoc]
    have key : ∀ (pc part : List UInt8), Utf.piece (a :: t) = pc → (if wid (a :: t) = 0 then [239, 191, 189] else (a :: t).take (wid (a :: t))) = part →
        (∀ X, textGo (f + 1) (pc ++ X) p out = textGo f X (p + pc.length) (out ++ part)) →
        textGo (f + 1) (Utf.piece (a :: t) ++ (Utf.inner ((a :: t).drop (Utf.adv (a :: t))) ++ 34 :: r)) p out = .ok r (p + (Utf.piece (a :: t) ++ Utf.inner ((a :: t).drop (Utf.adv (a :: t)))).length + 1) (out ++ ((if wid (a :: t) = 0 then [239, 191, 189] else (a :: t).take (wid (a :: t))) ++ fix ((a :: t).drop (Utf.adv (a :: t))))) := by
      intro pc part e1 e2 hX
      rw [e1, e2, hX, text_inner n _ hdl f _ _ r hdf, List.length_append, List.append_assoc, Nat.add_assoc p]
    by_cases hw : wid (a :: t) = 0
    · refine key [239, 191, 189] [239, 191, 189] (by unfold Utf.piece; rw [if_pos hw]) (by rw [if_pos hw]) fun X => ?_
      exact textGo_rune f 239 (191 :: 189 :: X) p out (by decide) (by decide) (by decide) 65533 3 (dec_three 239 191 189 X (by decide) (by decide) (by decide) (by decide) (by decide) (by decide)) (by decide)
    · by_cases hm : a = 34 ∨ a = 92
      · have ha : a.toNat < 128 := by rcases hm with rfl | rfl <;> decide
        have hw1 := (dec_head a t ha).2
        refine key [92, a] [a] (by unfold Utf.piece; rw [if_neg hw, if_pos (hm.elim (fun e => .inl (by rw [e]; rfl)) (fun e => .inr (by rw [e]; rfl)))]; rfl) (by rw [if_neg hw, hw1]; rfl) fun X => ?_
        show textGo (f + 1) (92 :: a :: X) p out = _
        have he : escape (92 :: a :: X) p = .ok X (p + 2) a.toNat := by rcases hm with rfl | rfl <;> rfl
        have hen : encodeRune ((a.toNat : Nat) : Int) = [a] := by rcases hm with rfl | rfl <;> decide
        rw [textGo_escape, he, R.bind_ok, hen]
        rfl
      · have h34 : ¬ ((a :: t).head? = some 34 ∨ (a :: t).head? = some 92) := fun e => hm (e.elim (fun e => .inl (Option.some.inj e)) (fun e => .inr (Option.some.inj e)))
        by_cases hlo : a.toNat < 32
        · have hw1 := (dec_head a t (by omega)).2
          refine key [92, 117, 48, 48, hexOf (a.toNat / 16), hexOf (a.toNat % 16)] [a] (by unfold Utf.piece; rw [if_neg hw, if_neg h34]; exact if_pos hlo) (by rw [if_neg hw, hw1]; rfl) fun X => ?_
          show textGo (f + 1) (92 :: 117 :: 48 :: 48 :: hexOf (a.toNat / 16) :: hexOf (a.toNat % 16) :: X) p out = _
          have e4 : h4 true a.toNat = [92, 117, 48, 48, hexOf (a.toNat / 16), hexOf (a.toNat % 16)] := by
            unfold h4
            rw [hexOf_hd, hexOf_hd, show a.toNat / 4096 % 16 = 0 by omega, show a.toNat / 256 % 16 = 0 by omega, show a.toNat / 16 % 16 = a.toNat / 16 by omega]
            rfl
          have he := escape_one true a.toNat (by omega) (by omega) X p
          rw [e4] at he
          have hen : encodeRune ((a.toNat : Nat) : Int) = [a] := by
            unfold encodeRune
            rw [encodeRuneZ_one (by omega) (by omega)]
            show [((a.toNat : Int)).toNat.toUInt8] = [a]
            rw [enc_byte _ a rfl]
          rw [textGo_escape]
          rw [show (92 :: 117 :: 48 :: 48 :: hexOf (a.toNat / 16) :: hexOf (a.toNat % 16) :: X) = [92, 117, 48, 48, hexOf (a.toNat / 16), hexOf (a.toNat % 16)] ++ X from rfl, he, R.bind_ok, hen]
          rfl
        · have hpc : Utf.piece (a :: t) = (a :: t).take (wid (a :: t)) := by unfold Utf.piece; rw [if_neg hw, if_neg h34]; exact if_neg hlo
          have hn1 : a ≠ 34 := fun e => hm (.inl e)
          have hn2 : a ≠ 92 := fun e => hm (.inr e)
          refine key _ _ hpc (by rw [if_neg hw]) fun X => ?_
          rcases wid_shape (a :: t) hw with ⟨a', r', e, h1, hw'⟩ | ⟨a', b, r', e, h0, h1, hb, hw'⟩ | ⟨a', b, c, r', e, h0, h1, hb, hc, h2, h3, hw'⟩ | ⟨a', b, c, d, r', e, h0, h1, hb, hc, hd, h2, h3, hw'⟩
          · injection e with e1 e2
            subst e1
            rw [hw']
            exact textGo_rune f a X p out hn1 hn2 (by omega) a.toNat 1 (dec_one a X h1) (by omega)
          · injection e with e1 e2
            subst e1
            subst e2
            rw [hw']
            exact textGo_rune f a (b :: X) p out hn1 hn2 (by omega) _ 2 (dec_two a b X h0 h1 hb) (by omega)
          · injection e with e1 e2
            subst e1
            subst e2
            rw [hw']
            exact textGo_rune f a (b :: c :: X) p out hn1 hn2 (by omega) _ 3 (dec_three a b c X h0 h1 hb hc h2 h3) (by omega)
          · injection e with e1 e2
            subst e1
            subst e2
            rw [hw']
            exact textGo_rune f a (b :: c :: d :: X) p out hn1 hn2 (by omega) _ 4 (dec_four a b c d X h0 h1 hb hc hd h2 h3) (by omega)
/-- Enough rounds: a string has no more runes than its text has bytes. -/
theorem inner_ge : ∀ (n : Nat) (l : List UInt8), l.length ≤ n → l.length ≤ (Utf.inner l).length
  | n, [], _ => Nat.zero_le _
  | 0, a :: t, hn => by rw [List.length_cons] at hn; omega
  | n + 1, a :: t, hn => by
    have hne : a :: t ≠ [] := by simp
    have hap := adv_pos (a :: t)
    have ih := inner_ge n ((a :: t).drop (Utf.adv (a :: t))) (by rw [List.length_drop]; omega)
    rw [inner_step' _ hne, List.length_append]
    have hp : Utf.adv (a :: t) ≤ (Utf.piece (a :: t)).length := by
      unfold Utf.adv Utf.piece
      by_cases hw : wid (a :: t) = 0
      · rw [if_pos hw, if_pos hw]; decide
      · have hl := wid_le (a :: t)
        rw [if_neg hw, if_neg hw]
        have h1 : ∀ x : UInt8, a = x → x.toNat < 128 → wid (a :: t) = 1 := fun x e h => (dec_head a t (by rw [e]; exact h)).2
        split
        · rename_i h
          rcases h with h | h
          · rw [h1 34 (Option.some.inj h) (by decide)]; simp only [List.length_cons]; omega
          · rw [h1 92 (Option.some.inj h) (by decide)]; simp only [List.length_cons]; omega
        · split
          · rename_i h
            rw [h1 a rfl (by rw [List.headD_cons] at h; omega)]; simp only [List.length_cons]; omega
          · rw [List.length_take]; omega
    rw [List.length_drop] at ih
    omega
theorem text_quotes (s r : List UInt8) (p : Nat) : text (Utf.inner s ++ 34 :: r) p = .ok r (p + (Utf.inner s).length + 1) (fix s) := by
  unfold text
  rw [text_inner s.length s (Nat.le_refl _) _ p [] r (by have := inner_ge s.length s (Nat.le_refl _); rw [List.length_append]; omega), List.nil_append]
end Go.Proofs.YtldlkoncndlbhaaDoor.Js
set_option linter.unusedVariables false
set_option linter.unusedSimpArgs false
namespace Go.Proofs.YtldlkoncndlbhaaDoor.Np
def fit (a : Int) : Prop := -4611686018427387903 ≤ a ∧ a ≤ 4611686018427387903
instance (a : Int) : Decidable (fit a) := inferInstanceAs (Decidable (_ ∧ _))
theorem dec_step (u : Nat) (h : ¬ u < 10) : Lib.decDigits u = Lib.decDigits (u / 10) ++ [UInt8.ofNat (48 + u % 10)] := by
  rw [Lib.decDigits, dif_neg h]
theorem dec_last (u : Nat) (h : u < 10) : Lib.decDigits u = [UInt8.ofNat (48 + u)] := by
  rw [Lib.decDigits, dif_pos h]
theorem digit_dig (d : Nat) (h : d < 10) : dig (UInt8.ofNat (48 + d)) = true := by
  unfold dig
  rw [decide_eq_true_iff, UInt8.toNat_ofNat']
  omega
theorem dec_all (u : Nat) : (Lib.decDigits u).all dig = true := by
  induction u using Nat.strongRecOn with
  | _ u ih =>
    by_cases h : u < 10
    · rw [dec_last u h, List.all_cons, digit_dig u h]
      rfl
    · rw [dec_step u h, List.all_append, ih (u / 10) (by omega), List.all_cons, digit_dig (u % 10) (by omega)]
      rfl
theorem dec_ne (u : Nat) : Lib.decDigits u ≠ [] := by
  by_cases h : u < 10
  · rw [dec_last u h]; simp
  · rw [dec_step u h]; simp
theorem dec_head (u : Nat) (h0 : 0 < u) : (Lib.decDigits u).head? ≠ some 48 := by
  induction u using Nat.strongRecOn with
  | _ u ih =>
    by_cases h : u < 10
    · rw [dec_last u h]
      simp only [List.head?_cons, ne_eq, Option.some.injEq]
      intro e
      have := congrArg UInt8.toNat e
      rw [UInt8.toNat_ofNat'] at this
      have e48 : (48 : UInt8).toNat = 48 := rfl
      omega
    · rw [dec_step u h, List.head?_append]
      have hn := ih (u / 10) (by omega) (by omega)
      cases hd : (Lib.decDigits (u / 10)).head? with
      | none => exact absurd (List.head?_eq_none_iff.1 hd) (dec_ne _)
      | some c => rw [hd] at hn; simpa using hn
theorem dec_head_digit (u : Nat) : ∃ c r, Lib.decDigits u = c :: r ∧ dig c = true := by
  cases hl : Lib.decDigits u with
  | nil => exact absurd hl (dec_ne u)
  | cons c r =>
    have := dec_all u
    rw [hl, List.all_cons, Bool.and_eq_true] at this
    exact ⟨c, r, rfl, this.1⟩
/-- Reading the digits of u behind what acc stands for. -/
theorem read_dec (u : Nat) : ∀ (r : List UInt8), u < 18446744073709551616 → Lib.parseUint10 0 (Lib.decDigits u ++ r) = Lib.parseUint10 u r := by
  induction u using Nat.strongRecOn with
  | _ u ih =>
    intro r hu
    have one : ∀ (d a : Nat), d < 10 → a * 10 + d < 18446744073709551616 → Lib.parseUint10 a (UInt8.ofNat (48 + d) :: r) = Lib.parseUint10 (a * 10 + d) r := by
      intro d a hd ha
      have ht : (UInt8.ofNat (48 + d)).toNat = 48 + d := by rw [UInt8.toNat_ofNat']; omega
      conv => lhs; unfold Lib.parseUint10
      rw [ht, if_pos (by omega), if_neg (by omega), if_neg (by omega), show 48 + d - 48 = d from by omega]
    by_cases h : u < 10
    · rw [dec_last u h]
      have := one u 0 h (by omega)
      simpa using this
    · rw [dec_step u h, List.append_assoc]
      rw [ih (u / 10) (by omega) _ (by omega)]
      rw [List.singleton_append, one (u % 10) (u / 10) (by omega) (by omega)]
      congr 1
      omega
/-- What the text of a number is read as. -/
theorem parse_itoa (a : Int) (h0 : -9223372036854775808 ≤ a) (h1 : a ≤ 9223372036854775807) : parseG (Lib.itoa a) = if fit a then (a, 0) else (0, 10) := by
  have mag : ∀ u : Nat, u < 18446744073709551616 → Lib.parseMag (Lib.decDigits u) = .ok u := by
    intro u hu
    unfold Lib.parseMag
    rw [if_neg (dec_ne u)]
    have := read_dec u [] hu
    rw [List.append_nil] at this
    rw [this]
    rfl
  have tell : ∀ v : Int, told (.ok v) = if fit v then (v, 0) else (0, 10) := fun v => rfl
  unfold parseG
  by_cases hn : a < 0
  · have hi : Lib.itoa a = 45 :: Lib.decDigits a.natAbs := by unfold Lib.itoa; rw [if_pos hn]
    have hb : bare (Lib.itoa a) = Lib.decDigits a.natAbs := by rw [hi]; rfl
    have ha : Lib.atoiAll (Lib.itoa a) = .ok a := by
      rw [hi]
      unfold Lib.atoiAll
      simp only
      rw [if_pos (.inr (by rfl)), mag _ (by omega)]
      simp only
      rw [if_neg (fun e => e.1 rfl), if_neg (fun e => by omega), if_pos (show (45 : UInt8).toNat = 45 from rfl)]
      congr 1
      omega
    rw [hb, if_neg (dec_ne _), if_neg (fun e => dec_head a.natAbs (by omega) e.1), if_pos (dec_all _), ha, tell]
  · have hi : Lib.itoa a = Lib.decDigits a.toNat := by unfold Lib.itoa; rw [if_neg hn]
    obtain ⟨c, r, hcr, hc⟩ := dec_head_digit a.toNat
    have hc' : 48 ≤ c.toNat ∧ c.toNat ≤ 57 := of_decide_eq_true hc
    have hb : bare (Lib.itoa a) = Lib.decDigits a.toNat := by
      rw [hi, hcr]
      unfold bare
      rw [if_neg]
      simp only [List.head?_cons, Option.some.injEq]
      intro e
      rw [e] at hc'
      exact absurd hc'.1 (by decide)
    have ha : Lib.atoiAll (Lib.itoa a) = .ok a := by
      have hm := mag a.toNat (by omega)
      rw [hi]
      rw [hcr] at hm ⊢
      unfold Lib.atoiAll
      simp only
      rw [if_neg (by omega), hm]
      simp only
      rw [if_neg (fun e => by omega), if_neg (fun e => by omega), if_neg (by omega)]
      congr 1
      omega
    have hz : ¬ ((Lib.decDigits a.toNat).head? = some 48 ∧ Lib.itoa a ≠ [48]) := by
      rintro ⟨e1, e2⟩
      rcases Nat.eq_zero_or_pos a.toNat with h | h
      · rw [hi, h, dec_last 0 (by decide)] at e2
        exact e2 rfl
      · exact dec_head _ h e1
    rw [hb, if_neg (dec_ne _), if_neg hz, if_pos (dec_all _), ha, tell]
theorem itoa_head (a : Int) : ∃ c r, Lib.itoa a = c :: r ∧ (c = 45 ∨ (48 ≤ c.toNat ∧ c.toNat ≤ 57)) := by
  unfold Lib.itoa
  split
  · exact ⟨_, _, rfl, .inl rfl⟩
  · obtain ⟨c, r, e, h⟩ := dec_head_digit a.toNat
    exact ⟨c, r, e, .inr (of_decide_eq_true h)⟩
end Go.Proofs.YtldlkoncndlbhaaDoor.Np
namespace Go.Proofs.YtldlkoncndlbhaaDoor.Js
open Go.RowKit Go.Lib Go.Proofs.YtldlkoncndlbhaaDoor.PSh Go.Proofs.YtldlkoncndlbhaaDoor.Np
theorem numByte_dig {c : UInt8} (h : dig c = true) : numByte c = true := by
  unfold dig at h
  rw [decide_eq_true_eq] at h
  unfold numByte
  rw [decide_eq_true h.1, decide_eq_true h.2]
  simp
theorem itoa_bytes (a : Int) : (itoa a).all numByte = true := by
  have hd : ∀ u, (decDigits u).all numByte = true := fun u => by
    rw [List.all_eq_true]
    intro c hc
    exact numByte_dig (List.all_eq_true.1 (dec_all u) c hc)
  unfold itoa
  split
  · rw [List.all_cons, hd]; rfl
  · exact hd _
theorem numLen_all : ∀ (l : List UInt8) (c : UInt8) (r : List UInt8), l.all numByte = true → numByte c = false → numLen (l ++ c :: r) = l.length
  | [], c, r, _, hc => by rw [List.nil_append, numLen, hc]; rfl
  | x :: l, c, r, h, hc => by
    rw [List.all_cons, Bool.and_eq_true] at h
    rw [List.cons_append, numLen, if_pos h.1, numLen_all l c r h.2 hc, List.length_cons]
end Go.Proofs.YtldlkoncndlbhaaDoor.Js
set_option linter.unusedVariables false
set_option linter.unusedSimpArgs false
namespace Go.Proofs.YtldlkoncndlbhaaDoor.Js
open Go.RowKit Go.Lib Go.Proofs.YtldlkoncndlbhaaDoor.PSh Go.Proofs.YtldlkoncndlbhaaDoor.Np
theorem gap_len_le : ∀ l : List UInt8, gapLen l ≤ l.length
  | [] => Nat.le_refl _
  | c :: r => by
    rw [gapLen]
    split
    · rw [List.length_cons]; have := gap_len_le r; omega
    · exact Nat.zero_le _
theorem here_cases (l : List UInt8) (p : Nat) : (∃ c r, here l p = .ok (c :: r) (p + gapLen l) c ∧ l.drop (gapLen l) = c :: r ∧ gapLen l + (r.length + 1) = l.length) ∨ (here l p = .no (p + gapLen l) 21 ∧ l.drop (gapLen l) = [] ∧ gapLen l = l.length) := by
  have hg := gap_len_le l
  unfold here
  cases hd : l.drop (gapLen l) with
  | nil =>
    refine .inr ⟨rfl, rfl, ?_⟩
    have := congrArg List.length hd
    rw [List.length_drop, List.length_nil] at this
    omega
  | cons c r =>
    refine .inl ⟨c, r, rfl, rfl, ?_⟩
    have := congrArg List.length hd
    rw [List.length_drop, List.length_cons] at this
    omega
/-! Places and bytes -/
/-- Read, and what is left ends where the bytes end; or a fault within, with a number. -/
def Good {α : Type} (n : Nat) (r : R α) : Prop := match r with
  | .ok l q _ => q + l.length = n
  | .no q e => q ≤ n ∧ e ≠ 0
section
variable {α β : Type} {n : Nat}
theorem Good.no {q : Nat} {e : Int} (h : q ≤ n) (he : e ≠ 0) : Good n (.no q e : R α) := ⟨h, he⟩
theorem Good.ok {l : List UInt8} {q : Nat} {v : α} (h : q + l.length = n) : Good n (.ok l q v : R α) := h
theorem Good.ite {c : Prop} [Decidable c] {x y : R α} (hx : c → Good n x) (hy : ¬ c → Good n y) : Good n (if c then x else y) := by
  by_cases h : c
  · rw [if_pos h]; exact hx h
  · rw [if_neg h]; exact hy h
end
theorem good_more {n : Nat} (fin : UInt8) (l : List UInt8) (p : Nat) (h : p + l.length = n) : Good n (more fin l p) := by
  unfold more
  rcases here_cases l p with ⟨c, r, e, _, hl⟩ | ⟨e, _, hl⟩
  · rw [e, R.bind_ok]
    exact Good.ite (fun _ => Good.ok (by rw [List.tail_cons]; omega)) (fun _ => Good.no (by omega) (by decide))
  · rw [e, R.bind_no]; exact Good.no (by omega) (by decide)
/-- 'more' takes a byte at least. -/
theorem more_adv (fin : UInt8) (l : List UInt8) (p : Nat) {l' : List UInt8} {q : Nat} {d : Bool} (h : more fin l p = .ok l' q d) : l'.length < l.length := by
  have h1 := adv_more fin l p l' q d h
  have h2 := good_more fin l p rfl
  rw [h] at h2
  have h3 : q + l'.length = p + l.length := h2
  omega
/-! Fuel -/
/-! Blanks ahead: all places are later -/
def R.sh {α : Type} (k : Nat) : R α → R α
  | .ok l p v => .ok l (p + k) v
  | .no p e => .no (p + k) e
section
variable {α β : Type} {k : Nat}
end
section
variable (k : Nat)
end
end Go.Proofs.YtldlkoncndlbhaaDoor.Js
set_option linter.unusedVariables false
set_option linter.unusedSimpArgs false
namespace Go.Proofs.YtldlkoncndlbhaaDoor.Js
open Go.RowKit Go.Lib Go.Proofs.YtldlkoncndlbhaaDoor.PSh Go.Proofs.YtldlkoncndlbhaaDoor.Utf Go.Proofs.YtldlkoncndlbhaaDoor.Pl Go.Proofs.YtldlkoncndlbhaaDoor.Np
mutual
/-- A value. -/
inductive J where
  | null : J
  | bool : Bool → J
  | num : Int → J
  | str : ByteArray → J
  | list : JL → J
  | obj : JO → J
/-- A list's values. -/
inductive JL where
  | nil : JL
  | cons : J → JL → JL
/-- An object's values, with their names. -/
inductive JO where
  | nil : JO
  | cons : ByteArray → J → JO → JO
end
mutual
def J.size : J → Nat
  | .null => 1
  | .bool _ => 1
  | .num _ => 1
  | .str _ => 1
  | .list js => js.size + 1
  | .obj ms => ms.size + 1
def JL.size : JL → Nat
  | .nil => 0
  | .cons j js => j.size + js.size
def JO.size : JO → Nat
  | .nil => 0
  | .cons _ j ms => j.size + ms.size
end
mutual
def J.depth : J → Nat
  | .null => 0
  | .bool _ => 0
  | .num _ => 0
  | .str _ => 0
  | .list js => js.depth + 1
  | .obj ms => ms.depth + 1
def JL.depth : JL → Nat
  | .nil => 0
  | .cons j js => max j.depth js.depth
def JO.depth : JO → Nat
  | .nil => 0
  | .cons _ j ms => max j.depth ms.depth
end
mutual
/-- The text. -/
def J.txt : J → List UInt8
  | .null => [110, 117, 108, 108]
  | .bool b => if b = true then [116, 114, 117, 101] else [102, 97, 108, 115, 101]
  | .num n => itoa n
  | .str s => inQuotes s.data.toList
  | .list .nil => [91, 93]
  | .list (.cons j js) => 91 :: (j.txt ++ (js.tail ++ [93]))
  | .obj .nil => [123, 125]
  | .obj (.cons s j ms) => 123 :: (inQuotes s.data.toList ++ 58 :: (j.txt ++ (ms.tail ++ [125])))
def JL.tail : JL → List UInt8
  | .nil => []
  | .cons j js => 44 :: (j.txt ++ js.tail)
def JO.tail : JO → List UInt8
  | .nil => []
  | .cons s j ms => 44 :: (inQuotes s.data.toList ++ 58 :: (j.txt ++ ms.tail))
end
def JL.idx : JL → Nat → List Int
  | .nil, _ => []
  | .cons j js, b => ((b + j.size - 1 : Nat) : Int) :: js.idx (b + j.size)
def JO.idx : JO → Nat → List Int
  | .nil, _ => []
  | .cons _ j ms, b => ((b + j.size - 1 : Nat) : Int) :: ms.idx (b + j.size)
def JO.names : JO → List ByteArray
  | .nil => []
  | .cons s _ ms => s :: ms.names
mutual
/-- How it lies, its first value at place b. -/
def J.enc : J → Nat → List S39
  | .null, _ => [⟨1, false, 0, ⟨#[]⟩, [], []⟩]
  | .bool b, _ => [⟨2, b, 0, ⟨#[]⟩, [], []⟩]
  | .num n, _ => [⟨3, false, n, ⟨#[]⟩, [], []⟩]
  | .str s, _ => [⟨4, false, 0, s, [], []⟩]
  | .list js, b => js.enc b ++ [⟨5, false, 0, ⟨#[]⟩, [], js.idx b⟩]
  | .obj ms, b => ms.enc b ++ [⟨6, false, 0, ⟨#[]⟩, ms.names, ms.idx b⟩]
def JL.enc : JL → Nat → List S39
  | .nil, _ => []
  | .cons j js, b => j.enc b ++ js.enc (b + j.size)
def JO.enc : JO → Nat → List S39
  | .nil, _ => []
  | .cons _ j ms, b => j.enc b ++ ms.enc (b + j.size)
end
mutual
def J.ok : J → Prop
  | .null => True
  | .bool _ => True
  | .num n => fit n
  | .str s => utf s.data.toList = true
  | .list js => js.ok
  | .obj ms => ms.ok ∧ namesGo [] ms.names = true
def JL.ok : JL → Prop
  | .nil => True
  | .cons j js => j.ok ∧ js.ok
def JO.ok : JO → Prop
  | .nil => True
  | .cons _ j ms => j.ok ∧ ms.ok
end
mutual
theorem J.enc_len : ∀ (j : J) (b : Nat), (j.enc b).length = j.size
  | .null, _ => rfl
  | .bool _, _ => rfl
  | .num _, _ => rfl
  | .str _, _ => rfl
  | .list js, b => by rw [J.enc, List.length_append, js.enc_len b, J.size]; rfl
  | .obj ms, b => by rw [J.enc, List.length_append, ms.enc_len b, J.size]; rfl
theorem JL.enc_len : ∀ (js : JL) (b : Nat), (js.enc b).length = js.size
  | .nil, _ => rfl
  | .cons j js, b => by rw [JL.enc, List.length_append, j.enc_len b, js.enc_len, JL.size]
theorem JO.enc_len : ∀ (ms : JO) (b : Nat), (ms.enc b).length = ms.size
  | .nil, _ => rfl
  | .cons _ j ms, b => by rw [JO.enc, List.length_append, j.enc_len b, ms.enc_len, JO.size]
end
theorem JL.size_cons (j : J) (js : JL) : (JL.cons j js).size = j.size + js.size := by rw [JL.size]
theorem JL.enc_cons (j : J) (js : JL) (b : Nat) : (JL.cons j js).enc b = j.enc b ++ js.enc (b + j.size) := by rw [JL.enc]
theorem JL.idx_cons (j : J) (js : JL) (b : Nat) : (JL.cons j js).idx b = ((b + j.size - 1 : Nat) : Int) :: js.idx (b + j.size) := by rw [JL.idx]
theorem JO.size_cons (s : ByteArray) (j : J) (ms : JO) : (JO.cons s j ms).size = j.size + ms.size := by rw [JO.size]
theorem JO.enc_cons (s : ByteArray) (j : J) (ms : JO) (b : Nat) : (JO.cons s j ms).enc b = j.enc b ++ ms.enc (b + j.size) := by rw [JO.enc]
theorem JO.idx_cons (s : ByteArray) (j : J) (ms : JO) (b : Nat) : (JO.cons s j ms).idx b = ((b + j.size - 1 : Nat) : Int) :: ms.idx (b + j.size) := by rw [JO.idx]
theorem JO.names_cons (s : ByteArray) (j : J) (ms : JO) : (JO.cons s j ms).names = s :: ms.names := by rw [JO.names]
theorem J.size_pos (j : J) : 1 ≤ j.size := by cases j <;> simp [J.size]
/-- What a value's text begins with. -/
theorem J.head (j : J) : ∃ c r, j.txt = c :: r ∧ blank c = false ∧ c ≠ 93 ∧ c ≠ 125 := by
  cases j with
  | null => exact ⟨110, [117, 108, 108], by rw [J.txt], rfl, by decide, by decide⟩
  | bool b =>
    rw [J.txt]
    cases b
    · exact ⟨102, [97, 108, 115, 101], rfl, rfl, by decide, by decide⟩
    · exact ⟨116, [114, 117, 101], rfl, rfl, by decide, by decide⟩
  | num n =>
    rw [J.txt]
    obtain ⟨c, r, e, hc⟩ := itoa_head n
    have hn : ∀ k : UInt8, k.toNat ≠ 45 → (k.toNat < 48 ∨ 57 < k.toNat) → c ≠ k := by
      rintro k h1 h2 rfl
      rcases hc with rfl | h
      · exact h1 rfl
      · omega
    refine ⟨c, r, e, ?_, hn 93 (by decide) (by decide), hn 125 (by decide) (by decide)⟩
    unfold blank
    rw [beq_false_of_ne (hn 32 (by decide) (by decide)), beq_false_of_ne (hn 9 (by decide) (by decide)), beq_false_of_ne (hn 10 (by decide) (by decide)), beq_false_of_ne (hn 13 (by decide) (by decide))]
    rfl
  | str s => exact ⟨34, inner s.data.toList ++ [34], by rw [J.txt]; rfl, rfl, by decide, by decide⟩
  | list js =>
    cases js with
    | nil => exact ⟨91, [93], by rw [J.txt], rfl, by decide, by decide⟩
    | cons j js => exact ⟨91, _, by rw [J.txt], rfl, by decide, by decide⟩
  | obj ms =>
    cases ms with
    | nil => exact ⟨123, [125], by rw [J.txt], rfl, by decide, by decide⟩
    | cons s j ms => exact ⟨123, _, by rw [J.txt], rfl, by decide, by decide⟩
/-! Reading -/
/-- What may follow a number. -/
def Stops (r : List UInt8) : Prop := ∀ c r', r = c :: r' → numByte c = false
theorem numLen_stops (l r : List UInt8) (h : l.all numByte = true) (hr : Stops r) : numLen (l ++ r) = l.length := by
  cases r with
  | nil =>
    rw [List.append_nil]
    induction l with
    | nil => rfl
    | cons c l ih =>
      rw [List.all_cons, Bool.and_eq_true] at h
      rw [numLen, if_pos h.1, ih h.2, List.length_cons]
  | cons c r => exact numLen_all l c r h (hr c r rfl)
theorem number_itoa (n : Int) (hn : fit n) (r : List UInt8) (p : Nat) (hr : Stops r) : number (itoa n ++ r) p = .ok r (p + (itoa n).length) n := by
  unfold number
  have hf := hn
  unfold fit at hf
  rw [numLen_stops _ r (itoa_bytes n) hr, List.take_left, List.drop_left, parse_itoa n (by omega) (by omega), if_pos hn, if_pos rfl]
theorem word_null (r : List UInt8) (p : Nat) : word [110, 117, 108, 108] (110 :: 117 :: 108 :: 108 :: r) p = .ok r (p + 4) () := rfl
theorem word_true (r : List UInt8) (p : Nat) : word [116, 114, 117, 101] (116 :: 114 :: 117 :: 101 :: r) p = .ok r (p + 4) () := rfl
theorem word_false (r : List UInt8) (p : Nat) : word [102, 97, 108, 115, 101] (102 :: 97 :: 108 :: 115 :: 101 :: r) p = .ok r (p + 5) () := rfl
theorem value_null (f deep : Nat) (r : List UInt8) (p : Nat) (t : List S39) : value (f + 1) deep (110 :: 117 :: 108 :: 108 :: r) p t = put t p ⟨1, false, 0, ⟨#[]⟩, [], []⟩ r (p + 4) := by
  rw [value_cons rfl]
  unfold valueOn
  rw [if_pos rfl, word_null, R.bind_ok]
theorem value_true (f deep : Nat) (r : List UInt8) (p : Nat) (t : List S39) : value (f + 1) deep (116 :: 114 :: 117 :: 101 :: r) p t = put t p ⟨2, true, 0, ⟨#[]⟩, [], []⟩ r (p + 4) := by
  rw [value_cons rfl]
  unfold valueOn
  rw [if_neg (by decide), if_pos rfl, word_true, R.bind_ok]
theorem value_false (f deep : Nat) (r : List UInt8) (p : Nat) (t : List S39) : value (f + 1) deep (102 :: 97 :: 108 :: 115 :: 101 :: r) p t = put t p ⟨2, false, 0, ⟨#[]⟩, [], []⟩ r (p + 5) := by
  rw [value_cons rfl]
  unfold valueOn
  rw [if_neg (by decide), if_neg (by decide), if_pos rfl, word_false, R.bind_ok]
theorem objectF_end (f deep fr : Nat) (r : List UInt8) (p : Nat) (t : List S39) : objectF f deep fr (125 :: r) p t = put t fr ⟨6, false, 0, ⟨#[]⟩, [], []⟩ r (p + 1) := by
  unfold objectF
  rw [here_cons rfl, R.bind_ok, if_pos rfl]
  rfl
/-- No name twice, in the words of the parser. -/
theorem names_fresh : ∀ (ns done : List ByteArray), namesGo done ns = true → ∀ s r, ns = s :: r → containsS done s = false ∧ namesGo (done ++ [s]) r = true ∧ utf s.data.toList = true := by
  rintro ns done h s r rfl
  rw [namesGo] at h
  split at h
  · cases h
  · rename_i hn
    split at h
    · rename_i hu
      refine ⟨?_, h, hu⟩
      cases hc : containsS done s with
      | false => rfl
      | true =>
        exfalso
        have hm := (containsS_iff done s).1 hc
        exact hn ((Mb.hasName_iff s done).2 hm)
    · cases h
mutual
theorem J.read : ∀ (j : J) (hj : j.ok) (f deep p : Nat) (t : List S39) (r : List UInt8), 2 * (j.txt ++ r).length + 1 ≤ f → deep + j.depth ≤ 16 → t.length + j.size ≤ 8192 → Stops r →
    ∃ q, value f deep (j.txt ++ r) p t = .ok r q (t ++ j.enc t.length, ((t.length + j.size - 1 : Nat) : Int))
  | .null, _, f, deep, p, t, r, hf, hd, hs, hr => by
    obtain ⟨f, rfl⟩ : ∃ k, f = k + 1 := ⟨f - 1, by omega⟩
    rw [J.size] at hs
    rw [J.txt, J.enc, J.size]
    exact ⟨_, by rw [show [110, 117, 108, 108] ++ r = 110 :: 117 :: 108 :: 108 :: r from rfl, value_null, put_small (by omega)]; rfl⟩
  | .bool b, _, f, deep, p, t, r, hf, hd, hs, hr => by
    obtain ⟨f, rfl⟩ : ∃ k, f = k + 1 := ⟨f - 1, by omega⟩
    rw [J.size] at hs
    rw [J.txt, J.enc, J.size]
    cases b
    · exact ⟨_, by rw [if_neg (by decide), show [102, 97, 108, 115, 101] ++ r = 102 :: 97 :: 108 :: 115 :: 101 :: r from rfl, value_false, put_small (by omega)]; rfl⟩
    · exact ⟨_, by rw [if_pos rfl, show [116, 114, 117, 101] ++ r = 116 :: 114 :: 117 :: 101 :: r from rfl, value_true, put_small (by omega)]; rfl⟩
  | .num n, hj, f, deep, p, t, r, hf, hd, hs, hr => by
    obtain ⟨f, rfl⟩ : ∃ k, f = k + 1 := ⟨f - 1, by omega⟩
    rw [J.size] at hs
    rw [J.ok] at hj
    rw [J.txt, J.enc, J.size]
    obtain ⟨c, r0, e, hc⟩ := itoa_head n
    have hn := number_itoa n hj r p hr
    rw [e, List.cons_append] at hn ⊢
    rw [value_number hc, hn, R.bind_ok, put_small (by omega)]
    exact ⟨_, rfl⟩
  | .str s, hj, f, deep, p, t, r, hf, hd, hs, hr => by
    obtain ⟨f, rfl⟩ : ∃ k, f = k + 1 := ⟨f - 1, by omega⟩
    rw [J.size] at hs
    rw [J.ok] at hj
    rw [J.txt, J.enc, J.size]
    rw [show inQuotes s.data.toList ++ r = 34 :: (inner s.data.toList ++ 34 :: r) by unfold inQuotes; simp, value_text, text_quotes, R.bind_ok, put_small (by omega), fix_utf _ _ (Nat.le_refl _) hj]
    exact ⟨_, rfl⟩
  | .list .nil, _, f, deep, p, t, r, hf, hd, hs, hr => by
    obtain ⟨f, rfl⟩ : ∃ k, f = k + 1 := ⟨f - 1, by omega⟩
    rw [J.size] at hs
    rw [J.depth] at hd
    rw [J.txt, J.enc, J.size]
    rw [show [91, 93] ++ r = 91 :: 93 :: r from rfl, value_list _ _ _ _ _ (by omega), listF_end, put_small (by omega)]
    exact ⟨_, rfl⟩
  | .list (.cons j js), hj, f, deep, p, t, r, hf, hd, hs, hr => by
    obtain ⟨f, rfl⟩ : ∃ k, f = k + 1 := ⟨f - 1, by omega⟩
    rw [J.size] at hs
    rw [J.depth] at hd
    rw [J.ok] at hj
    rw [J.txt] at hf
    rw [J.txt, J.enc, J.size]
    obtain ⟨c, r0, e, hb, h93, _⟩ := j.head
    have hx : (91 :: (j.txt ++ (js.tail ++ [93]))) ++ r = 91 :: (j.txt ++ (js.tail ++ 93 :: r)) := by simp
    rw [hx] at hf ⊢
    rw [List.length_cons] at hf
    obtain ⟨q, hq⟩ := JL.read (.cons j js) hj j js rfl f deep p (p + 1) [] t r (by omega) (by omega) (by omega)
    refine ⟨q, ?_⟩
    rw [value_list _ _ _ _ _ (by omega)]
    rw [e, List.cons_append] at hq ⊢
    rw [listF_on hb h93, hq, List.append_assoc]
    rfl
  | .obj .nil, _, f, deep, p, t, r, hf, hd, hs, hr => by
    obtain ⟨f, rfl⟩ : ∃ k, f = k + 1 := ⟨f - 1, by omega⟩
    rw [J.size] at hs
    rw [J.depth] at hd
    rw [J.txt, J.enc, J.size]
    rw [show [123, 125] ++ r = 123 :: 125 :: r from rfl, value_object _ _ _ _ _ (by omega), objectF_end, put_small (by omega)]
    exact ⟨_, rfl⟩
  | .obj (.cons s j ms), hj, f, deep, p, t, r, hf, hd, hs, hr => by
    obtain ⟨f, rfl⟩ : ∃ k, f = k + 1 := ⟨f - 1, by omega⟩
    rw [J.size] at hs
    rw [J.depth] at hd
    rw [J.ok] at hj
    rw [J.txt] at hf
    rw [J.txt, J.enc, J.size]
    have hx : (123 :: (inQuotes s.data.toList ++ 58 :: (j.txt ++ (ms.tail ++ [125])))) ++ r = 123 :: (inQuotes s.data.toList ++ 58 :: (j.txt ++ (ms.tail ++ 125 :: r))) := by simp
    rw [hx] at hf ⊢
    rw [List.length_cons] at hf
    obtain ⟨q, hq⟩ := JO.read (.cons s j ms) hj.1 s j ms rfl f deep p (p + 1) [] [] t r (by omega) (by omega) (by omega) hj.2
    refine ⟨q, ?_⟩
    rw [value_object _ _ _ _ _ (by omega)]
    rw [show inQuotes s.data.toList ++ 58 :: (j.txt ++ (ms.tail ++ 125 :: r)) = 34 :: (inner s.data.toList ++ [34] ++ 58 :: (j.txt ++ (ms.tail ++ 125 :: r))) from rfl] at hq ⊢
    rw [objectF_on rfl (by decide), hq, List.append_assoc]
    rfl
theorem JL.read : ∀ (js0 : JL) (hj : js0.ok) (j : J) (js : JL), js0 = .cons j js → ∀ (f deep fr p : Nat) (kids : List Int) (t : List S39) (r : List UInt8), 2 * (j.txt ++ (js.tail ++ 93 :: r)).length + 2 ≤ f → deep + 1 + js0.depth ≤ 16 → t.length + js0.size + 1 ≤ 8192 →
    ∃ q, list f deep fr kids (j.txt ++ (js.tail ++ 93 :: r)) p t = .ok r q (t ++ js0.enc t.length ++ [⟨5, false, 0, ⟨#[]⟩, [], kids ++ js0.idx t.length⟩], ((t.length + js0.size : Nat) : Int))
  | .nil, _, j, js, e, _, _, _, _, _, _, _, _, _, _ => by cases e
  | .cons j' .nil, hj, j, js, e, f, deep, fr, p, kids, t, r, hf, hd, hs => by
    cases e
    obtain ⟨f, rfl⟩ : ∃ k, f = k + 1 := ⟨f - 1, by omega⟩
    rw [JL.size, JL.size] at hs
    rw [JL.depth, JL.depth] at hd
    rw [JL.ok] at hj
    rw [JL.tail, List.nil_append] at hf ⊢
    obtain ⟨q, hq⟩ := J.read j' hj.1 f (deep + 1) p t (93 :: r) (by omega) (by omega) (by omega) (fun c r' e => by cases e; decide)
    have hl := j'.enc_len t.length
    refine ⟨q + 1, ?_⟩
    rw [list_succ, hq, R.bind_ok, more_end rfl, R.bind_ok, if_pos rfl, put_small (by rw [List.length_append, hl]; omega)]
    rw [JL.enc, JL.enc, JL.idx, JL.idx, JL.size, JL.size, List.append_nil, List.length_append, hl]
    rfl
  | .cons j' (.cons j2 js2), hj, j, js, e, f, deep, fr, p, kids, t, r, hf, hd, hs => by
    cases e
    obtain ⟨f, rfl⟩ : ∃ k, f = k + 1 := ⟨f - 1, by omega⟩
    rw [JL.size] at hs
    rw [JL.depth] at hd
    rw [JL.ok] at hj
    rw [JL.tail] at hf ⊢
    have hx : j'.txt ++ (44 :: (j2.txt ++ js2.tail) ++ 93 :: r) = j'.txt ++ 44 :: (j2.txt ++ (js2.tail ++ 93 :: r)) := by simp
    rw [hx] at hf ⊢
    have hl := j'.enc_len t.length
    have hp := j'.size_pos
    obtain ⟨q, hq⟩ := J.read j' hj.1 f (deep + 1) p t (44 :: (j2.txt ++ (js2.tail ++ 93 :: r))) (by omega) (by omega) (by omega) (fun c r' e => by cases e; decide)
    have hlen : (t ++ j'.enc t.length).length = t.length + j'.size := by rw [List.length_append, hl]
    obtain ⟨q2, hq2⟩ := JL.read (.cons j2 js2) hj.2 j2 js2 rfl f deep fr (q + 1) (kids ++ [((t.length + j'.size - 1 : Nat) : Int)]) (t ++ j'.enc t.length) r (by rw [List.length_append, List.length_cons] at hf; omega) (by omega) (by rw [hlen]; omega)
    refine ⟨q2, ?_⟩
    rw [list_succ, hq, R.bind_ok, more_comma (by decide), R.bind_ok, if_neg (by decide), hq2, hlen]
    rw [JL.enc_cons j', JL.idx_cons j', JL.size_cons j']
    simp [List.append_assoc, Nat.add_assoc]
theorem JO.read : ∀ (ms0 : JO) (hj : ms0.ok) (s : ByteArray) (j : J) (ms : JO), ms0 = .cons s j ms → ∀ (f deep fr p : Nat) (names : List ByteArray) (kids : List Int) (t : List S39) (r : List UInt8), 2 * (inQuotes s.data.toList ++ 58 :: (j.txt ++ (ms.tail ++ 125 :: r))).length + 2 ≤ f → deep + 1 + ms0.depth ≤ 16 → t.length + ms0.size + 1 ≤ 8192 → namesGo names ms0.names = true →
    ∃ q, object f deep fr names kids (inQuotes s.data.toList ++ 58 :: (j.txt ++ (ms.tail ++ 125 :: r))) p t = .ok r q (t ++ ms0.enc t.length ++ [⟨6, false, 0, ⟨#[]⟩, names ++ ms0.names, kids ++ ms0.idx t.length⟩], ((t.length + ms0.size : Nat) : Int))
  | .nil, _, s, j, ms, e, _, _, _, _, _, _, _, _, _, _, _, _ => by cases e
  | .cons s' j' ms', hj, s, j, ms, e, f, deep, fr, p, names, kids, t, r, hf, hd, hs, hn => by
    cases e
    obtain ⟨f, rfl⟩ : ∃ k, f = k + 1 := ⟨f - 1, by omega⟩
    rw [JO.size] at hs
    rw [JO.depth] at hd
    rw [JO.ok] at hj
    rw [JO.names] at hn
    obtain ⟨hfr, hn2, hu⟩ := names_fresh _ names hn s' ms'.names rfl
    have hl := j'.enc_len t.length
    have hp := j'.size_pos
    have hlen : (t ++ j'.enc t.length).length = t.length + j'.size := by rw [List.length_append, hl]
    have hq0 : inQuotes s'.data.toList ++ 58 :: (j'.txt ++ (ms'.tail ++ 125 :: r)) = 34 :: (inner s'.data.toList ++ 34 :: (58 :: (j'.txt ++ (ms'.tail ++ 125 :: r)))) := by unfold inQuotes; simp
    rw [hq0] at hf ⊢
    have hfl : 2 * (j'.txt ++ (ms'.tail ++ 125 :: r)).length + 8 ≤ f + 1 := by
      rw [List.length_cons, List.length_append, List.length_cons, List.length_cons] at hf
      omega
    rw [object_succ, here_cons rfl, R.bind_ok, if_pos rfl]
    show ∃ q, ((text (inner s'.data.toList ++ 34 :: (58 :: (j'.txt ++ (ms'.tail ++ 125 :: r)))) (p + 1)).bind _) = _
    rw [text_quotes, R.bind_ok, fix_utf _ _ (Nat.le_refl _) hu]
    have hss : str s'.data.toList = s' := rfl
    rw [hss, hfr, if_neg (by decide), here_cons rfl, R.bind_ok, if_pos rfl]
    show ∃ q, ((value f (deep + 1) (j'.txt ++ (ms'.tail ++ 125 :: r)) _ t).bind _) = _
    cases ms' with
    | nil =>
      rw [JO.tail, List.nil_append] at hfl ⊢
      rw [JO.size] at hs
      rw [JO.depth] at hd
      obtain ⟨q, hq⟩ := J.read j' hj.1 f (deep + 1) (p + 1 + (inner s'.data.toList).length + 1 + 1) t (125 :: r) (by omega) (by omega) (by omega) (fun c r' e => by cases e; decide)
      refine ⟨q + 1, ?_⟩
      rw [hq, R.bind_ok, more_end rfl, R.bind_ok, if_pos rfl, put_small (by rw [List.length_append, hl]; omega)]
      rw [JO.enc, JO.enc, JO.idx, JO.idx, JO.names, JO.names, JO.size, JO.size, List.append_nil, List.length_append, hl]
      rfl
    | cons s2 j2 ms2 =>
      rw [JO.tail] at hfl ⊢
      have hx : j'.txt ++ (44 :: (inQuotes s2.data.toList ++ 58 :: (j2.txt ++ ms2.tail)) ++ 125 :: r) = j'.txt ++ 44 :: (inQuotes s2.data.toList ++ 58 :: (j2.txt ++ (ms2.tail ++ 125 :: r))) := by simp
      rw [hx] at hfl ⊢
      obtain ⟨q, hq⟩ := J.read j' hj.1 f (deep + 1) (p + 1 + (inner s'.data.toList).length + 1 + 1) t (44 :: (inQuotes s2.data.toList ++ 58 :: (j2.txt ++ (ms2.tail ++ 125 :: r)))) (by omega) (by omega) (by omega) (fun c r' e => by cases e; decide)
      obtain ⟨q2, hq2⟩ := JO.read (.cons s2 j2 ms2) hj.2 s2 j2 ms2 rfl f deep fr (q + 1) (names ++ [s']) (kids ++ [((t.length + j'.size - 1 : Nat) : Int)]) (t ++ j'.enc t.length) r (by rw [List.length_append, List.length_cons] at hfl; omega) (by omega) (by rw [hlen]; omega) hn2
      refine ⟨q2, ?_⟩
      rw [hq, R.bind_ok, more_comma (by decide), R.bind_ok, if_neg (by decide), hq2, hlen]
      rw [JO.enc_cons s' j', JO.idx_cons s' j', JO.names_cons s' j', JO.size_cons s' j']
      simp [List.append_assoc, Nat.add_assoc]
end
/-- The text of a tree that fits is read as the tree. -/
theorem J.parse_txt (j : J) (hj : j.ok) (hl : j.txt.length ≤ 65536) (hd : j.depth ≤ 16) (hs : j.size ≤ 8192) : parse j.txt = .ok [] 0 (j.enc 0) := by
  obtain ⟨q, hq⟩ := J.read j hj (2 * j.txt.length + 2) 0 0 [] [] (by rw [List.append_nil]; omega) (by omega) (by rw [List.length_nil]; omega) (fun c r' e => by cases e)
  unfold parse
  rw [if_neg (by omega)]
  rw [List.append_nil] at hq
  rw [hq, R.bind_ok, if_pos (show ([] : List UInt8).drop (gapLen []) = [] from rfl), List.nil_append]
  rfl
end Go.Proofs.YtldlkoncndlbhaaDoor.Js
set_option linter.unusedVariables false
set_option linter.unusedSimpArgs false
namespace Go.Proofs.YtldlkoncndlbhaaDoor.Js
open Go.RowKit Go.Lib Go.Proofs.YtldlkoncndlbhaaDoor.PSh Go.Proofs.YtldlkoncndlbhaaDoor.Utf Go.Proofs.YtldlkoncndlbhaaDoor.Pl Go.Proofs.YtldlkoncndlbhaaDoor.Np
/-! UTF-8, put together -/
/-- What is read as a value, a list's rest, an object's rest. -/
def SV (f : Nat) : Prop := ∀ deep l p t l' q x, deep ≤ 16 → value f deep l p t = .ok l' q x → ∃ j : J, j.ok ∧ deep + j.depth ≤ 16 ∧ t.length + j.size ≤ 8192 ∧ x = (t ++ j.enc t.length, ((t.length + j.size - 1 : Nat) : Int))
def SL (f : Nat) : Prop := ∀ deep fr kids l p t l' q x, deep + 1 ≤ 16 → list f deep fr kids l p t = .ok l' q x → ∃ js : JL, js.ok ∧ deep + 1 + js.depth ≤ 16 ∧ t.length + js.size + 1 ≤ 8192 ∧ x = (t ++ js.enc t.length ++ [⟨5, false, 0, ⟨#[]⟩, [], kids ++ js.idx t.length⟩], ((t.length + js.size : Nat) : Int))
def SO (f : Nat) : Prop := ∀ deep fr names kids l p t l' q x, deep + 1 ≤ 16 → namesGo [] names = true → object f deep fr names kids l p t = .ok l' q x → ∃ ms : JO, ms.ok ∧ deep + 1 + ms.depth ≤ 16 ∧ t.length + ms.size + 1 ≤ 8192 ∧ namesGo [] (names ++ ms.names) = true ∧ x = (t ++ ms.enc t.length ++ [⟨6, false, 0, ⟨#[]⟩, names ++ ms.names, kids ++ ms.idx t.length⟩], ((t.length + ms.size : Nat) : Int))
end Go.Proofs.YtldlkoncndlbhaaDoor.Js
set_option linter.unusedVariables false
set_option linter.unusedSimpArgs false
namespace Go.Proofs.YtldlkoncndlbhaaDoor.Js
open Go.RowKit Go.Lib Go.Proofs.YtldlkoncndlbhaaDoor.PSh Go.Proofs.YtldlkoncndlbhaaDoor.Utf Go.Proofs.YtldlkoncndlbhaaDoor.Mb Go.Proofs.YtldlkoncndlbhaaDoor.Pl Go.Proofs.YtldlkoncndlbhaaDoor.Np Go.Proofs.YtldlkoncndlbhaaDoor.Tx Go.Proofs.YtldlkoncndlbhaaDoor.Pure Go.Proofs.YtldlkoncndlbhaaDoor.Wr Go.Proofs.YtldlkoncndlbhaaDoorW.PrintWords Go.Proofs.YtldlkoncndlbhaaDoorW.PrintLast Go.Proofs.YtldlkoncndlbhaaDoorW.PrintMore
/-! Texts with commas between -/
def glueT : List (List UInt8) → List UInt8
  | [] => []
  | x :: xs => 44 :: (x ++ glueT xs)
def glue : List (List UInt8) → List UInt8
  | [] => []
  | x :: xs => x ++ glueT xs
theorem glueT_snoc : ∀ (xs : List (List UInt8)) (y : List UInt8), glueT (xs ++ [y]) = glueT xs ++ 44 :: y
  | [], y => by simp [glueT]
  | x :: xs, y => by rw [List.cons_append, glueT, glueT, glueT_snoc xs y]; simp
theorem glue_snoc (xs : List (List UInt8)) (y : List UInt8) : glue (xs ++ [y]) = glue xs ++ ((if xs.length = 0 then [] else [44]) ++ y) := by
  cases xs with
  | nil => simp [glue, glueT]
  | cons x xs => rw [List.cons_append, glue, glue, glueT_snoc, if_neg (by simp)]; simp
theorem joined_glue : ∀ (n : Nat) (ys : List (List UInt8)) (g : Nat → List UInt8), ys.length = n → (∀ i, (h : i < ys.length) → g i = ys[i]) → joined g n = glue ys
  | 0, ys, g, hn, _ => by
    have : ys = [] := List.eq_nil_of_length_eq_zero hn
    subst this
    rfl
  | n + 1, ys, g, hn, hg => by
    rcases List.eq_nil_or_concat ys with rfl | ⟨zs, y, e⟩
    · cases hn
    · rw [List.concat_eq_append] at e
      subst e
      have hz : zs.length = n := by rw [List.length_append, List.length_singleton] at hn; omega
      have hy := hg n (by rw [List.length_append, List.length_singleton]; omega)
      rw [List.getElem_append_right (by omega)] at hy
      simp only [hz, Nat.sub_self, List.getElem_cons_zero] at hy
      rw [joined, glue_snoc, joined_glue n zs g hz (fun i h => by
        have := hg i (by rw [List.length_append, List.length_singleton]; omega)
        rw [this, List.getElem_append_left h]), hy, hz]
def JL.toL : JL → List J
  | .nil => []
  | .cons j js => j :: js.toL
def JO.toL : JO → List J
  | .nil => []
  | .cons _ j ms => j :: ms.toL
def JO.texts : JO → List (List UInt8)
  | .nil => []
  | .cons s j ms => (inQuotes s.data.toList ++ 58 :: j.txt) :: ms.texts
theorem JL.tail_glue : ∀ js : JL, js.tail = glueT (js.toL.map J.txt)
  | .nil => by rw [JL.tail]; rfl
  | .cons j js => by rw [JL.tail, JL.toL, List.map_cons, glueT, js.tail_glue]
theorem JO.tail_glue : ∀ ms : JO, ms.tail = glueT ms.texts
  | .nil => by rw [JO.tail]; rfl
  | .cons s j ms => by rw [JO.tail, JO.texts, glueT, ms.tail_glue]; simp
theorem J.txt_list (js : JL) : (J.list js).txt = 91 :: (glue (js.toL.map J.txt) ++ [93]) := by
  cases js with
  | nil => rw [J.txt]; rfl
  | cons j js => rw [J.txt, JL.toL, List.map_cons, glue, js.tail_glue, List.append_assoc]
theorem J.txt_obj (ms : JO) : (J.obj ms).txt = 123 :: (glue ms.texts ++ [125]) := by
  cases ms with
  | nil => rw [J.txt]; rfl
  | cons s j ms => rw [J.txt, JO.texts, glue, ms.tail_glue]; simp
theorem JL.idx_len : ∀ (js : JL) (b : Nat), (js.idx b).length = js.toL.length
  | .nil, _ => rfl
  | .cons j js, b => by rw [JL.idx, JL.toL, List.length_cons, List.length_cons, js.idx_len]
theorem JO.idx_len : ∀ (ms : JO) (b : Nat), (ms.idx b).length = ms.toL.length
  | .nil, _ => rfl
  | .cons _ j ms, b => by rw [JO.idx, JO.toL, List.length_cons, List.length_cons, ms.idx_len]
theorem JO.names_len : ∀ ms : JO, ms.names.length = ms.toL.length
  | .nil => rfl
  | .cons _ j ms => by rw [JO.names, JO.toL, List.length_cons, List.length_cons, ms.names_len]
theorem JO.texts_len : ∀ ms : JO, ms.texts.length = ms.toL.length
  | .nil => rfl
  | .cons _ j ms => by rw [JO.texts, JO.toL, List.length_cons, List.length_cons, ms.texts_len]
/-! The text -/
theorem rd_mid (P Q : List S39) (x : S39) (k : Nat) (hk : k = P.length) : rd_T39 (P ++ x :: Q) (k : Int) = x := by
  subst hk
  unfold rd_T39
  rw [Int.toNat_natCast, List.getD_eq_getElem?_getD, List.getElem?_append_right (Nat.le_refl _), Nat.sub_self]
  rfl
mutual
theorem J.lies_txt : ∀ (j : J) (l P Q : List S39) (f : Nat), l = P ++ (j.enc P.length ++ Q) → j.size ≤ f → txt l f ((P.length + j.size - 1 : Nat) : Int) = j.txt
  | .null, l, P, Q, f, hl, hf => by
    rw [J.size] at hf
    obtain ⟨f, rfl⟩ : ∃ k, f = k + 1 := ⟨f - 1, by omega⟩
    rw [txt_succ, hl, J.enc, J.size, List.singleton_append, rd_mid P Q _ _ (by omega), txtOf_1 _ _ rfl, J.txt]
  | .bool b, l, P, Q, f, hl, hf => by
    rw [J.size] at hf
    obtain ⟨f, rfl⟩ : ∃ k, f = k + 1 := ⟨f - 1, by omega⟩
    rw [txt_succ, hl, J.enc, J.size, List.singleton_append, rd_mid P Q _ _ (by omega), txtOf_2 _ _ rfl, J.txt]
  | .num n, l, P, Q, f, hl, hf => by
    rw [J.size] at hf
    obtain ⟨f, rfl⟩ : ∃ k, f = k + 1 := ⟨f - 1, by omega⟩
    rw [txt_succ, hl, J.enc, J.size, List.singleton_append, rd_mid P Q _ _ (by omega), txtOf_3 _ _ rfl, J.txt]
  | .str s, l, P, Q, f, hl, hf => by
    rw [J.size] at hf
    obtain ⟨f, rfl⟩ : ∃ k, f = k + 1 := ⟨f - 1, by omega⟩
    rw [txt_succ, hl, J.enc, J.size, List.singleton_append, rd_mid P Q _ _ (by omega), txtOf_4 _ _ rfl, J.txt]
  | .list js, l, P, Q, f, hl, hf => by
    rw [J.size] at hf
    obtain ⟨f, rfl⟩ : ∃ k, f = k + 1 := ⟨f - 1, by omega⟩
    rw [J.enc, List.append_assoc, List.singleton_append] at hl
    have hk := JL.lies_txt js l P _ f hl (by omega)
    have hlen := js.enc_len P.length
    have hx : rd_T39 l ((P.length + (js.size + 1) - 1 : Nat) : Int) = ⟨5, false, 0, ⟨#[]⟩, [], js.idx P.length⟩ := by
      rw [hl, ← List.append_assoc]
      exact rd_mid _ _ _ _ (by rw [List.length_append, hlen]; omega)
    rw [J.size, txt_succ, hx, txtOf_5 _ _ rfl, J.txt_list]
    rw [joined_glue _ (js.toL.map J.txt) _ (by rw [List.length_map]; exact (js.idx_len _).symm) (fun i h => by
      rw [List.length_map] at h
      rw [List.getElem_map]
      exact hk i h)]
    simp
  | .obj ms, l, P, Q, f, hl, hf => by
    rw [J.size] at hf
    obtain ⟨f, rfl⟩ : ∃ k, f = k + 1 := ⟨f - 1, by omega⟩
    rw [J.enc, List.append_assoc, List.singleton_append] at hl
    have hk := JO.lies_txt ms l P _ f hl (by omega)
    have hlen := ms.enc_len P.length
    have hx : rd_T39 l ((P.length + (ms.size + 1) - 1 : Nat) : Int) = ⟨6, false, 0, ⟨#[]⟩, ms.names, ms.idx P.length⟩ := by
      rw [hl, ← List.append_assoc]
      exact rd_mid _ _ _ _ (by rw [List.length_append, hlen]; omega)
    rw [J.size, txt_succ, hx, txtOf_6 _ _ rfl, J.txt_obj]
    rw [joined_glue _ ms.texts _ (by rw [ms.texts_len]; exact (ms.idx_len _).symm) (fun i h => hk i h)]
    simp
theorem JL.lies_txt : ∀ (js : JL) (l P Q : List S39) (f : Nat), l = P ++ (js.enc P.length ++ Q) → js.size ≤ f → ∀ (i : Nat) (h : i < js.toL.length), txt l f (rd (js.idx P.length) (i : Int)) = (js.toL[i]).txt
  | .nil, l, P, Q, f, hl, hf, i, h => absurd h (Nat.not_lt_zero _)
  | .cons j js, l, P, Q, f, hl, hf, i, h => by
    rw [JL.size] at hf
    rw [JL.enc, List.append_assoc] at hl
    have hlen := j.enc_len P.length
    cases i with
    | zero => exact J.lies_txt j l P _ f hl (by omega)
    | succ i =>
      have hp : (P ++ j.enc P.length).length = P.length + j.size := by rw [List.length_append, hlen]
      have := JL.lies_txt js l (P ++ j.enc P.length) Q f (by rw [hp, List.append_assoc]; exact hl) (by omega) i (by rw [JL.toL, List.length_cons] at h; omega)
      rw [hp] at this
      exact this
theorem JO.lies_txt : ∀ (ms : JO) (l P Q : List S39) (f : Nat), l = P ++ (ms.enc P.length ++ Q) → ms.size ≤ f → ∀ (i : Nat) (h : i < ms.texts.length), inQuotes (rdOf ByteArray.empty ms.names (i : Int)).data.toList ++ [58] ++ txt l f (rd (ms.idx P.length) (i : Int)) = ms.texts[i]
  | .nil, l, P, Q, f, hl, hf, i, h => absurd h (Nat.not_lt_zero _)
  | .cons s j ms, l, P, Q, f, hl, hf, i, h => by
    rw [JO.size] at hf
    rw [JO.enc, List.append_assoc] at hl
    have hlen := j.enc_len P.length
    cases i with
    | zero =>
      have := J.lies_txt j l P _ f hl (by omega)
      show inQuotes s.data.toList ++ [58] ++ txt l f ((P.length + j.size - 1 : Nat) : Int) = inQuotes s.data.toList ++ 58 :: j.txt
      rw [this]
      simp
    | succ i =>
      have hp : (P ++ j.enc P.length).length = P.length + j.size := by rw [List.length_append, hlen]
      have := JO.lies_txt ms l (P ++ j.enc P.length) Q f (by rw [hp, List.append_assoc]; exact hl) (by omega) i (by rw [JO.texts, List.length_cons] at h; omega)
      rw [hp] at this
      exact this
end
theorem J.textOf_enc (j : J) : Wr.textOf (j.enc 0) = j.txt := by
  unfold Wr.textOf
  have hl := j.enc_len 0
  have hs := j.size_pos
  rw [hl]
  have := J.lies_txt j (j.enc 0) [] [] j.size (by simp) (by omega)
  rw [List.length_nil, Nat.zero_add] at this
  rw [← this]
  congr 1
  omega
end Go.Proofs.YtldlkoncndlbhaaDoor.Js
