/- How a string stands between quotes, in plain words, and what the library's encoder makes of what its decoder read. -/
import Derived.Test.YtldlkoncndlbhaaDoorUtfLib
import Derived.Lib.RuneBytes
namespace Go.Proofs.YtldlkoncndlbhaaDoor.Utf
open Go.Lib
set_option linter.unusedSimpArgs false

/-- A hexadecimal digit. -/
def hexOf (n : Nat) : UInt8 := UInt8.ofNat (if n < 10 then 48 + n else 87 + n)
/-- What is written for the rune that begins here. -/
def piece (l : List UInt8) : List UInt8 :=
  if wid l = 0 then [239, 191, 189]
  else if l.head? = some 34 ∨ l.head? = some 92 then [92, l.headD 0]
  else if (l.headD 0).toNat < 32 then [92, 117, 48, 48, hexOf ((l.headD 0).toNat / 16), hexOf ((l.headD 0).toNat % 16)]
  else l.take (wid l)
/-- How far it goes. -/
def adv (l : List UInt8) : Nat := if wid l = 0 then 1 else wid l
theorem adv_pos (l : List UInt8) : 0 < adv l := by unfold adv; split <;> omega
def inner (l : List UInt8) : List UInt8 := if _h : l = [] then [] else piece l ++ inner (l.drop (adv l))
termination_by l.length
decreasing_by
  rw [List.length_drop]
  have : 0 < l.length := List.length_pos_iff.2 _h
  have := adv_pos l
  omega
def inQuotes (l : List UInt8) : List UInt8 := 34 :: inner l ++ [34]

theorem u8_ext {a b : UInt8} (h : a.toNat = b.toNat) : a = b := UInt8.toNat.inj h

theorem cont_iff (b : UInt8) : cont b = true ↔ b.toNat / 64 = 2 := by unfold cont; exact beq_iff_eq
theorem wid_shape (l : List UInt8) (h : wid l ≠ 0) :
    (∃ a r, l = a :: r ∧ a.toNat < 128 ∧ wid l = 1) ∨ (∃ a b r, l = a :: b :: r ∧ 194 ≤ a.toNat ∧ a.toNat < 224 ∧ b.toNat / 64 = 2 ∧ wid l = 2)
    ∨ (∃ a b c r, l = a :: b :: c :: r ∧ 224 ≤ a.toNat ∧ a.toNat < 240 ∧ b.toNat / 64 = 2 ∧ c.toNat / 64 = 2 ∧ 2048 ≤ three a b c ∧ ¬ (55296 ≤ three a b c ∧ three a b c < 57344) ∧ wid l = 3)
    ∨ (∃ a b c d r, l = a :: b :: c :: d :: r ∧ 240 ≤ a.toNat ∧ a.toNat < 245 ∧ b.toNat / 64 = 2 ∧ c.toNat / 64 = 2 ∧ d.toNat / 64 = 2 ∧ 65536 ≤ four a b c d ∧ four a b c d ≤ 1114111 ∧ wid l = 4) := by
  cases l with
  | nil => exact absurd rfl h
  | cons a r =>
    generalize hw : wid (a :: r) = n at h ⊢
    have hl : lead a r = n := hw
    unfold lead at hl
    split at hl
    · exact .inl ⟨a, r, rfl, by assumption, hl.symm⟩
    · split at hl
      · rename_i h1 h2
        match r, hl with
        | [], hl => exact absurd hl.symm h
        | b :: r, hl =>
          simp only [w2] at hl
          split at hl
          · rename_i h3
            exact .inr (.inl ⟨a, b, r, rfl, h2.1, h2.2, (cont_iff b).1 h3, hl.symm⟩)
          · exact absurd hl.symm h
      · split at hl
        · rename_i h1 h2 h3
          match r, hl with
          | [], hl => exact absurd hl.symm h
          | [b], hl => exact absurd hl.symm h
          | b :: c :: r, hl =>
            simp only [w3] at hl
            split at hl
            · rename_i h4
              exact .inr (.inr (.inl ⟨a, b, c, r, rfl, h3.1, h3.2, (cont_iff b).1 h4.1, (cont_iff c).1 h4.2.1, h4.2.2.1, h4.2.2.2, hl.symm⟩))
            · exact absurd hl.symm h
        · split at hl
          · rename_i h1 h2 h3 h5
            match r, hl with
            | [], hl => exact absurd hl.symm h
            | [b], hl => exact absurd hl.symm h
            | [b, c], hl => exact absurd hl.symm h
            | b :: c :: d :: r, hl =>
              simp only [w4] at hl
              split at hl
              · rename_i h4
                exact .inr (.inr (.inr ⟨a, b, c, d, r, rfl, h5.1, h5.2, (cont_iff b).1 h4.1, (cont_iff c).1 h4.2.1, (cont_iff d).1 h4.2.2.1, h4.2.2.2.1, h4.2.2.2.2, hl.symm⟩))
              · exact absurd hl.symm h
          · exact absurd hl.symm h

/-- What the decoder reads where a rune begins. -/
theorem dec_one (a : UInt8) (r : List UInt8) (h : a.toNat < 128) : decodeL (a :: r) = (a.toNat, 1) := by
  rw [dec_cons]
  unfold decodeN
  rw [if_pos h]
theorem dec_two (a b : UInt8) (r : List UInt8) (h0 : 194 ≤ a.toNat) (h1 : a.toNat < 224) (hb : b.toNat / 64 = 2) : decodeL (a :: b :: r) = (two a b, 2) := by
  rw [dec_cons]
  simp only [List.getD_cons_zero, List.getD_cons_succ, List.length_cons]
  unfold decodeN two
  rw [if_neg (by omega), if_pos ⟨by omega, by omega, hb⟩, if_pos (by omega)]
theorem dec_three (a b c : UInt8) (r : List UInt8) (h0 : 224 ≤ a.toNat) (h1 : a.toNat < 240) (hb : b.toNat / 64 = 2) (hc : c.toNat / 64 = 2) (h2 : 2048 ≤ three a b c) (h3 : ¬ (55296 ≤ three a b c ∧ three a b c < 57344)) : decodeL (a :: b :: c :: r) = (three a b c, 3) := by
  rw [dec_cons]
  simp only [List.getD_cons_zero, List.getD_cons_succ, List.length_cons]
  unfold three at h2 h3 ⊢
  unfold decodeN
  rw [if_neg (by omega), if_neg (by omega), if_pos ⟨by omega, ⟨by omega, hb⟩, by omega, hc⟩, if_pos ⟨by omega, by omega⟩]
theorem dec_four (a b c d : UInt8) (r : List UInt8) (h0 : 240 ≤ a.toNat) (h1 : a.toNat < 245) (hb : b.toNat / 64 = 2) (hc : c.toNat / 64 = 2) (hd : d.toNat / 64 = 2) (h2 : 65536 ≤ four a b c d) (h3 : four a b c d ≤ 1114111) : decodeL (a :: b :: c :: d :: r) = (four a b c d, 4) := by
  rw [dec_cons]
  simp only [List.getD_cons_zero, List.getD_cons_succ, List.length_cons]
  unfold four at h2 h3 ⊢
  unfold decodeN
  rw [if_neg (by omega), if_neg (by omega), if_neg (by omega), if_pos ⟨by omega, ⟨by omega, hb⟩, ⟨by omega, hc⟩, by omega, hd⟩, if_pos ⟨by omega, by omega⟩]

theorem enc_byte (n : Int) (a : UInt8) (h : n = a.toNat) : n.toNat.toUInt8 = a := by
  subst h
  exact u8_ext (by simp)
/-- What the decoder read, encoded, is what stood there. -/
theorem enc_dec (l : List UInt8) (h : wid l ≠ 0) : encodeRune ((decodeL l).1 : Int) = l.take (wid l) := by
  rcases wid_shape l h with ⟨a, r, rfl, h1, hw⟩ | ⟨a, b, r, rfl, h0, h1, hb, hw⟩ | ⟨a, b, c, r, rfl, h0, h1, hb, hc, h2, h3, hw⟩ | ⟨a, b, c, d, r, rfl, h0, h1, hb, hc, hd, h2, h3, hw⟩
  · rw [hw, dec_one a r h1, encodeRune, encodeRuneZ_one (by omega) (by dsimp only; omega)]
    simp only [List.map_cons, List.map_nil, List.take_succ_cons, List.take_zero]
    rw [enc_byte _ a rfl]
  · have ha := a.toNat_lt
    have hb' := b.toNat_lt
    rw [hw, dec_two a b r h0 h1 hb, encodeRune]
    dsimp only
    unfold two
    rw [encodeRuneZ_two (by omega) (by omega)]
    simp only [List.map_cons, List.map_nil, List.take_succ_cons, List.take_zero]
    rw [enc_byte _ a (by omega), enc_byte _ b (by omega)]
  · have ha := a.toNat_lt
    have hb' := b.toNat_lt
    have hc' := c.toNat_lt
    rw [hw, dec_three a b c r h0 h1 hb hc h2 h3, encodeRune]
    dsimp only
    unfold three at h2 h3 ⊢
    rw [encodeRuneZ_three (by omega)]
    simp only [List.map_cons, List.map_nil, List.take_succ_cons, List.take_zero]
    rw [enc_byte _ a (by omega), enc_byte _ b (by omega), enc_byte _ c (by omega)]
  · have ha := a.toNat_lt
    have hb' := b.toNat_lt
    have hc' := c.toNat_lt
    have hd' := d.toNat_lt
    rw [hw, dec_four a b c d r h0 h1 hb hc hd h2 h3, encodeRune]
    dsimp only
    unfold four at h2 h3 ⊢
    rw [encodeRuneZ_four (by omega) (by omega)]
    simp only [List.map_cons, List.map_nil, List.take_succ_cons, List.take_zero]
    rw [enc_byte _ a (by omega), enc_byte _ b (by omega), enc_byte _ c (by omega), enc_byte _ d (by omega)]


theorem dec_adv (l : List UInt8) (hne : l ≠ []) : (decodeL l).2 = adv l := by
  unfold adv
  by_cases h : wid l = 0
  · rw [if_pos h, dec_bad l hne h]
  · rw [if_neg h, (dec_good l h).1]
/-- Below 128 it is the first byte. -/
theorem dec_small (l : List UInt8) (hne : l ≠ []) (h : (decodeL l).1 < 128) : ∃ a r, l = a :: r ∧ wid l = 1 ∧ (decodeL l).1 = a.toNat := by
  by_cases hw : wid l = 0
  · rw [dec_bad l hne hw] at h
    simp at h
  · rcases wid_shape l hw with ⟨a, r, rfl, h1, hw⟩ | ⟨a, b, r, rfl, h0, h1, hb, hw⟩ | ⟨a, b, c, r, rfl, h0, h1, hb, hc, h2, h3, hw⟩ | ⟨a, b, c, d, r, rfl, h0, h1, hb, hc, hd, h2, h3, hw⟩
    · exact ⟨a, r, rfl, hw, by rw [dec_one a r h1]⟩
    · rw [dec_two a b r h0 h1 hb] at h
      unfold two at h
      dsimp only at h
      omega
    · rw [dec_three a b c r h0 h1 hb hc h2 h3] at h
      dsimp only at h
      omega
    · rw [dec_four a b c d r h0 h1 hb hc hd h2 h3] at h
      dsimp only at h
      omega
/-- A first byte below 128 is what the decoder reads. -/
theorem dec_head (a : UInt8) (r : List UInt8) (h : a.toNat < 128) : (decodeL (a :: r)).1 = a.toNat ∧ wid (a :: r) = 1 := by
  refine ⟨by rw [dec_one a r h], ?_⟩
  show lead a r = 1
  unfold lead
  rw [if_pos h]

theorem piece_mark (l : List UInt8) (hne : l ≠ []) (h : (decodeL l).1 = 34 ∨ (decodeL l).1 = 92) : piece l = [92] ++ encodeRune ((decodeL l).1 : Int) := by
  obtain ⟨a, r, rfl, hw, hc⟩ := dec_small l hne (by omega)
  rw [enc_dec _ (by omega), hw]
  unfold piece
  have ha : a = 34 ∨ a = 92 := h.elim (fun e => .inl (u8_ext (by rw [← hc, e]; rfl))) (fun e => .inr (u8_ext (by rw [← hc, e]; rfl)))
  rw [if_neg (by omega), if_pos (ha.elim (fun e => .inl (by rw [e]; rfl)) (fun e => .inr (by rw [e]; rfl)))]
  rfl
theorem piece_low (l : List UInt8) (hne : l ≠ []) (h0 : ¬ ((decodeL l).1 = 34 ∨ (decodeL l).1 = 92)) (h : (decodeL l).1 < 32) : piece l = [92, 117, 48, 48] ++ [hexOf ((decodeL l).1 / 16)] ++ [hexOf ((decodeL l).1 % 16)] := by
  obtain ⟨a, r, rfl, hw, hc⟩ := dec_small l hne (by omega)
  unfold piece
  rw [hc] at h0 h ⊢
  rw [if_neg (by omega), if_neg (fun e => h0 (e.elim (fun e => .inl (by rw [Option.some.inj e]; rfl)) (fun e => .inr (by rw [Option.some.inj e]; rfl))))]
  exact if_pos h
theorem piece_plain (l : List UInt8) (hne : l ≠ []) (h0 : ¬ ((decodeL l).1 = 34 ∨ (decodeL l).1 = 92)) (h : ¬ (decodeL l).1 < 32) : piece l = encodeRune ((decodeL l).1 : Int) := by
  unfold piece
  by_cases hw : wid l = 0
  · rw [if_pos hw, dec_bad l hne hw]
    decide
  · rw [if_neg hw, enc_dec l hw]
    cases l with
    | nil => exact absurd rfl hne
    | cons a r =>
      by_cases ha : a.toNat < 128
      · obtain ⟨hd, _⟩ := dec_head a r ha
        rw [hd] at h0 h
        rw [if_neg (fun e => h0 (e.elim (fun e => .inl (by rw [Option.some.inj e]; rfl)) (fun e => .inr (by rw [Option.some.inj e]; rfl))))]
        exact if_neg h
      · rw [if_neg (fun e => ha (e.elim (fun e => by rw [Option.some.inj e]; decide) (fun e => by rw [Option.some.inj e]; decide))), if_neg (fun e => ha (by rw [List.headD_cons] at e; omega))]

end Go.Proofs.YtldlkoncndlbhaaDoor.Utf
