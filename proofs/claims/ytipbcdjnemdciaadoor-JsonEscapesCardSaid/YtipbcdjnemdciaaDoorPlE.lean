/- The plain parser over a rune written as one escape, or two. -/
import Derived.Test.YtipbcdjnemdciaaDoorPl
set_option linter.unusedVariables false
set_option linter.unusedSimpArgs false
namespace Go.Proofs.YtipbcdjnemdciaaDoor.Js
open Go.RowKit Go.Lib Go.Proofs.YtipbcdjnemdciaaDoor.PSh

/-- A hexadecimal digit. -/
def hd (small : Bool) (k : Nat) : UInt8 := if k < 10 then UInt8.ofNat (48 + k) else if small = true then UInt8.ofNat (87 + k) else UInt8.ofNat (55 + k)
theorem digit_all : ∀ small : Bool, ∀ k : Nat, k < 16 → digit (hd small k) = some k := by decide
theorem digit_hd (small : Bool) (k : Nat) (h : k < 16) : digit (hd small k) = some k := digit_all small k h
/-- One escape. -/
def h4 (small : Bool) (n : Nat) : List UInt8 := [92, 117, hd small (n / 4096 % 16), hd small (n / 256 % 16), hd small (n / 16 % 16), hd small (n % 16)]
theorem hex_hd (small : Bool) (k j : Nat) (r : List UInt8) (p fr n : Nat) (h : j < 16) : hex (k + 1) (hd small j :: r) p fr n = hex k r (p + 1) fr (16 * n + j) := by
  rw [hex, digit_hd small j h]
theorem half_u (x : UInt8) (r : List UInt8) (p fr : Nat) : half (x :: 117 :: r) p fr = hex 4 r (p + 2) fr 0 := rfl
theorem half_h4 (small : Bool) (n : Nat) (hn : n < 65536) (r : List UInt8) (p fr : Nat) : half (h4 small n ++ r) p fr = .ok r (p + 6) n := by
  show half (92 :: 117 :: hd small (n / 4096 % 16) :: hd small (n / 256 % 16) :: hd small (n / 16 % 16) :: hd small (n % 16) :: r) p fr = _
  rw [half_u, hex_hd _ _ _ _ _ _ _ (by omega), hex_hd _ _ _ _ _ _ _ (by omega), hex_hd _ _ _ _ _ _ _ (by omega), hex_hd _ _ _ _ _ _ _ (by omega), hex]
  congr 1
  omega
theorem escape_one (small : Bool) (n : Nat) (hn : n < 65536) (h : n < 55296 ∨ 57343 < n) (r : List UInt8) (p : Nat) : escape (h4 small n ++ r) p = .ok r (p + 6) n := by
  unfold escape
  rw [half_h4 small n hn, R.bind_ok, if_neg (by omega), if_pos (by omega)]
theorem escape_half (small : Bool) (n : Nat) (h1 : 55296 ≤ n) (h2 : n ≤ 57343) (r : List UInt8) (p : Nat) (hr : r.head? ≠ some 92) : escape (h4 small n ++ r) p = .no p 24 := by
  unfold escape
  rw [half_h4 small n (by omega), R.bind_ok]
  by_cases h : 56320 ≤ n ∧ n ≤ 57343
  · rw [if_pos h]
  · rw [if_neg h, if_neg (by omega), if_neg (fun e => hr e.1)]
theorem escape_two (small : Bool) (n m : Nat) (h1 : 55296 ≤ n) (h2 : n ≤ 56319) (h3 : 56320 ≤ m) (h4' : m ≤ 57343) (r : List UInt8) (p : Nat) :
    escape (h4 small n ++ (h4 small m ++ r)) p = .ok r (p + 12) (65536 + (n - 55296) * 1024 + (m - 56320)) := by
  unfold escape
  rw [half_h4 small n (by omega), R.bind_ok, if_neg (by omega), if_neg (by omega), if_pos ⟨rfl, rfl⟩, half_h4 small m (by omega), R.bind_ok, if_neg (by omega)]
theorem textGo_escape (f : Nat) (r : List UInt8) (p : Nat) (out : List UInt8) : textGo (f + 1) (92 :: r) p out = (escape (92 :: r) p).bind fun l1 p1 n => textGo f l1 p1 (out ++ encodeRune n) := by
  rw [textGo_cons, if_neg (by decide), if_neg (by decide), if_pos rfl]
theorem value_text (f deep : Nat) (r : List UInt8) (p : Nat) (t : List S39) : value (f + 1) deep (34 :: r) p t = (text r (p + 1)).bind fun l1 p1 s => put t p ⟨4, false, 0, str s, [], []⟩ l1 p1 := by
  rw [value_cons rfl]
  unfold valueOn
  rw [if_neg (by decide), if_neg (by decide), if_neg (by decide), if_pos rfl]
  rfl
/-- What is written for a rune. -/
def esc (small : Bool) (x : Nat) : List UInt8 := if x < 65536 then h4 small x else h4 small (55296 + (x - 65536) / 1024) ++ h4 small (56320 + (x - 65536) % 1024)
def whole (small : Bool) (x : Nat) : List UInt8 := 34 :: 97 :: (esc small x ++ [98, 34])
theorem text_esc (small : Bool) (x : Nat) (hx : x < 1114112) (h : x < 55296 ∨ 57343 < x) : text (97 :: (esc small x ++ [98, 34])) 1 = .ok [] ((esc small x).length + 4) ([97] ++ encodeRune x ++ [98]) := by
  have hl : ∃ k, (97 :: (esc small x ++ [98, 34])).length + 1 = k + 4 := ⟨(esc small x).length, by simp⟩
  obtain ⟨k, hk⟩ := hl
  unfold text
  rw [hk, textGo_low _ _ _ _ _ (by decide) (by decide) (by decide) (by decide)]
  unfold esc
  by_cases h6 : x < 65536
  · rw [if_pos h6]
    have e := escape_one small x h6 h [98, 34] (1 + 1)
    rw [show h4 small x ++ [98, 34] = 92 :: ((h4 small x).tail ++ [98, 34]) from rfl] at e ⊢
    rw [textGo_escape, e, R.bind_ok, textGo_low _ _ _ _ _ (by decide) (by decide) (by decide) (by decide), textGo_end]
    rfl
  · rw [if_neg h6]
    have e := escape_two small (55296 + (x - 65536) / 1024) (56320 + (x - 65536) % 1024) (by omega) (by omega) (by omega) (by omega) [98, 34] (1 + 1)
    have ex : 65536 + (55296 + (x - 65536) / 1024 - 55296) * 1024 + (56320 + (x - 65536) % 1024 - 56320) = x := by omega
    rw [ex] at e
    generalize hz : h4 small (56320 + (x - 65536) % 1024) = z at *
    have hzl : z.length = 6 := by rw [← hz]; rfl
    generalize hy : 55296 + (x - 65536) / 1024 = y at *
    rw [show h4 small y ++ (z ++ [98, 34]) = 92 :: ((h4 small y).tail ++ (z ++ [98, 34])) from rfl] at e
    rw [List.append_assoc, show h4 small y ++ (z ++ [98, 34]) = 92 :: ((h4 small y).tail ++ (z ++ [98, 34])) from rfl]
    rw [textGo_escape, e, R.bind_ok, textGo_low _ _ _ _ _ (by decide) (by decide) (by decide) (by decide), textGo_end, List.length_append, hzl]
    rfl
theorem parse_esc (small : Bool) (x : Nat) (hx : x < 1114112) (h : x < 55296 ∨ 57343 < x) : parse (whole small x) = .ok [] 0 [⟨4, false, 0, str ([97] ++ encodeRune x ++ [98]), [], []⟩] := by
  unfold parse
  have hl : (whole small x).length ≤ 100 := by
    unfold whole esc
    split <;> simp [h4]
  rw [if_neg (by omega)]
  unfold whole
  rw [value_text, text_esc small x hx h, R.bind_ok, put_small (by decide), R.bind_ok, if_pos (show ([] : List UInt8).drop (gapLen []) = [] from rfl)]
  rfl
theorem parse_half (small : Bool) (x : Nat) (h1 : 55296 ≤ x) (h2 : x ≤ 57343) : parse (whole small x) = .no 2 24 := by
  have hx : esc small x = h4 small x := by unfold esc; rw [if_pos (by omega)]
  unfold parse whole
  rw [hx]
  rw [if_neg (by simp [h4])]
  have e := escape_half small x h1 h2 [98, 34] (1 + 1) (by decide)
  rw [show h4 small x ++ [98, 34] = 92 :: ((h4 small x).tail ++ [98, 34]) from rfl] at e ⊢
  rw [value_text]
  unfold text
  rw [textGo_low _ _ _ _ _ (by decide) (by decide) (by decide) (by decide)]
  rw [show (97 :: 92 :: ((h4 small x).tail ++ [98, 34])).length = 8 + 1 from rfl, textGo_escape, e, R.bind_no, R.bind_no, R.bind_no]

end Go.Proofs.YtipbcdjnemdciaaDoor.Js
