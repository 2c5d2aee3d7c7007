/- The plain parser over a list of so many sevens. -/
import Derived.Test.YtipbcdjnemdciaaDoorPl
set_option linter.unusedVariables false
set_option linter.unusedSimpArgs false
namespace Go.Proofs.YtipbcdjnemdciaaDoor.Js
open Go.RowKit Go.Lib Go.Proofs.YtipbcdjnemdciaaDoor.PSh Go.Proofs.YtipbcdjnemdciaaDoor.Np

/-- What stands behind the first seven, the closing bracket left out. -/
def tl : Nat → List UInt8
  | 0 => []
  | k + 1 => 44 :: 55 :: tl k
theorem tl_end : ∀ k, tl k ++ [44, 55] = 44 :: 55 :: tl k
  | 0 => rfl
  | k + 1 => by rw [tl, List.cons_append, List.cons_append, tl_end k]
theorem tl_len : ∀ k, (tl k).length = 2 * k
  | 0 => rfl
  | k + 1 => by rw [tl, List.length_cons, List.length_cons, tl_len k]; omega
theorem parseG_seven : parseG [55] = (7, 0) := by kernel_rfl
theorem number_seven (c : UInt8) (hc : numByte c = false) (r : List UInt8) (p : Nat) : number (55 :: c :: r) p = .ok (c :: r) (p + 1) 7 := by
  have hn : numLen (55 :: c :: r) = 1 := by
    rw [numLen, if_pos (by decide), numLen, hc, if_neg (by decide)]
  unfold number
  rw [hn]
  show (if (parseG [55]).2 = 0 then _ else _) = _
  rw [parseG_seven, if_pos rfl]
  rfl
theorem tl_head (k : Nat) : ∃ c r, tl k ++ [93] = c :: r ∧ numByte c = false := by
  cases k with
  | zero => exact ⟨93, [], rfl, by decide⟩
  | succ k => exact ⟨44, _, rfl, by decide⟩
theorem value_seven (f k p : Nat) (t : List S39) : value (f + 1) 1 (55 :: (tl k ++ [93])) p t = put t p ⟨3, false, 7, ⟨#[]⟩, [], []⟩ (tl k ++ [93]) (p + 1) := by
  obtain ⟨c, r, e, hc⟩ := tl_head k
  rw [e, value_number (.inr (by decide)), number_seven c hc, R.bind_ok]
theorem list_seven (f k p fr : Nat) (kids : List Int) (t : List S39) (h : t.length < 8192) : list (f + 2) 0 fr kids (55 :: (tl (k + 1) ++ [93])) p t = list (f + 1) 0 fr (kids ++ [(t.length : Int)]) (55 :: (tl k ++ [93])) (p + 2) (t ++ [⟨3, false, 7, ⟨#[]⟩, [], []⟩]) := by
  rw [list_succ, value_seven, put_small h, R.bind_ok]
  show ((more 93 (44 :: (55 :: (tl k ++ [93]))) (p + 1)).bind _) = _
  rw [more_comma (by decide), R.bind_ok, if_neg (by decide)]
theorem list_last (f p fr : Nat) (kids : List Int) (t : List S39) (h : t.length < 8192) : list (f + 2) 0 fr kids (55 :: (tl 0 ++ [93])) p t = put (t ++ [⟨3, false, 7, ⟨#[]⟩, [], []⟩]) fr ⟨5, false, 0, ⟨#[]⟩, [], kids ++ [(t.length : Int)]⟩ [] (p + 2) := by
  rw [list_succ, value_seven, put_small h, R.bind_ok]
  show ((more 93 [93] (p + 1)).bind _) = _
  rw [more_end (by decide), R.bind_ok, if_pos rfl]
theorem list_full (f k p fr : Nat) (kids : List Int) (t : List S39) (h : 8192 ≤ t.length) : list (f + 2) 0 fr kids (55 :: (tl k ++ [93])) p t = .no p 27 := by
  rw [list_succ, value_seven, put_big h, R.bind_no]
theorem vals_ok : ∀ (k f fr p : Nat) (kids : List Int) (t : List S39), k + 2 ≤ f → t.length + k + 1 < 8192 → ∃ t' q v, list f 0 fr kids (55 :: (tl k ++ [93])) p t = .ok [] q (t', v) ∧ t'.length = t.length + k + 2
  | 0, f, fr, p, kids, t, hf, ht => by
    obtain ⟨f, rfl⟩ : ∃ g, f = g + 2 := ⟨f - 2, by omega⟩
    rw [list_last _ _ _ _ _ (by omega), put_small (by rw [List.length_append, List.length_singleton]; omega)]
    exact ⟨_, _, _, rfl, by simp⟩
  | k + 1, f, fr, p, kids, t, hf, ht => by
    obtain ⟨f, rfl⟩ : ∃ g, f = g + 2 := ⟨f - 2, by omega⟩
    obtain ⟨t', q, v, h, hl⟩ := vals_ok k (f + 1) fr (p + 2) (kids ++ [(t.length : Int)]) (t ++ [⟨3, false, 7, ⟨#[]⟩, [], []⟩]) (by omega) (by rw [List.length_append, List.length_singleton]; omega)
    rw [list_seven _ _ _ _ _ _ (by omega)]
    exact ⟨t', q, v, h, by rw [hl, List.length_append, List.length_singleton]; omega⟩
theorem vals_eq : ∀ (k f fr p : Nat) (kids : List Int) (t : List S39), k + 2 ≤ f → t.length + k + 1 = 8192 → list f 0 fr kids (55 :: (tl k ++ [93])) p t = .no fr 27
  | 0, f, fr, p, kids, t, hf, ht => by
    obtain ⟨f, rfl⟩ : ∃ g, f = g + 2 := ⟨f - 2, by omega⟩
    rw [list_last _ _ _ _ _ (by omega), put_big (by rw [List.length_append, List.length_singleton]; omega)]
  | k + 1, f, fr, p, kids, t, hf, ht => by
    obtain ⟨f, rfl⟩ : ∃ g, f = g + 2 := ⟨f - 2, by omega⟩
    rw [list_seven _ _ _ _ _ _ (by omega)]
    exact vals_eq k (f + 1) fr (p + 2) _ _ (by omega) (by rw [List.length_append, List.length_singleton]; omega)
theorem vals_no : ∀ (k f fr p : Nat) (kids : List Int) (t : List S39), k + 2 ≤ f → t.length ≤ 8192 → 8192 < t.length + k + 1 → list f 0 fr kids (55 :: (tl k ++ [93])) p t = .no (p + 2 * (8192 - t.length)) 27
  | 0, f, fr, p, kids, t, hf, ht, hk => by
    obtain ⟨f, rfl⟩ : ∃ g, f = g + 2 := ⟨f - 2, by omega⟩
    rw [list_full _ _ _ _ _ _ (by omega), show 8192 - t.length = 0 by omega]
    rfl
  | k + 1, f, fr, p, kids, t, hf, ht, hk => by
    obtain ⟨f, rfl⟩ : ∃ g, f = g + 2 := ⟨f - 2, by omega⟩
    by_cases h : t.length = 8192
    · rw [list_full _ _ _ _ _ _ (by omega), show 8192 - t.length = 0 by omega]
      rfl
    · rw [list_seven _ _ _ _ _ _ (by omega), vals_no k (f + 1) fr (p + 2) _ _ (by omega) (by rw [List.length_append, List.length_singleton]; omega) (by rw [List.length_append, List.length_singleton]; omega)]
      congr 1
      rw [List.length_append, List.length_singleton]
      omega
/-- The whole text. -/
def sevens (n : Nat) : List UInt8 := 91 :: 55 :: (tl (n - 1) ++ [93])
theorem value_sevens (n f : Nat) : value (f + 1) 0 (sevens n) 0 [] = list f 0 0 [] (55 :: (tl (n - 1) ++ [93])) 1 [] := by
  unfold sevens
  rw [value_list _ _ _ _ _ (by omega), listF_on rfl (by decide)]
theorem sevens_len (n : Nat) (h : 1 ≤ n) : (sevens n).length = 2 * n + 1 := by
  unfold sevens
  rw [List.length_cons, List.length_cons, List.length_append, tl_len, List.length_singleton]
  omega
theorem parse_sevens_ok (n : Nat) (h : 1 ≤ n) (h2 : n < 8192) : ∃ t, parse (sevens n) = .ok [] 0 t ∧ t.length = n + 1 := by
  obtain ⟨t', q, v, e, hl⟩ := vals_ok (n - 1) (2 * (sevens n).length + 1) 0 1 [] [] (by rw [sevens_len n h]; omega) (by rw [List.length_nil]; omega)
  refine ⟨t', ?_, by rw [hl, List.length_nil]; omega⟩
  unfold parse
  rw [if_neg (by rw [sevens_len n h]; omega), value_sevens, e, R.bind_ok, if_pos (show ([] : List UInt8).drop (gapLen []) = [] from rfl)]
theorem parse_sevens_eq : parse (sevens 8192) = .no 0 27 := by
  have e := vals_eq 8191 (2 * (sevens 8192).length + 1) 0 1 [] [] (by rw [sevens_len 8192 (by omega)]; omega) (by rw [List.length_nil])
  unfold parse
  rw [if_neg (by rw [sevens_len 8192 (by omega)]; omega), value_sevens]
  rw [show 8192 - 1 = 8191 from rfl, e, R.bind_no]
theorem parse_sevens_no (n : Nat) (h : 8192 < n) (h2 : n ≤ 8200) : parse (sevens n) = .no 16385 27 := by
  have e := vals_no (n - 1) (2 * (sevens n).length + 1) 0 1 [] [] (by rw [sevens_len n (by omega)]; omega) (by rw [List.length_nil]; omega) (by rw [List.length_nil]; omega)
  unfold parse
  rw [if_neg (by rw [sevens_len n (by omega)]; omega), value_sevens, e, R.bind_no]
  rfl

/-! The text as the loop lays it. -/
def sv : Nat → List UInt8
  | 0 => [91]
  | i + 1 => sv i ++ if 0 < i then [44, 55] else [55]
theorem sv_succ : ∀ i, sv (i + 1) = 91 :: 55 :: tl i
  | 0 => rfl
  | i + 1 => by
    rw [sv, if_pos (by omega), sv_succ i]
    show 91 :: 55 :: (tl i ++ [44, 55]) = _
    rw [tl_end]
    rfl
theorem sv_all (n : Nat) (h : 1 ≤ n) : sv n ++ [93] = sevens n := by
  obtain ⟨k, rfl⟩ : ∃ k, n = k + 1 := ⟨n - 1, by omega⟩
  rw [sv_succ]
  rfl
theorem sv_len (i : Nat) : (sv i).length ≤ 2 * i + 1 := by
  cases i with
  | zero => exact Nat.le_refl _
  | succ k => rw [sv_succ, List.length_cons, List.length_cons, tl_len]; omega

end Go.Proofs.YtipbcdjnemdciaaDoor.Js
