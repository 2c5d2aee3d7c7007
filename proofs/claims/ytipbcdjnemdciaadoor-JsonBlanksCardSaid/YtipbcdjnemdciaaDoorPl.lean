/- The plain parser, step by step, over bytes that are known ahead; brackets in brackets. -/
import Derived.Test.YtipbcdjnemdciaaDoorAdv
import Derived.Laws.RangeString
set_option linter.unusedVariables false
set_option linter.unusedSimpArgs false
namespace Go.Proofs.YtipbcdjnemdciaaDoor.Js
open Go.RowKit Go.Lib Go.Proofs.YtipbcdjnemdciaaDoor.PSh

theorem here_cons {c : UInt8} (h : blank c = false) (r : List UInt8) (p : Nat) : here (c :: r) p = .ok (c :: r) p c := by
  unfold here
  rw [show gapLen (c :: r) = 0 by rw [gapLen, h]; rfl]
  rfl
theorem value_cons {c : UInt8} (h : blank c = false) (f deep : Nat) (r : List UInt8) (p : Nat) (t : List S39) : value (f + 1) deep (c :: r) p t = valueOn f deep t (c :: r) p c := by
  rw [value_succ, here_cons h, R.bind_ok]
theorem value_deep (c : UInt8) (hc : c = 91 ∨ c = 123) (f deep : Nat) (r : List UInt8) (p : Nat) (t : List S39) (hd : 16 ≤ deep) : value (f + 1) deep (c :: r) p t = .no p 26 := by
  rw [value_cons (by rcases hc with rfl | rfl <;> rfl)]
  unfold valueOn
  rw [if_neg (by rcases hc with rfl | rfl <;> decide), if_neg (by rcases hc with rfl | rfl <;> decide), if_neg (by rcases hc with rfl | rfl <;> decide), if_neg (by rcases hc with rfl | rfl <;> decide), if_neg (by rcases hc with rfl | rfl <;> decide), if_pos hc, if_pos hd]
theorem value_list (f deep : Nat) (r : List UInt8) (p : Nat) (t : List S39) (hd : ¬ 16 ≤ deep) : value (f + 1) deep (91 :: r) p t = listF f deep p r (p + 1) t := by
  rw [value_cons rfl]
  unfold valueOn
  rw [if_neg (by decide), if_neg (by decide), if_neg (by decide), if_neg (by decide), if_neg (by decide), if_pos (by decide), if_neg hd, if_pos rfl]
  rfl
theorem value_object (f deep : Nat) (r : List UInt8) (p : Nat) (t : List S39) (hd : ¬ 16 ≤ deep) : value (f + 1) deep (123 :: r) p t = objectF f deep p r (p + 1) t := by
  rw [value_cons rfl]
  unfold valueOn
  rw [if_neg (by decide), if_neg (by decide), if_neg (by decide), if_neg (by decide), if_neg (by decide), if_pos (by decide), if_neg hd, if_neg (by decide)]
  rfl
theorem value_number {c : UInt8} (hc : c = 45 ∨ (48 ≤ c.toNat ∧ c.toNat ≤ 57)) (f deep : Nat) (r : List UInt8) (p : Nat) (t : List S39) :
    value (f + 1) deep (c :: r) p t = (number (c :: r) p).bind fun l1 p1 n => put t p ⟨3, false, n, ⟨#[]⟩, [], []⟩ l1 p1 := by
  have hn : ∀ k : UInt8, k.toNat ≠ 45 → (k.toNat < 48 ∨ 57 < k.toNat) → c ≠ k := by
    rintro k h1 h2 rfl
    rcases hc with rfl | h
    · exact h1 rfl
    · omega
  rw [value_cons (by
    unfold blank
    rw [beq_false_of_ne (hn 32 (by decide) (by decide)), beq_false_of_ne (hn 9 (by decide) (by decide)), beq_false_of_ne (hn 10 (by decide) (by decide)), beq_false_of_ne (hn 13 (by decide) (by decide))]
    rfl)]
  unfold valueOn
  rw [if_neg (hn 110 (by decide) (by decide)), if_neg (hn 116 (by decide) (by decide)), if_neg (hn 102 (by decide) (by decide)), if_neg (hn 34 (by decide) (by decide)), if_pos hc]
theorem listF_end (f deep fr : Nat) (r : List UInt8) (p : Nat) (t : List S39) : listF f deep fr (93 :: r) p t = put t fr ⟨5, false, 0, ⟨#[]⟩, [], []⟩ r (p + 1) := by
  unfold listF
  rw [here_cons rfl, R.bind_ok, if_pos rfl]
  rfl
theorem listF_on {c : UInt8} (hb : blank c = false) (hc : c ≠ 93) (f deep fr : Nat) (r : List UInt8) (p : Nat) (t : List S39) : listF f deep fr (c :: r) p t = list f deep fr [] (c :: r) p t := by
  unfold listF
  rw [here_cons hb, R.bind_ok, if_neg hc]
theorem objectF_on {c : UInt8} (hb : blank c = false) (hc : c ≠ 125) (f deep fr : Nat) (r : List UInt8) (p : Nat) (t : List S39) : objectF f deep fr (c :: r) p t = object f deep fr [] [] (c :: r) p t := by
  unfold objectF
  rw [here_cons hb, R.bind_ok, if_neg hc]
theorem more_end {fin : UInt8} (hb : blank fin = false) (r : List UInt8) (p : Nat) : more fin (fin :: r) p = .ok r (p + 1) true := by
  unfold more
  rw [here_cons hb, R.bind_ok, if_pos (.inr rfl)]
  simp
theorem more_comma {fin : UInt8} (hf : fin ≠ 44) (r : List UInt8) (p : Nat) : more fin (44 :: r) p = .ok r (p + 1) false := by
  unfold more
  rw [here_cons rfl, R.bind_ok, if_pos (.inl rfl)]
  rw [show ((44 : UInt8) == fin) = false from beq_false_of_ne (Ne.symm hf)]
  rfl
theorem put_small {t : List S39} (h : t.length < 8192) (fr : Nat) (v : S39) (l : List UInt8) (p : Nat) : put t fr v l p = .ok l p (t ++ [v], (t.length : Int)) := by
  unfold put
  rw [if_neg (by omega)]
theorem put_big {t : List S39} (h : 8192 ≤ t.length) (fr : Nat) (v : S39) (l : List UInt8) (p : Nat) : put t fr v l p = .no fr 27 := by
  unfold put
  rw [if_pos h]
theorem decL_low (b : UInt8) (t : List UInt8) (h : b.toNat < 128) : decodeL (b :: t) = (b.toNat, 1) := Go.decode_ascii ⟨(b :: t).toArray⟩ 0 (by show 0 < (b :: t).toArray.size; simp) h
/-- A letter below 128 in a text. -/
theorem textGo_low (f : Nat) (c : UInt8) (r : List UInt8) (p : Nat) (out : List UInt8) (h1 : c ≠ 34) (h2 : c ≠ 92) (h3 : 32 ≤ c.toNat) (h4 : c.toNat < 128) :
    textGo (f + 1) (c :: r) p out = textGo f r (p + 1) (out ++ [c]) := by
  rw [textGo_cons, if_neg h1, if_neg (by omega), if_neg h2, decL_low c r h4, if_neg (by intro h; injection h; omega)]
  rfl
theorem textGo_end (f : Nat) (r : List UInt8) (p : Nat) (out : List UInt8) : textGo (f + 1) (34 :: r) p out = .ok r (p + 1) out := by
  rw [textGo_cons, if_pos rfl]

/-! Brackets in brackets -/
/-- What opens the bracket that has so many within, itself counted. -/
def piece (obj : Bool) (m : Nat) : List UInt8 := if obj = true ∧ 1 < m then [123, 34, 107, 34, 58] else [91]
def fin (obj : Bool) (m : Nat) : UInt8 := if obj = true ∧ 1 < m then 125 else 93
def pre (obj : Bool) : Nat → List UInt8
  | 0 => []
  | m + 1 => piece obj (m + 1) ++ pre obj m
def suf (obj : Bool) : Nat → List UInt8
  | 0 => []
  | m + 1 => suf obj m ++ [fin obj (m + 1)]
def bw (obj : Bool) : Nat := if obj = true then 5 else 1
theorem pre_head (obj : Bool) (m : Nat) : ∃ c r, pre obj (m + 1) = c :: r ∧ (c = 91 ∨ c = 123) := by
  rw [pre, piece]
  split
  · exact ⟨_, _, rfl, .inr rfl⟩
  · exact ⟨_, _, rfl, .inl rfl⟩
theorem not_blank {c : UInt8} (h : c = 91 ∨ c = 123) : blank c = false := by rcases h with rfl | rfl <;> rfl
/-- A list whose first kid's bytes begin with a bracket. -/
theorem open_list (f deep : Nat) (c : UInt8) (r : List UInt8) (hc : c = 91 ∨ c = 123) (p : Nat) (t : List S39) (hd : ¬ 16 ≤ deep) :
    value (f + 2) deep (91 :: c :: r) p t = (value f (deep + 1) (c :: r) (p + 1) t).bind fun l1 p1 v => (more 93 l1 p1).bind fun l2 p2 done =>
      if done = true then put v.1 p ⟨5, false, 0, ⟨#[]⟩, [], [] ++ [v.2]⟩ l2 p2 else list f deep p ([] ++ [v.2]) l2 p2 v.1 := by
  rw [value_list _ _ _ _ _ hd, listF_on (not_blank hc) (by rcases hc with rfl | rfl <;> decide), list_succ]
theorem text_k (r : List UInt8) (p : Nat) : text (107 :: 34 :: r) p = .ok r (p + 2) [107] := by
  unfold text
  rw [show (107 :: 34 :: r).length + 1 = (r.length + 1 + 1) + 1 by simp, textGo_low _ _ _ _ _ (by decide) (by decide) (by decide) (by decide), textGo_end]
  rfl
theorem no_names (x : ByteArray) : containsS [] x = false := rfl
theorem open_object (f deep : Nat) (X : List UInt8) (p : Nat) (t : List S39) (hd : ¬ 16 ≤ deep) :
    value (f + 2) deep (123 :: 34 :: 107 :: 34 :: 58 :: X) p t = (value f (deep + 1) X (p + 5) t).bind fun l3 p3 v => (more 125 l3 p3).bind fun l4 p4 done =>
          if done = true then put v.1 p ⟨6, false, 0, ⟨#[]⟩, [] ++ [str [107]], [] ++ [v.2]⟩ l4 p4 else object f deep p ([] ++ [str [107]]) ([] ++ [v.2]) l4 p4 v.1 := by
  rw [value_object _ _ _ _ _ hd, objectF_on rfl (by decide), object_succ, here_cons rfl, R.bind_ok, if_pos rfl]
  show ((text (107 :: 34 :: 58 :: X) (p + 1 + 1)).bind _) = _
  rw [text_k, R.bind_ok, no_names, if_neg (by decide), here_cons rfl, R.bind_ok, if_pos rfl]
  rfl
theorem nest_no (obj : Bool) : ∀ (m f deep p : Nat) (t : List S39) (rest : List UInt8), 2 * m ≤ f → deep ≤ 16 → 16 < deep + m → value f deep (pre obj m ++ rest) p t = .no (p + (16 - deep) * bw obj) 26
  | 0, f, deep, p, t, rest, _, _, _ => by omega
  | m + 1, f, deep, p, t, rest, hf, hd, hm => by
    obtain ⟨f, rfl⟩ : ∃ g, f = g + 2 := ⟨f - 2, by omega⟩
    by_cases h16 : deep = 16
    · subst h16
      obtain ⟨c, r, e, hc⟩ := pre_head obj m
      rw [e, List.cons_append, value_deep c hc _ _ _ _ _ (Nat.le_refl _)]
      simp
    · obtain ⟨m, rfl⟩ : ∃ k, m = k + 1 := ⟨m - 1, by omega⟩
      have ih := nest_no obj (m + 1) f (deep + 1)
      obtain ⟨c, r, e, hc⟩ := pre_head obj m
      cases obj with
      | false =>
        have h := ih (p + 1) t rest (by omega) (by omega) (by omega)
        rw [e, List.cons_append] at h
        show value (f + 2) deep (91 :: (pre false (m + 1) ++ rest)) p t = _
        rw [e, List.cons_append, open_list _ _ _ _ hc _ _ (by omega), h, R.bind_no]
        congr 1
        simp only [bw, Bool.false_eq_true, if_false]
        omega
      | true =>
        have h := ih (p + 5) t rest (by omega) (by omega) (by omega)
        rw [pre, piece, if_pos ⟨rfl, by omega⟩]
        show value (f + 2) deep (123 :: 34 :: 107 :: 34 :: 58 :: (pre true (m + 1) ++ rest)) p t = _
        rw [open_object _ _ _ _ _ (by omega), h, R.bind_no]
        congr 1
        simp only [bw, if_true]
        omega
theorem nest_ok (obj : Bool) : ∀ (m f deep p : Nat) (t : List S39) (rest : List UInt8), 1 ≤ m → 2 * m ≤ f → deep + m ≤ 16 → t.length + m ≤ 100 →
    ∃ t' k, value f deep (pre obj m ++ (suf obj m ++ rest)) p t = .ok rest (p + (pre obj m ++ suf obj m).length) (t', k) ∧ t'.length = t.length + m
  | 0, f, deep, p, t, rest, h, _, _, _ => by omega
  | m + 1, f, deep, p, t, rest, _, hf, hd, ht => by
    obtain ⟨f, rfl⟩ : ∃ g, f = g + 2 := ⟨f - 2, by omega⟩
    by_cases h0 : m = 0
    · subst h0
      have e1 : pre obj 1 = [91] := by rw [pre, piece, if_neg (by omega)]; rfl
      have e2 : suf obj 1 = [93] := by rw [suf, fin, if_neg (by omega)]; rfl
      rw [e1, e2]
      show ∃ t' k, value (f + 1 + 1) deep (91 :: 93 :: rest) p t = _ ∧ _
      rw [value_list _ _ _ _ _ (by omega), listF_end, put_small (by omega)]
      exact ⟨_, _, rfl, by simp⟩
    · obtain ⟨m, rfl⟩ : ∃ k, m = k + 1 := ⟨m - 1, by omega⟩
      have ih := nest_ok obj (m + 1) f (deep + 1)
      obtain ⟨c, r, e, hc⟩ := pre_head obj m
      cases obj with
      | false =>
        obtain ⟨t', k, h, hl⟩ := ih (p + 1) t (93 :: rest) (by omega) (by omega) (by omega) (by omega)
        have e1 : pre false (m + 1 + 1) ++ (suf false (m + 1 + 1) ++ rest) = 91 :: (pre false (m + 1) ++ (suf false (m + 1) ++ (93 :: rest))) := by
          rw [pre, suf]
          simp [piece, fin]
        have e2 : (pre false (m + 1 + 1) ++ suf false (m + 1 + 1)).length = (pre false (m + 1) ++ suf false (m + 1)).length + 2 := by
          rw [pre, suf]
          simp [piece, fin]
          omega
        rw [e1, e2]
        rw [e, List.cons_append] at h ⊢
        rw [open_list _ _ _ _ hc _ _ (by omega), h, R.bind_ok, more_end rfl, R.bind_ok, if_pos rfl, put_small (by show t'.length < 8192; omega)]
        refine ⟨t' ++ [⟨5, false, 0, ⟨#[]⟩, [], [] ++ [k]⟩], (t'.length : Int), ?_, ?_⟩
        · congr 1
          simp only [List.length_cons, List.length_append]
          omega
        · rw [List.length_append, List.length_singleton]; show t'.length + 1 = _; omega
      | true =>
        obtain ⟨t', k, h, hl⟩ := ih (p + 5) t (125 :: rest) (by omega) (by omega) (by omega) (by omega)
        have e1 : pre true (m + 1 + 1) ++ (suf true (m + 1 + 1) ++ rest) = 123 :: 34 :: 107 :: 34 :: 58 :: (pre true (m + 1) ++ (suf true (m + 1) ++ (125 :: rest))) := by
          rw [pre, suf]
          simp [piece, fin]
        have e2 : (pre true (m + 1 + 1) ++ suf true (m + 1 + 1)).length = (pre true (m + 1) ++ suf true (m + 1)).length + 6 := by
          rw [pre, suf]
          simp [piece, fin]
          omega
        rw [e1, e2, open_object _ _ _ _ _ (by omega), h, R.bind_ok, more_end rfl, R.bind_ok, if_pos rfl, put_small (by show t'.length < 8192; omega)]
        refine ⟨t' ++ [⟨6, false, 0, ⟨#[]⟩, [] ++ [str [107]], [] ++ [k]⟩], (t'.length : Int), ?_, ?_⟩
        · congr 1
          omega
        · rw [List.length_append, List.length_singleton]; show t'.length + 1 = _; omega

/-- Of so many brackets that fit. -/
theorem parse_nest (obj : Bool) (n : Nat) (h1 : 1 ≤ n) (h2 : n ≤ 16) : ∃ t, parse (pre obj n ++ suf obj n) = .ok [] 0 t ∧ t.length = n := by
  have hl : n ≤ (pre obj n ++ suf obj n).length ∧ (pre obj n ++ suf obj n).length ≤ 6 * n := by
    clear h1 h2
    induction n with
    | zero => exact ⟨Nat.zero_le _, Nat.le_refl _⟩
    | succ m ih =>
      rw [pre, suf, piece]
      simp only [List.length_append] at *
      split <;> simp <;> omega
  obtain ⟨t', k, h, hk⟩ := nest_ok obj n (2 * (pre obj n ++ suf obj n).length + 2) 0 0 [] [] h1 (by omega) (by omega) (by simp; omega)
  rw [List.append_nil] at h
  refine ⟨t', ?_, by simpa using hk⟩
  unfold parse
  rw [if_neg (by omega), h, R.bind_ok, if_pos (show ([] : List UInt8).drop (gapLen []) = [] from rfl)]
theorem parse_nest_no (obj : Bool) (n : Nat) (h1 : 16 < n) (h2 : n ≤ 40) : parse (pre obj n ++ suf obj n) = .no (16 * bw obj) 26 := by
  have hl : n ≤ (pre obj n ++ suf obj n).length ∧ (pre obj n ++ suf obj n).length ≤ 6 * n := by
    clear h1 h2
    induction n with
    | zero => exact ⟨Nat.zero_le _, Nat.le_refl _⟩
    | succ m ih =>
      rw [pre, suf, piece]
      simp only [List.length_append] at *
      split <;> simp <;> omega
  have h := nest_no obj n (2 * (pre obj n ++ suf obj n).length + 2) 0 0 [] (suf obj n) (by omega) (by omega) (by omega)
  unfold parse
  rw [if_neg (by omega), h, R.bind_no]
  simp

/-! The texts as the loop lays them: so many rounds done. -/
def sI (obj : Bool) (n : Nat) : Nat → List UInt8
  | 0 => []
  | i + 1 => sI obj n i ++ piece obj (n - i)
def eI (obj : Bool) (n : Nat) : Nat → List UInt8
  | 0 => []
  | i + 1 => fin obj (n - i) :: eI obj n i
theorem sI_pre (obj : Bool) (n : Nat) : ∀ i, i ≤ n → sI obj n i ++ pre obj (n - i) = pre obj n
  | 0, _ => by rw [sI]; rfl
  | i + 1, h => by
    have ih := sI_pre obj n i (by omega)
    obtain ⟨m, hm⟩ : ∃ m, n - i = m + 1 := ⟨n - i - 1, by omega⟩
    rw [sI, show n - (i + 1) = m by omega, List.append_assoc]
    rw [hm, pre] at ih
    rw [hm]
    exact ih
theorem eI_suf (obj : Bool) (n : Nat) : ∀ i, i ≤ n → suf obj (n - i) ++ eI obj n i = suf obj n
  | 0, _ => by rw [eI, List.append_nil]; rfl
  | i + 1, h => by
    have ih := eI_suf obj n i (by omega)
    obtain ⟨m, hm⟩ : ∃ m, n - i = m + 1 := ⟨n - i - 1, by omega⟩
    rw [eI, show n - (i + 1) = m by omega]
    rw [hm, suf] at ih
    rw [hm]
    simpa using ih
theorem sI_all (obj : Bool) (n : Nat) : sI obj n n = pre obj n := by
  have := sI_pre obj n n (Nat.le_refl _)
  rwa [Nat.sub_self, pre, List.append_nil] at this
theorem eI_all (obj : Bool) (n : Nat) : eI obj n n = suf obj n := by
  have := eI_suf obj n n (Nat.le_refl _)
  rwa [Nat.sub_self, suf, List.nil_append] at this
theorem sI_len (obj : Bool) (n : Nat) : ∀ i, (sI obj n i).length ≤ 5 * i
  | 0 => Nat.le_refl _
  | i + 1 => by
    have := sI_len obj n i
    rw [sI, List.length_append, piece]
    split <;> simp <;> omega
theorem eI_len (obj : Bool) (n : Nat) : ∀ i, (eI obj n i).length = i
  | 0 => rfl
  | i + 1 => by rw [eI, List.length_cons, eI_len obj n i]

end Go.Proofs.YtipbcdjnemdciaaDoor.Js
