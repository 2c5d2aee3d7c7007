/- The plain parser: places and bytes; fuel; more bytes behind; blanks ahead. -/
import Derived.Test.YtipbcdjnemdciaaDoorPl
import Derived.Lib.MapLaws
set_option linter.unusedVariables false
set_option linter.unusedSimpArgs false
namespace Go.Proofs.YtipbcdjnemdciaaDoor.Js
open Go.RowKit Go.Lib Go.Proofs.YtipbcdjnemdciaaDoor.PSh Go.Proofs.YtipbcdjnemdciaaDoor.Np

theorem gap_len_le : ∀ l : List UInt8, gapLen l ≤ l.length
  | [] => Nat.le_refl _
  | c :: r => by
    rw [gapLen]
    split
    · rw [List.length_cons]; have := gap_len_le r; omega
    · exact Nat.zero_le _
theorem gap_head : ∀ (l : List UInt8) (c : UInt8) (r : List UInt8), l.drop (gapLen l) = c :: r → blank c = false
  | [], c, r, h => by cases h
  | x :: l, c, r, h => by
    rw [gapLen] at h
    split at h
    · exact gap_head l c r h
    · cases h
      rename_i hb
      simpa using hb
theorem here_cases (l : List UInt8) (p : Nat) : (∃ c r, here l p = .ok (c :: r) (p + gapLen l) c ∧ l.drop (gapLen l) = c :: r ∧ gapLen l + (r.length + 1) = l.length) ∨ (here l p = .no (p + gapLen l) 21 ∧ l.drop (gapLen l) = [] ∧ gapLen l = l.length) := by
  have hg := gap_len_le l
  unfold here
  cases hd : l.drop (gapLen l) with
  | nil =>
    refine .inr ⟨rfl, rfl, ?_⟩
    have := congrArg List.length hd
    rw [List.length_drop, List.length_nil] at this
    omega
  | cons c r =>
    refine .inl ⟨c, r, rfl, rfl, ?_⟩
    have := congrArg List.length hd
    rw [List.length_drop, List.length_cons] at this
    omega
theorem gap_blank : ∀ (l : List UInt8), l.drop (gapLen l) = [] → ∀ c ∈ l, blank c = true
  | [], _, c, h => by cases h
  | x :: l, hd, c, h => by
    rw [gapLen] at hd
    split at hd
    · rename_i hb
      rcases List.mem_cons.1 h with rfl | h
      · exact hb
      · exact gap_blank l hd c h
    · cases hd
theorem gap_app (l x : List UInt8) (c : UInt8) (r : List UInt8) (h : l.drop (gapLen l) = c :: r) : gapLen (l ++ x) = gapLen l := by
  induction l with
  | nil => cases h
  | cons a l ih =>
    rw [List.cons_append, gapLen, gapLen]
    rw [gapLen] at h
    by_cases hb : blank a = true
    · rw [if_pos hb] at h ⊢
      rw [if_pos hb, ih h]
    · rw [if_neg hb, if_neg hb]
theorem num_le : ∀ l : List UInt8, numLen l ≤ l.length
  | [] => Nat.le_refl _
  | c :: r => by
    rw [numLen]
    split
    · rw [List.length_cons]; have := num_le r; omega
    · exact Nat.zero_le _
theorem num_app : ∀ (l x : List UInt8), numLen l < l.length → numLen (l ++ x) = numLen l
  | [], x, h => absurd h (Nat.lt_irrefl _)
  | c :: r, x, h => by
    rw [List.cons_append, numLen, numLen]
    rw [numLen] at h
    by_cases hb : numByte c = true
    · rw [if_pos hb] at h ⊢
      rw [if_pos hb, num_app r x (by rw [List.length_cons] at h; omega)]
    · rw [if_neg hb, if_neg hb]

/-! Places and bytes -/
/-- Read, and what is left ends where the bytes end; or a fault within, with a number. -/
def Good {α : Type} (n : Nat) (r : R α) : Prop := match r with
  | .ok l q _ => q + l.length = n
  | .no q e => q ≤ n ∧ e ≠ 0
section
variable {α β : Type} {n : Nat}
theorem Good.no {q : Nat} {e : Int} (h : q ≤ n) (he : e ≠ 0) : Good n (.no q e : R α) := ⟨h, he⟩
theorem Good.ok {l : List UInt8} {q : Nat} {v : α} (h : q + l.length = n) : Good n (.ok l q v : R α) := h
theorem Good.bind {r : R α} {g : List UInt8 → Nat → α → R β} (h : Good n r) (hg : ∀ l q v, r = .ok l q v → q + l.length = n → Good n (g l q v)) : Good n (r.bind g) := by
  cases r with
  | no q e => exact h
  | ok l q v => exact hg l q v rfl h
theorem Good.ite {c : Prop} [Decidable c] {x y : R α} (hx : c → Good n x) (hy : ¬ c → Good n y) : Good n (if c then x else y) := by
  by_cases h : c
  · rw [if_pos h]; exact hx h
  · rw [if_neg h]; exact hy h
end
theorem good_here {n : Nat} (l : List UInt8) (p : Nat) (h : p + l.length = n) : Good n (here l p) := by
  rcases here_cases l p with ⟨c, r, e, _, hl⟩ | ⟨e, _, hl⟩
  · rw [e]; exact Good.ok (by rw [List.length_cons]; omega)
  · rw [e]; exact Good.no (by omega) (by decide)
theorem good_word {n : Nat} : ∀ (v l : List UInt8) (p : Nat), p + l.length = n → Good n (word v l p)
  | [], l, p, h => Good.ok h
  | c :: v, [], p, h => Good.no (by rw [List.length_nil] at h; omega) (by decide)
  | c :: v, x :: l, p, h => by
    rw [List.length_cons] at h
    rw [word_cons]
    exact Good.ite (fun _ => good_word v l (p + 1) (by omega)) (fun _ => Good.no (by omega) (by decide))
theorem good_number {n : Nat} (l : List UInt8) (p : Nat) (h : p + l.length = n) : Good n (number l p) := by
  unfold number
  have := num_le l
  exact Good.ite (fun _ => Good.ok (by rw [List.length_drop]; omega)) (fun _ => Good.no (by omega) (by decide))
theorem good_hex {n : Nat} : ∀ (k : Nat) (l : List UInt8) (p fr x : Nat), p + l.length = n → fr ≤ n → Good n (hex k l p fr x)
  | 0, l, p, fr, x, h, _ => by rw [hex]; exact Good.ok h
  | k + 1, [], p, fr, x, h, _ => Good.no (by rw [List.length_nil] at h; omega) (by decide)
  | k + 1, c :: r, p, fr, x, h, hf => by
    rw [hex]
    rw [List.length_cons] at h
    cases digit c with
    | none => exact Good.no hf (by decide)
    | some d => exact good_hex k r (p + 1) fr _ (by omega) hf
theorem good_half {n : Nat} (l : List UInt8) (p fr : Nat) (h : p + l.length = n) (hf : fr ≤ n) : Good n (half l p fr) := by
  match l, h with
  | [], h => exact Good.no (by rw [List.length_nil] at h; omega) (by decide)
  | [_], h => exact Good.no (by rw [List.length_singleton] at h; omega) (by decide)
  | _ :: c :: r, h =>
    rw [List.length_cons, List.length_cons] at h
    unfold half
    dsimp only
    cases mark c with
    | some k => exact Good.ok (by omega)
    | none => exact Good.ite (fun _ => good_hex 4 r (p + 2) fr 0 (by omega) hf) (fun _ => Good.no hf (by decide))
theorem good_escape {n : Nat} (l : List UInt8) (p : Nat) (h : p + l.length = n) : Good n (escape l p) := by
  unfold escape
  refine Good.bind (good_half l p p h (by omega)) fun l1 p1 x _ h1 => ?_
  refine Good.ite (fun _ => Good.no (by omega) (by decide)) fun _ => Good.ite (fun _ => Good.ok h1) fun _ => Good.ite (fun _ => ?_) (fun _ => Good.no (by omega) (by decide))
  exact Good.bind (good_half l1 p1 p h1 (by omega)) fun l2 p2 m _ h2 => Good.ite (fun _ => Good.no (by omega) (by decide)) (fun _ => Good.ok h2)
theorem good_textGo {n : Nat} : ∀ (f : Nat) (l : List UInt8) (p : Nat) (out : List UInt8), p + l.length = n → Good n (textGo f l p out)
  | 0, l, p, out, h => Good.no (by omega) (by decide)
  | f + 1, [], p, out, h => Good.no (by omega) (by decide)
  | f + 1, c :: r, p, out, h => by
    rw [textGo_cons]
    have hw := decodeL_le (c :: r) (by simp)
    have hl : (c :: r).length = r.length + 1 := List.length_cons
    refine Good.ite (fun _ => Good.ok (by omega)) fun _ => Good.ite (fun _ => Good.no (by omega) (by decide)) fun _ => Good.ite (fun _ => ?_) fun _ => Good.ite (fun _ => Good.no (by omega) (by decide)) fun _ => ?_
    · exact Good.bind (good_escape _ _ h) fun l1 p1 x _ h1 => good_textGo f l1 p1 _ h1
    · exact good_textGo f _ _ _ (by rw [List.length_drop]; omega)
theorem good_text {n : Nat} (l : List UInt8) (p : Nat) (h : p + l.length = n) : Good n (text l p) := good_textGo _ _ _ _ h
theorem good_put {n : Nat} (t : List S39) (fr : Nat) (v : S39) (l : List UInt8) (p : Nat) (h : p + l.length = n) (hf : fr ≤ n) : Good n (put t fr v l p) := by
  unfold put
  exact Good.ite (fun _ => Good.no hf (by decide)) (fun _ => Good.ok h)
theorem good_more {n : Nat} (fin : UInt8) (l : List UInt8) (p : Nat) (h : p + l.length = n) : Good n (more fin l p) := by
  unfold more
  rcases here_cases l p with ⟨c, r, e, _, hl⟩ | ⟨e, _, hl⟩
  · rw [e, R.bind_ok]
    exact Good.ite (fun _ => Good.ok (by rw [List.tail_cons]; omega)) (fun _ => Good.no (by omega) (by decide))
  · rw [e, R.bind_no]; exact Good.no (by omega) (by decide)
/-- 'more' takes a byte at least. -/
theorem more_adv (fin : UInt8) (l : List UInt8) (p : Nat) {l' : List UInt8} {q : Nat} {d : Bool} (h : more fin l p = .ok l' q d) : l'.length < l.length := by
  have h1 := adv_more fin l p l' q d h
  have h2 := good_more fin l p rfl
  rw [h] at h2
  have h3 : q + l'.length = p + l.length := h2
  omega
theorem good_all : ∀ f, (∀ n deep l p t, p + l.length = n → Good n (value f deep l p t)) ∧ (∀ n deep fr kids l p t, p + l.length = n → fr ≤ n → Good n (list f deep fr kids l p t)) ∧ (∀ n deep fr names kids l p t, p + l.length = n → fr ≤ n → Good n (object f deep fr names kids l p t))
  | 0 => ⟨fun _ _ _ _ _ h => by rw [value]; exact Good.no (by omega) (by decide), fun _ _ _ _ _ _ _ h _ => by rw [list]; exact Good.no (by omega) (by decide), fun _ _ _ _ _ _ _ _ h _ => by rw [object]; exact Good.no (by omega) (by decide)⟩
  | f + 1 => by
    obtain ⟨hv, hl, ho⟩ := good_all f
    refine ⟨fun n deep l p t h => ?_, fun n deep fr kids l p t h hf => ?_, fun n deep fr names kids l p t h hf => ?_⟩
    · rw [value_succ]
      rcases here_cases l p with ⟨c, r, e, _, hlen⟩ | ⟨e, _, hlen⟩
      · rw [e, R.bind_ok]
        have hn : p + gapLen l + (c :: r).length = n := by rw [List.length_cons]; omega
        have hn' : p + gapLen l + 1 + r.length = n := by omega
        generalize p + gapLen l = q at *
        clear e
        unfold valueOn
        refine Good.ite (fun _ => ?_) fun _ => Good.ite (fun _ => ?_) fun _ => Good.ite (fun _ => ?_) fun _ => Good.ite (fun _ => ?_) fun _ => Good.ite (fun _ => ?_) fun _ => Good.ite (fun _ => Good.ite (fun _ => Good.no (by omega) (by decide)) fun _ => Good.ite (fun _ => ?_) fun _ => ?_) fun _ => Good.no (by omega) (by decide)
        · exact Good.bind (good_word _ _ _ hn) fun _ _ _ _ h1 => good_put _ _ _ _ _ h1 (by omega)
        · exact Good.bind (good_word _ _ _ hn) fun _ _ _ _ h1 => good_put _ _ _ _ _ h1 (by omega)
        · exact Good.bind (good_word _ _ _ hn) fun _ _ _ _ h1 => good_put _ _ _ _ _ h1 (by omega)
        · exact Good.bind (good_text _ _ hn') fun _ _ _ _ h1 => good_put _ _ _ _ _ h1 (by omega)
        · exact Good.bind (good_number _ _ hn) fun _ _ _ _ h1 => good_put _ _ _ _ _ h1 (by omega)
        · unfold listF
          rw [List.tail_cons]
          rcases here_cases r (q + 1) with ⟨c1, r1, e1, _, h1⟩ | ⟨e1, _, h1⟩
          · rw [e1, R.bind_ok]
            exact Good.ite (fun _ => good_put _ _ _ _ _ (by rw [List.tail_cons]; omega) (by omega)) fun _ => hl _ _ _ _ _ _ _ (by rw [List.length_cons]; omega) (by omega)
          · rw [e1, R.bind_no]; exact Good.no (by omega) (by decide)
        · unfold objectF
          rw [List.tail_cons]
          rcases here_cases r (q + 1) with ⟨c1, r1, e1, _, h1⟩ | ⟨e1, _, h1⟩
          · rw [e1, R.bind_ok]
            exact Good.ite (fun _ => good_put _ _ _ _ _ (by rw [List.tail_cons]; omega) (by omega)) fun _ => ho _ _ _ _ _ _ _ _ (by rw [List.length_cons]; omega) (by omega)
          · rw [e1, R.bind_no]; exact Good.no (by omega) (by decide)
      · rw [e, R.bind_no]; exact Good.no (by omega) (by decide)
    · rw [list_succ]
      exact Good.bind (hv _ _ _ _ _ h) fun l1 p1 v _ h1 => Good.bind (good_more _ _ _ h1) fun l2 p2 d _ h2 => Good.ite (fun _ => good_put _ _ _ _ _ h2 hf) fun _ => hl _ _ _ _ _ _ _ h2 hf
    · rw [object_succ]
      rcases here_cases l p with ⟨c, r, e, _, hlen⟩ | ⟨e, _, hlen⟩
      · rw [e, R.bind_ok]
        refine Good.ite (fun _ => ?_) fun _ => Good.no (by omega) (by decide)
        refine Good.bind (good_text _ _ (by rw [List.tail_cons]; omega)) fun l1 p1 s _ h1 => Good.ite (fun _ => Good.no (by omega) (by decide)) fun _ => ?_
        rcases here_cases l1 p1 with ⟨c2, r2, e2, _, h2⟩ | ⟨e2, _, h2⟩
        · rw [e2, R.bind_ok]
          refine Good.ite (fun _ => ?_) fun _ => Good.no (by omega) (by decide)
          exact Good.bind (hv _ _ _ _ _ (by rw [List.tail_cons]; omega)) fun l3 p3 v _ h3 => Good.bind (good_more _ _ _ h3) fun l4 p4 d _ h4 => Good.ite (fun _ => good_put _ _ _ _ _ h4 hf) fun _ => ho _ _ _ _ _ _ _ _ h4 hf
        · rw [e2, R.bind_no]; exact Good.no (by omega) (by decide)
      · rw [e, R.bind_no]; exact Good.no (by omega) (by decide)
/-- No value is read out of nothing. -/
theorem value_len (f deep : Nat) (l : List UInt8) (p : Nat) (t : List S39) {l' : List UInt8} {q : Nat} {v : List S39 × Int} (h : value f deep l p t = .ok l' q v) : l'.length ≤ l.length := by
  have h1 := (adv_all f).1 deep l p t l' q v h
  have h2 := (good_all f).1 _ deep l p t rfl
  rw [h] at h2
  have h3 : q + l'.length = p + l.length := h2
  omega
theorem text_len (l : List UInt8) (p : Nat) {l' : List UInt8} {q : Nat} {v : List UInt8} (h : text l p = .ok l' q v) : l'.length ≤ l.length := by
  have h1 := adv_text l p l' q v h
  have h2 := good_text l p rfl
  rw [h] at h2
  have h3 : q + l'.length = p + l.length := h2
  omega

/-! Fuel -/
theorem bind_congr {α β : Type} {r : R α} {g g' : List UInt8 → Nat → α → R β} (h : ∀ l q v, r = .ok l q v → g l q v = g' l q v) : r.bind g = r.bind g' := by
  cases r with
  | no q e => rfl
  | ok l q v => exact h l q v rfl
theorem ite_congr2 {α : Type} {c : Prop} [Decidable c] {x y x' y' : α} (hx : c → x = x') (hy : ¬ c → y = y') : (if c then x else y) = if c then x' else y' := by
  by_cases h : c
  · rw [if_pos h, if_pos h, hx h]
  · rw [if_neg h, if_neg h, hy h]
theorem fuel_all : ∀ f, (∀ g deep l p t, 2 * l.length + 1 ≤ f → 2 * l.length + 1 ≤ g → value f deep l p t = value g deep l p t) ∧ (∀ g deep fr kids l p t, 2 * l.length + 2 ≤ f → 2 * l.length + 2 ≤ g → list f deep fr kids l p t = list g deep fr kids l p t) ∧ (∀ g deep fr names kids l p t, 2 * l.length + 2 ≤ f → 2 * l.length + 2 ≤ g → object f deep fr names kids l p t = object g deep fr names kids l p t)
  | 0 => ⟨fun _ _ _ _ _ h _ => by omega, fun _ _ _ _ _ _ _ h _ => by omega, fun _ _ _ _ _ _ _ _ h _ => by omega⟩
  | f + 1 => by
    obtain ⟨hv, hl, ho⟩ := fuel_all f
    refine ⟨fun g deep l p t h h' => ?_, fun g deep fr kids l p t h h' => ?_, fun g deep fr names kids l p t h h' => ?_⟩
    · obtain ⟨g, rfl⟩ : ∃ k, g = k + 1 := ⟨g - 1, by omega⟩
      rw [value_succ, value_succ]
      rcases here_cases l p with ⟨c, r, e, _, hlen⟩ | ⟨e, _, hlen⟩
      · rw [e, R.bind_ok, R.bind_ok]
        generalize p + gapLen l = q at *
        clear e
        unfold valueOn
        refine ite_congr2 (fun _ => rfl) fun _ => ite_congr2 (fun _ => rfl) fun _ => ite_congr2 (fun _ => rfl) fun _ => ite_congr2 (fun _ => rfl) fun _ => ite_congr2 (fun _ => rfl) fun _ => ite_congr2 (fun _ => ite_congr2 (fun _ => rfl) fun _ => ite_congr2 (fun _ => ?_) fun _ => ?_) fun _ => rfl
        · unfold listF
          rw [List.tail_cons]
          rcases here_cases r (q + 1) with ⟨c1, r1, e1, _, h1⟩ | ⟨e1, _, h1⟩
          · rw [e1, R.bind_ok, R.bind_ok]
            exact ite_congr2 (fun _ => rfl) fun _ => hl _ _ _ _ _ _ _ (by rw [List.length_cons]; omega) (by rw [List.length_cons]; omega)
          · rw [e1, R.bind_no, R.bind_no]
        · unfold objectF
          rw [List.tail_cons]
          rcases here_cases r (q + 1) with ⟨c1, r1, e1, _, h1⟩ | ⟨e1, _, h1⟩
          · rw [e1, R.bind_ok, R.bind_ok]
            exact ite_congr2 (fun _ => rfl) fun _ => ho _ _ _ _ _ _ _ _ (by rw [List.length_cons]; omega) (by rw [List.length_cons]; omega)
          · rw [e1, R.bind_no, R.bind_no]
      · rw [e, R.bind_no, R.bind_no]
    · obtain ⟨g, rfl⟩ : ∃ k, g = k + 1 := ⟨g - 1, by omega⟩
      rw [list_succ, list_succ, hv g _ _ _ _ (by omega) (by omega)]
      refine bind_congr fun l1 p1 v h1 => bind_congr fun l2 p2 d h2 => ite_congr2 (fun _ => rfl) fun _ => ?_
      have k1 := value_len _ _ _ _ _ h1
      have k2 := more_adv _ _ _ h2
      exact hl _ _ _ _ _ _ _ (by omega) (by omega)
    · obtain ⟨g, rfl⟩ : ∃ k, g = k + 1 := ⟨g - 1, by omega⟩
      rw [object_succ, object_succ]
      rcases here_cases l p with ⟨c, r, e, _, hlen⟩ | ⟨e, _, hlen⟩
      · rw [e, R.bind_ok, R.bind_ok]
        refine ite_congr2 (fun _ => ?_) fun _ => rfl
        refine bind_congr fun l1 p1 s h1 => ite_congr2 (fun _ => rfl) fun _ => ?_
        have k1 := text_len _ _ h1
        rw [List.tail_cons] at k1
        rcases here_cases l1 p1 with ⟨c2, r2, e2, _, h2⟩ | ⟨e2, _, h2⟩
        · rw [e2, R.bind_ok, R.bind_ok]
          refine ite_congr2 (fun _ => ?_) fun _ => rfl
          rw [List.tail_cons, hv g _ _ _ _ (by omega) (by omega)]
          refine bind_congr fun l3 p3 v h3 => bind_congr fun l4 p4 d h4 => ite_congr2 (fun _ => rfl) fun _ => ?_
          have k3 := value_len _ _ _ _ _ h3
          have k4 := more_adv _ _ _ h4
          exact ho _ _ _ _ _ _ _ _ (by omega) (by omega)
        · rw [e2, R.bind_no, R.bind_no]
      · rw [e, R.bind_no, R.bind_no]
theorem value_fuel (f g deep : Nat) (l : List UInt8) (p : Nat) (t : List S39) (h : 2 * l.length + 1 ≤ f) (h' : 2 * l.length + 1 ≤ g) : value f deep l p t = value g deep l p t := (fuel_all f).1 g deep l p t h h'

/-! Blanks ahead: all places are later -/
def R.sh {α : Type} (k : Nat) : R α → R α
  | .ok l p v => .ok l (p + k) v
  | .no p e => .no (p + k) e
section
variable {α β : Type} {k : Nat}
theorem sh_bind {r r' : R α} {g g' : List UInt8 → Nat → α → R β} (h : r' = r.sh k) (hg : ∀ l q v, g' l (q + k) v = (g l q v).sh k) : r'.bind g' = (r.bind g).sh k := by
  subst h
  cases r with
  | no q e => rfl
  | ok l q v => exact hg l q v
theorem sh_ite {c : Prop} [Decidable c] {x y x' y' : R α} (hx : x' = x.sh k) (hy : y' = y.sh k) : (if c then x' else y') = (if c then x else y).sh k := by
  by_cases h : c
  · rw [if_pos h, if_pos h, hx]
  · rw [if_neg h, if_neg h, hy]
end
theorem sh_no {α : Type} (k p q : Nat) (e : Int) (h : q = p + k) : (.no q e : R α) = (R.no p e).sh k := by subst h; rfl
theorem sh_ok {α : Type} (k p q : Nat) (l : List UInt8) (v : α) (h : q = p + k) : (.ok l q v : R α) = (R.ok l p v).sh k := by subst h; rfl
section
variable (k : Nat)
theorem sh_here (l : List UInt8) (p : Nat) : here l (p + k) = (here l p).sh k := by
  unfold here
  cases l.drop (gapLen l) with
  | nil => exact sh_no _ _ _ _ (by omega)
  | cons c r => exact sh_ok _ _ _ _ _ (by omega)
theorem sh_word : ∀ (v l : List UInt8) (p : Nat), word v l (p + k) = (word v l p).sh k
  | [], l, p => rfl
  | c :: v, [], p => rfl
  | c :: v, x :: l, p => by
    rw [word_cons, word_cons]
    exact sh_ite (by rw [show p + k + 1 = p + 1 + k by omega]; exact sh_word v l (p + 1)) rfl
theorem sh_number (l : List UInt8) (p : Nat) : number l (p + k) = (number l p).sh k := by
  unfold number
  exact sh_ite (sh_ok _ _ _ _ _ (by omega)) rfl
theorem sh_hex : ∀ (m : Nat) (l : List UInt8) (p fr x : Nat), hex m l (p + k) (fr + k) x = (hex m l p fr x).sh k
  | 0, l, p, fr, x => by rw [hex, hex]; rfl
  | m + 1, [], p, fr, x => rfl
  | m + 1, c :: r, p, fr, x => by
    rw [hex, hex]
    cases digit c with
    | none => rfl
    | some d => dsimp only; rw [show p + k + 1 = p + 1 + k by omega]; exact sh_hex m r (p + 1) fr _
theorem sh_half (l : List UInt8) (p fr : Nat) : half l (p + k) (fr + k) = (half l p fr).sh k := by
  match l with
  | [] => rfl
  | [_] => exact sh_no _ _ _ _ (by omega)
  | _ :: c :: r =>
    unfold half
    dsimp only
    cases mark c with
    | some m => exact sh_ok _ _ _ _ _ (by omega)
    | none => exact sh_ite (by rw [show p + k + 2 = p + 2 + k by omega]; exact sh_hex k 4 r (p + 2) fr 0) rfl
theorem sh_escape (l : List UInt8) (p : Nat) : escape l (p + k) = (escape l p).sh k := by
  unfold escape
  refine sh_bind (sh_half k l p p) fun l1 p1 x => sh_ite rfl (sh_ite rfl (sh_ite ?_ rfl))
  exact sh_bind (sh_half k l1 p1 p) fun l2 p2 m => sh_ite rfl rfl
theorem sh_textGo : ∀ (f : Nat) (l : List UInt8) (p : Nat) (out : List UInt8), textGo f l (p + k) out = (textGo f l p out).sh k
  | 0, l, p, out => rfl
  | f + 1, [], p, out => rfl
  | f + 1, c :: r, p, out => by
    rw [textGo_cons, textGo_cons]
    refine sh_ite (sh_ok _ _ _ _ _ (by omega)) (sh_ite rfl (sh_ite ?_ (sh_ite rfl ?_)))
    · exact sh_bind (sh_escape k _ _) fun l1 p1 x => sh_textGo f l1 p1 _
    · rw [show p + k + (decodeL (c :: r)).2 = p + (decodeL (c :: r)).2 + k by omega]
      exact sh_textGo f _ _ _
theorem sh_text (l : List UInt8) (p : Nat) : text l (p + k) = (text l p).sh k := sh_textGo k _ _ _ _
theorem sh_put (t : List S39) (fr : Nat) (v : S39) (l : List UInt8) (p : Nat) : put t (fr + k) v l (p + k) = (put t fr v l p).sh k := by
  unfold put
  exact sh_ite rfl rfl
theorem sh_more (fin : UInt8) (l : List UInt8) (p : Nat) : more fin l (p + k) = (more fin l p).sh k := by
  unfold more
  exact sh_bind (sh_here k l p) fun l1 p1 c => sh_ite (sh_ok _ _ _ _ _ (by omega)) rfl
theorem sh_all : ∀ f, (∀ deep l p t, value f deep l (p + k) t = (value f deep l p t).sh k) ∧ (∀ deep fr kids l p t, list f deep (fr + k) kids l (p + k) t = (list f deep fr kids l p t).sh k) ∧ (∀ deep fr names kids l p t, object f deep (fr + k) names kids l (p + k) t = (object f deep fr names kids l p t).sh k)
  | 0 => ⟨fun _ _ _ _ => by rw [value, value]; rfl, fun _ _ _ _ _ _ => by rw [list, list]; rfl, fun _ _ _ _ _ _ _ => by rw [object, object]; rfl⟩
  | f + 1 => by
    obtain ⟨hv, hl, ho⟩ := sh_all f
    refine ⟨fun deep l p t => ?_, fun deep fr kids l p t => ?_, fun deep fr names kids l p t => ?_⟩
    · rw [value_succ, value_succ]
      refine sh_bind (sh_here k l p) fun l q c => ?_
      unfold valueOn
      refine sh_ite ?_ (sh_ite ?_ (sh_ite ?_ (sh_ite ?_ (sh_ite ?_ (sh_ite (sh_ite rfl (sh_ite ?_ ?_)) rfl)))))
      · exact sh_bind (sh_word k _ _ _) fun _ _ _ => sh_put k _ _ _ _ _
      · exact sh_bind (sh_word k _ _ _) fun _ _ _ => sh_put k _ _ _ _ _
      · exact sh_bind (sh_word k _ _ _) fun _ _ _ => sh_put k _ _ _ _ _
      · exact sh_bind (by rw [show q + k + 1 = q + 1 + k by omega]; exact sh_text k _ _) fun _ _ _ => sh_put k _ _ _ _ _
      · exact sh_bind (sh_number k _ _) fun _ _ _ => sh_put k _ _ _ _ _
      · unfold listF
        exact sh_bind (by rw [show q + k + 1 = q + 1 + k by omega]; exact sh_here k _ _) fun l1 q1 c1 => sh_ite (by rw [show q1 + k + 1 = q1 + 1 + k by omega]; exact sh_put k _ _ _ _ _) (hl _ _ _ _ _ _)
      · unfold objectF
        exact sh_bind (by rw [show q + k + 1 = q + 1 + k by omega]; exact sh_here k _ _) fun l1 q1 c1 => sh_ite (by rw [show q1 + k + 1 = q1 + 1 + k by omega]; exact sh_put k _ _ _ _ _) (ho _ _ _ _ _ _ _)
    · rw [list_succ, list_succ]
      exact sh_bind (hv _ _ _ _) fun l1 p1 v => sh_bind (sh_more k _ _ _) fun l2 p2 d => sh_ite (sh_put k _ _ _ _ _) (hl _ _ _ _ _ _)
    · rw [object_succ, object_succ]
      refine sh_bind (sh_here k l p) fun l q c => sh_ite ?_ rfl
      refine sh_bind (by rw [show q + k + 1 = q + 1 + k by omega]; exact sh_text k _ _) fun l1 p1 s => sh_ite rfl ?_
      refine sh_bind (sh_here k l1 p1) fun l2 p2 c2 => sh_ite ?_ rfl
      exact sh_bind (by rw [show p2 + k + 1 = p2 + 1 + k by omega]; exact hv _ _ _ _) fun l3 p3 v => sh_bind (sh_more k _ _ _) fun l4 p4 d => sh_ite (sh_put k _ _ _ _ _) (ho _ _ _ _ _ _ _)
end
theorem gap_blanks : ∀ (bl l : List UInt8), bl.all blank = true → gapLen (bl ++ l) = bl.length + gapLen l
  | [], l, _ => by simp
  | c :: bl, l, h => by
    rw [List.all_cons, Bool.and_eq_true] at h
    rw [List.cons_append, gapLen, if_pos h.1, gap_blanks bl l h.2, List.length_cons]
    omega
theorem here_blanks (bl l : List UInt8) (p : Nat) (h : bl.all blank = true) : here (bl ++ l) p = here l (p + bl.length) := by
  unfold here
  rw [gap_blanks bl l h, List.drop_append, List.drop_eq_nil_of_le (by omega), List.nil_append, Nat.add_sub_cancel_left, ← Nat.add_assoc]
/-- Blanks ahead change nothing but places. -/
theorem parse_blanks (bl b : List UInt8) (h : bl.all blank = true) (hb : bl.length + b.length ≤ 65536) : parse (bl ++ b) = match parse b with
    | .ok l p t => .ok l p t
    | .no p e => .no (p + bl.length) e := by
  have hlen : (bl ++ b).length = bl.length + b.length := List.length_append
  unfold parse
  rw [if_neg (by omega), if_neg (by omega)]
  have hv : value (2 * (bl ++ b).length + 2) 0 (bl ++ b) 0 [] = (value (2 * b.length + 2) 0 b 0 []).sh bl.length := by
    rw [value_fuel (2 * b.length + 2) (2 * (bl ++ b).length + 2) 0 b 0 [] (by omega) (by omega), ← (sh_all bl.length (2 * (bl ++ b).length + 2)).1, value_succ, value_succ, here_blanks bl b 0 h]
  rw [hv]
  cases value (2 * b.length + 2) 0 b 0 [] with
  | no p e => rfl
  | ok l p v =>
    show (if l.drop (gapLen l) = [] then _ else _) = _
    rw [R.bind_ok]
    by_cases h0 : l.drop (gapLen l) = []
    · rw [if_pos h0, if_pos h0]
    · rw [if_neg h0, if_neg h0]
      show R.no (p + bl.length + gapLen l) 22 = R.no (p + gapLen l + bl.length) 22
      rw [show p + bl.length + gapLen l = p + gapLen l + bl.length by omega]

end Go.Proofs.YtipbcdjnemdciaaDoor.Js
