/- The plain parser: places and bytes; fuel; more bytes behind; blanks ahead; ends (XPlG, XPlX and XPlS in one text). -/
import Derived.Test.YtipbcdjnemdciaaDoorPl
import Derived.Lib.MapLaws
import Derived.Lib.RuneCount
set_option linter.unusedVariables false
set_option linter.unusedSimpArgs false
namespace Go.Proofs.YtipbcdjnemdciaaDoor.Js
open Go.RowKit Go.Lib Go.Proofs.YtipbcdjnemdciaaDoor.PSh Go.Proofs.YtipbcdjnemdciaaDoor.Np

theorem gap_len_le : ∀ l : List UInt8, gapLen l ≤ l.length
  | [] => Nat.le_refl _
  | c :: r => by
    rw [gapLen]
    split
    · rw [List.length_cons]; have := gap_len_le r; omega
    · exact Nat.zero_le _
theorem gap_head : ∀ (l : List UInt8) (c : UInt8) (r : List UInt8), l.drop (gapLen l) = c :: r → blank c = false
  | [], c, r, h => by cases h
  | x :: l, c, r, h => by
    rw [gapLen] at h
    split at h
    · exact gap_head l c r h
    · cases h
      rename_i hb
      simpa using hb
theorem here_cases (l : List UInt8) (p : Nat) : (∃ c r, here l p = .ok (c :: r) (p + gapLen l) c ∧ l.drop (gapLen l) = c :: r ∧ gapLen l + (r.length + 1) = l.length) ∨ (here l p = .no (p + gapLen l) 21 ∧ l.drop (gapLen l) = [] ∧ gapLen l = l.length) := by
  have hg := gap_len_le l
  unfold here
  cases hd : l.drop (gapLen l) with
  | nil =>
    refine .inr ⟨rfl, rfl, ?_⟩
    have := congrArg List.length hd
    rw [List.length_drop, List.length_nil] at this
    omega
  | cons c r =>
    refine .inl ⟨c, r, rfl, rfl, ?_⟩
    have := congrArg List.length hd
    rw [List.length_drop, List.length_cons] at this
    omega
theorem gap_blank : ∀ (l : List UInt8), l.drop (gapLen l) = [] → ∀ c ∈ l, blank c = true
  | [], _, c, h => by cases h
  | x :: l, hd, c, h => by
    rw [gapLen] at hd
    split at hd
    · rename_i hb
      rcases List.mem_cons.1 h with rfl | h
      · exact hb
      · exact gap_blank l hd c h
    · cases hd
theorem gap_app (l x : List UInt8) (c : UInt8) (r : List UInt8) (h : l.drop (gapLen l) = c :: r) : gapLen (l ++ x) = gapLen l := by
  induction l with
  | nil => cases h
  | cons a l ih =>
    rw [List.cons_append, gapLen, gapLen]
    rw [gapLen] at h
    by_cases hb : blank a = true
    · rw [if_pos hb] at h ⊢
      rw [if_pos hb, ih h]
    · rw [if_neg hb, if_neg hb]
theorem num_le : ∀ l : List UInt8, numLen l ≤ l.length
  | [] => Nat.le_refl _
  | c :: r => by
    rw [numLen]
    split
    · rw [List.length_cons]; have := num_le r; omega
    · exact Nat.zero_le _
theorem num_app : ∀ (l x : List UInt8), numLen l < l.length → numLen (l ++ x) = numLen l
  | [], x, h => absurd h (Nat.lt_irrefl _)
  | c :: r, x, h => by
    rw [List.cons_append, numLen, numLen]
    rw [numLen] at h
    by_cases hb : numByte c = true
    · rw [if_pos hb] at h ⊢
      rw [if_pos hb, num_app r x (by rw [List.length_cons] at h; omega)]
    · rw [if_neg hb, if_neg hb]

/-! Places and bytes -/
/-- Read, and what is left ends where the bytes end; or a fault within, with a number. -/
def Good {α : Type} (n : Nat) (r : R α) : Prop := match r with
  | .ok l q _ => q + l.length = n
  | .no q e => q ≤ n ∧ e ≠ 0
section
variable {α β : Type} {n : Nat}
theorem Good.no {q : Nat} {e : Int} (h : q ≤ n) (he : e ≠ 0) : Good n (.no q e : R α) := ⟨h, he⟩
theorem Good.ok {l : List UInt8} {q : Nat} {v : α} (h : q + l.length = n) : Good n (.ok l q v : R α) := h
theorem Good.bind {r : R α} {g : List UInt8 → Nat → α → R β} (h : Good n r) (hg : ∀ l q v, r = .ok l q v → q + l.length = n → Good n (g l q v)) : Good n (r.bind g) := by
  cases r with
  | no q e => exact h
  | ok l q v => exact hg l q v rfl h
theorem Good.ite {c : Prop} [Decidable c] {x y : R α} (hx : c → Good n x) (hy : ¬ c → Good n y) : Good n (if c then x else y) := by
  by_cases h : c
  · rw [if_pos h]; exact hx h
  · rw [if_neg h]; exact hy h
end
theorem good_here {n : Nat} (l : List UInt8) (p : Nat) (h : p + l.length = n) : Good n (here l p) := by
  rcases here_cases l p with ⟨c, r, e, _, hl⟩ | ⟨e, _, hl⟩
  · rw [e]; exact Good.ok (by rw [List.length_cons]; omega)
  · rw [e]; exact Good.no (by omega) (by decide)
theorem good_word {n : Nat} : ∀ (v l : List UInt8) (p : Nat), p + l.length = n → Good n (word v l p)
  | [], l, p, h => Good.ok h
  | c :: v, [], p, h => Good.no (by rw [List.length_nil] at h; omega) (by decide)
  | c :: v, x :: l, p, h => by
    rw [List.length_cons] at h
    rw [word_cons]
    exact Good.ite (fun _ => good_word v l (p + 1) (by omega)) (fun _ => Good.no (by omega) (by decide))
theorem good_number {n : Nat} (l : List UInt8) (p : Nat) (h : p + l.length = n) : Good n (number l p) := by
  unfold number
  have := num_le l
  exact Good.ite (fun _ => Good.ok (by rw [List.length_drop]; omega)) (fun _ => Good.no (by omega) (by decide))
theorem good_hex {n : Nat} : ∀ (k : Nat) (l : List UInt8) (p fr x : Nat), p + l.length = n → fr ≤ n → Good n (hex k l p fr x)
  | 0, l, p, fr, x, h, _ => by rw [hex]; exact Good.ok h
  | k + 1, [], p, fr, x, h, _ => Good.no (by rw [List.length_nil] at h; omega) (by decide)
  | k + 1, c :: r, p, fr, x, h, hf => by
    rw [hex]
    rw [List.length_cons] at h
    cases digit c with
    | none => exact Good.no hf (by decide)
    | some d => exact good_hex k r (p + 1) fr _ (by omega) hf
theorem good_half {n : Nat} (l : List UInt8) (p fr : Nat) (h : p + l.length = n) (hf : fr ≤ n) : Good n (half l p fr) := by
  match l, h with
  | [], h => exact Good.no (by rw [List.length_nil] at h; omega) (by decide)
  | [_], h => exact Good.no (by rw [List.length_singleton] at h; omega) (by decide)
  | _ :: c :: r, h =>
    rw [List.length_cons, List.length_cons] at h
    unfold half
    dsimp only
    cases mark c with
    | some k => exact Good.ok (by omega)
    | none => exact Good.ite (fun _ => good_hex 4 r (p + 2) fr 0 (by omega) hf) (fun _ => Good.no hf (by decide))
theorem good_escape {n : Nat} (l : List UInt8) (p : Nat) (h : p + l.length = n) : Good n (escape l p) := by
  unfold escape
  refine Good.bind (good_half l p p h (by omega)) fun l1 p1 x _ h1 => ?_
  refine Good.ite (fun _ => Good.no (by omega) (by decide)) fun _ => Good.ite (fun _ => Good.ok h1) fun _ => Good.ite (fun _ => ?_) (fun _ => Good.no (by omega) (by decide))
  exact Good.bind (good_half l1 p1 p h1 (by omega)) fun l2 p2 m _ h2 => Good.ite (fun _ => Good.no (by omega) (by decide)) (fun _ => Good.ok h2)
theorem good_textGo {n : Nat} : ∀ (f : Nat) (l : List UInt8) (p : Nat) (out : List UInt8), p + l.length = n → Good n (textGo f l p out)
  | 0, l, p, out, h => Good.no (by omega) (by decide)
  | f + 1, [], p, out, h => Good.no (by omega) (by decide)
  | f + 1, c :: r, p, out, h => by
    rw [textGo_cons]
    have hw := decodeL_le (c :: r) (by simp)
    have hl : (c :: r).length = r.length + 1 := List.length_cons
    refine Good.ite (fun _ => Good.ok (by omega)) fun _ => Good.ite (fun _ => Good.no (by omega) (by decide)) fun _ => Good.ite (fun _ => ?_) fun _ => Good.ite (fun _ => Good.no (by omega) (by decide)) fun _ => ?_
    · exact Good.bind (good_escape _ _ h) fun l1 p1 x _ h1 => good_textGo f l1 p1 _ h1
    · exact good_textGo f _ _ _ (by rw [List.length_drop]; omega)
theorem good_text {n : Nat} (l : List UInt8) (p : Nat) (h : p + l.length = n) : Good n (text l p) := good_textGo _ _ _ _ h
theorem good_put {n : Nat} (t : List S39) (fr : Nat) (v : S39) (l : List UInt8) (p : Nat) (h : p + l.length = n) (hf : fr ≤ n) : Good n (put t fr v l p) := by
  unfold put
  exact Good.ite (fun _ => Good.no hf (by decide)) (fun _ => Good.ok h)
theorem good_more {n : Nat} (fin : UInt8) (l : List UInt8) (p : Nat) (h : p + l.length = n) : Good n (more fin l p) := by
  unfold more
  rcases here_cases l p with ⟨c, r, e, _, hl⟩ | ⟨e, _, hl⟩
  · rw [e, R.bind_ok]
    exact Good.ite (fun _ => Good.ok (by rw [List.tail_cons]; omega)) (fun _ => Good.no (by omega) (by decide))
  · rw [e, R.bind_no]; exact Good.no (by omega) (by decide)
/-- 'more' takes a byte at least. -/
theorem more_adv (fin : UInt8) (l : List UInt8) (p : Nat) {l' : List UInt8} {q : Nat} {d : Bool} (h : more fin l p = .ok l' q d) : l'.length < l.length := by
  have h1 := adv_more fin l p l' q d h
  have h2 := good_more fin l p rfl
  rw [h] at h2
  have h3 : q + l'.length = p + l.length := h2
  omega
theorem good_all : ∀ f, (∀ n deep l p t, p + l.length = n → Good n (value f deep l p t)) ∧ (∀ n deep fr kids l p t, p + l.length = n → fr ≤ n → Good n (list f deep fr kids l p t)) ∧ (∀ n deep fr names kids l p t, p + l.length = n → fr ≤ n → Good n (object f deep fr names kids l p t))
  | 0 => ⟨fun _ _ _ _ _ h => by rw [value]; exact Good.no (by omega) (by decide), fun _ _ _ _ _ _ _ h _ => by rw [list]; exact Good.no (by omega) (by decide), fun _ _ _ _ _ _ _ _ h _ => by rw [object]; exact Good.no (by omega) (by decide)⟩
  | f + 1 => by
    obtain ⟨hv, hl, ho⟩ := good_all f
    refine ⟨fun n deep l p t h => ?_, fun n deep fr kids l p t h hf => ?_, fun n deep fr names kids l p t h hf => ?_⟩
    · rw [value_succ]
      rcases here_cases l p with ⟨c, r, e, _, hlen⟩ | ⟨e, _, hlen⟩
      · rw [e, R.bind_ok]
        have hn : p + gapLen l + (c :: r).length = n := by rw [List.length_cons]; omega
        have hn' : p + gapLen l + 1 + r.length = n := by omega
        generalize p + gapLen l = q at *
        clear e
        unfold valueOn
        refine Good.ite (fun _ => ?_) fun _ => Good.ite (fun _ => ?_) fun _ => Good.ite (fun _ => ?_) fun _ => Good.ite (fun _ => ?_) fun _ => Good.ite (fun _ => ?_) fun _ => Good.ite (fun _ => Good.ite (fun _ => Good.no (by omega) (by decide)) fun _ => Good.ite (fun _ => ?_) fun _ => ?_) fun _ => Good.no (by omega) (by decide)
        · exact Good.bind (good_word _ _ _ hn) fun _ _ _ _ h1 => good_put _ _ _ _ _ h1 (by omega)
        · exact Good.bind (good_word _ _ _ hn) fun _ _ _ _ h1 => good_put _ _ _ _ _ h1 (by omega)
        · exact Good.bind (good_word _ _ _ hn) fun _ _ _ _ h1 => good_put _ _ _ _ _ h1 (by omega)
        · exact Good.bind (good_text _ _ hn') fun _ _ _ _ h1 => good_put _ _ _ _ _ h1 (by omega)
        · exact Good.bind (good_number _ _ hn) fun _ _ _ _ h1 => good_put _ _ _ _ _ h1 (by omega)
        · unfold listF
          rw [List.tail_cons]
          rcases here_cases r (q + 1) with ⟨c1, r1, e1, _, h1⟩ | ⟨e1, _, h1⟩
          · rw [e1, R.bind_ok]
            exact Good.ite (fun _ => good_put _ _ _ _ _ (by rw [List.tail_cons]; omega) (by omega)) fun _ => hl _ _ _ _ _ _ _ (by rw [List.length_cons]; omega) (by omega)
          · rw [e1, R.bind_no]; exact Good.no (by omega) (by decide)
        · unfold objectF
          rw [List.tail_cons]
          rcases here_cases r (q + 1) with ⟨c1, r1, e1, _, h1⟩ | ⟨e1, _, h1⟩
          · rw [e1, R.bind_ok]
            exact Good.ite (fun _ => good_put _ _ _ _ _ (by rw [List.tail_cons]; omega) (by omega)) fun _ => ho _ _ _ _ _ _ _ _ (by rw [List.length_cons]; omega) (by omega)
          · rw [e1, R.bind_no]; exact Good.no (by omega) (by decide)
      · rw [e, R.bind_no]; exact Good.no (by omega) (by decide)
    · rw [list_succ]
      exact Good.bind (hv _ _ _ _ _ h) fun l1 p1 v _ h1 => Good.bind (good_more _ _ _ h1) fun l2 p2 d _ h2 => Good.ite (fun _ => good_put _ _ _ _ _ h2 hf) fun _ => hl _ _ _ _ _ _ _ h2 hf
    · rw [object_succ]
      rcases here_cases l p with ⟨c, r, e, _, hlen⟩ | ⟨e, _, hlen⟩
      · rw [e, R.bind_ok]
        refine Good.ite (fun _ => ?_) fun _ => Good.no (by omega) (by decide)
        refine Good.bind (good_text _ _ (by rw [List.tail_cons]; omega)) fun l1 p1 s _ h1 => Good.ite (fun _ => Good.no (by omega) (by decide)) fun _ => ?_
        rcases here_cases l1 p1 with ⟨c2, r2, e2, _, h2⟩ | ⟨e2, _, h2⟩
        · rw [e2, R.bind_ok]
          refine Good.ite (fun _ => ?_) fun _ => Good.no (by omega) (by decide)
          exact Good.bind (hv _ _ _ _ _ (by rw [List.tail_cons]; omega)) fun l3 p3 v _ h3 => Good.bind (good_more _ _ _ h3) fun l4 p4 d _ h4 => Good.ite (fun _ => good_put _ _ _ _ _ h4 hf) fun _ => ho _ _ _ _ _ _ _ _ h4 hf
        · rw [e2, R.bind_no]; exact Good.no (by omega) (by decide)
      · rw [e, R.bind_no]; exact Good.no (by omega) (by decide)
/-- No value is read out of nothing. -/
theorem value_len (f deep : Nat) (l : List UInt8) (p : Nat) (t : List S39) {l' : List UInt8} {q : Nat} {v : List S39 × Int} (h : value f deep l p t = .ok l' q v) : l'.length ≤ l.length := by
  have h1 := (adv_all f).1 deep l p t l' q v h
  have h2 := (good_all f).1 _ deep l p t rfl
  rw [h] at h2
  have h3 : q + l'.length = p + l.length := h2
  omega
theorem text_len (l : List UInt8) (p : Nat) {l' : List UInt8} {q : Nat} {v : List UInt8} (h : text l p = .ok l' q v) : l'.length ≤ l.length := by
  have h1 := adv_text l p l' q v h
  have h2 := good_text l p rfl
  rw [h] at h2
  have h3 : q + l'.length = p + l.length := h2
  omega

/-! Fuel -/
theorem bind_congr {α β : Type} {r : R α} {g g' : List UInt8 → Nat → α → R β} (h : ∀ l q v, r = .ok l q v → g l q v = g' l q v) : r.bind g = r.bind g' := by
  cases r with
  | no q e => rfl
  | ok l q v => exact h l q v rfl
theorem ite_congr2 {α : Type} {c : Prop} [Decidable c] {x y x' y' : α} (hx : c → x = x') (hy : ¬ c → y = y') : (if c then x else y) = if c then x' else y' := by
  by_cases h : c
  · rw [if_pos h, if_pos h, hx h]
  · rw [if_neg h, if_neg h, hy h]
theorem fuel_all : ∀ f, (∀ g deep l p t, 2 * l.length + 1 ≤ f → 2 * l.length + 1 ≤ g → value f deep l p t = value g deep l p t) ∧ (∀ g deep fr kids l p t, 2 * l.length + 2 ≤ f → 2 * l.length + 2 ≤ g → list f deep fr kids l p t = list g deep fr kids l p t) ∧ (∀ g deep fr names kids l p t, 2 * l.length + 2 ≤ f → 2 * l.length + 2 ≤ g → object f deep fr names kids l p t = object g deep fr names kids l p t)
  | 0 => ⟨fun _ _ _ _ _ h _ => by omega, fun _ _ _ _ _ _ _ h _ => by omega, fun _ _ _ _ _ _ _ _ h _ => by omega⟩
  | f + 1 => by
    obtain ⟨hv, hl, ho⟩ := fuel_all f
    refine ⟨fun g deep l p t h h' => ?_, fun g deep fr kids l p t h h' => ?_, fun g deep fr names kids l p t h h' => ?_⟩
    · obtain ⟨g, rfl⟩ : ∃ k, g = k + 1 := ⟨g - 1, by omega⟩
      rw [value_succ, value_succ]
      rcases here_cases l p with ⟨c, r, e, _, hlen⟩ | ⟨e, _, hlen⟩
      · rw [e, R.bind_ok, R.bind_ok]
        generalize p + gapLen l = q at *
        clear e
        unfold valueOn
        refine ite_congr2 (fun _ => rfl) fun _ => ite_congr2 (fun _ => rfl) fun _ => ite_congr2 (fun _ => rfl) fun _ => ite_congr2 (fun _ => rfl) fun _ => ite_congr2 (fun _ => rfl) fun _ => ite_congr2 (fun _ => ite_congr2 (fun _ => rfl) fun _ => ite_congr2 (fun _ => ?_) fun _ => ?_) fun _ => rfl
        · unfold listF
          rw [List.tail_cons]
          rcases here_cases r (q + 1) with ⟨c1, r1, e1, _, h1⟩ | ⟨e1, _, h1⟩
          · rw [e1, R.bind_ok, R.bind_ok]
            exact ite_congr2 (fun _ => rfl) fun _ => hl _ _ _ _ _ _ _ (by rw [List.length_cons]; omega) (by rw [List.length_cons]; omega)
          · rw [e1, R.bind_no, R.bind_no]
        · unfold objectF
          rw [List.tail_cons]
          rcases here_cases r (q + 1) with ⟨c1, r1, e1, _, h1⟩ | ⟨e1, _, h1⟩
          · rw [e1, R.bind_ok, R.bind_ok]
            exact ite_congr2 (fun _ => rfl) fun _ => ho _ _ _ _ _ _ _ _ (by rw [List.length_cons]; omega) (by rw [List.length_cons]; omega)
          · rw [e1, R.bind_no, R.bind_no]
      · rw [e, R.bind_no, R.bind_no]
    · obtain ⟨g, rfl⟩ : ∃ k, g = k + 1 := ⟨g - 1, by omega⟩
      rw [list_succ, list_succ, hv g _ _ _ _ (by omega) (by omega)]
      refine bind_congr fun l1 p1 v h1 => bind_congr fun l2 p2 d h2 => ite_congr2 (fun _ => rfl) fun _ => ?_
      have k1 := value_len _ _ _ _ _ h1
      have k2 := more_adv _ _ _ h2
      exact hl _ _ _ _ _ _ _ (by omega) (by omega)
    · obtain ⟨g, rfl⟩ : ∃ k, g = k + 1 := ⟨g - 1, by omega⟩
      rw [object_succ, object_succ]
      rcases here_cases l p with ⟨c, r, e, _, hlen⟩ | ⟨e, _, hlen⟩
      · rw [e, R.bind_ok, R.bind_ok]
        refine ite_congr2 (fun _ => ?_) fun _ => rfl
        refine bind_congr fun l1 p1 s h1 => ite_congr2 (fun _ => rfl) fun _ => ?_
        have k1 := text_len _ _ h1
        rw [List.tail_cons] at k1
        rcases here_cases l1 p1 with ⟨c2, r2, e2, _, h2⟩ | ⟨e2, _, h2⟩
        · rw [e2, R.bind_ok, R.bind_ok]
          refine ite_congr2 (fun _ => ?_) fun _ => rfl
          rw [List.tail_cons, hv g _ _ _ _ (by omega) (by omega)]
          refine bind_congr fun l3 p3 v h3 => bind_congr fun l4 p4 d h4 => ite_congr2 (fun _ => rfl) fun _ => ?_
          have k3 := value_len _ _ _ _ _ h3
          have k4 := more_adv _ _ _ h4
          exact ho _ _ _ _ _ _ _ _ (by omega) (by omega)
        · rw [e2, R.bind_no, R.bind_no]
      · rw [e, R.bind_no, R.bind_no]
theorem value_fuel (f g deep : Nat) (l : List UInt8) (p : Nat) (t : List S39) (h : 2 * l.length + 1 ≤ f) (h' : 2 * l.length + 1 ≤ g) : value f deep l p t = value g deep l p t := (fuel_all f).1 g deep l p t h h'

/-! Blanks ahead: all places are later -/
def R.sh {α : Type} (k : Nat) : R α → R α
  | .ok l p v => .ok l (p + k) v
  | .no p e => .no (p + k) e
section
variable {α β : Type} {k : Nat}
theorem sh_bind {r r' : R α} {g g' : List UInt8 → Nat → α → R β} (h : r' = r.sh k) (hg : ∀ l q v, g' l (q + k) v = (g l q v).sh k) : r'.bind g' = (r.bind g).sh k := by
  subst h
  cases r with
  | no q e => rfl
  | ok l q v => exact hg l q v
theorem sh_ite {c : Prop} [Decidable c] {x y x' y' : R α} (hx : x' = x.sh k) (hy : y' = y.sh k) : (if c then x' else y') = (if c then x else y).sh k := by
  by_cases h : c
  · rw [if_pos h, if_pos h, hx]
  · rw [if_neg h, if_neg h, hy]
end
theorem sh_no {α : Type} (k p q : Nat) (e : Int) (h : q = p + k) : (.no q e : R α) = (R.no p e).sh k := by subst h; rfl
theorem sh_ok {α : Type} (k p q : Nat) (l : List UInt8) (v : α) (h : q = p + k) : (.ok l q v : R α) = (R.ok l p v).sh k := by subst h; rfl
section
variable (k : Nat)
theorem sh_here (l : List UInt8) (p : Nat) : here l (p + k) = (here l p).sh k := by
  unfold here
  cases l.drop (gapLen l) with
  | nil => exact sh_no _ _ _ _ (by omega)
  | cons c r => exact sh_ok _ _ _ _ _ (by omega)
theorem sh_word : ∀ (v l : List UInt8) (p : Nat), word v l (p + k) = (word v l p).sh k
  | [], l, p => rfl
  | c :: v, [], p => rfl
  | c :: v, x :: l, p => by
    rw [word_cons, word_cons]
    exact sh_ite (by rw [show p + k + 1 = p + 1 + k by omega]; exact sh_word v l (p + 1)) rfl
theorem sh_number (l : List UInt8) (p : Nat) : number l (p + k) = (number l p).sh k := by
  unfold number
  exact sh_ite (sh_ok _ _ _ _ _ (by omega)) rfl
theorem sh_hex : ∀ (m : Nat) (l : List UInt8) (p fr x : Nat), hex m l (p + k) (fr + k) x = (hex m l p fr x).sh k
  | 0, l, p, fr, x => by rw [hex, hex]; rfl
  | m + 1, [], p, fr, x => rfl
  | m + 1, c :: r, p, fr, x => by
    rw [hex, hex]
    cases digit c with
    | none => rfl
    | some d => dsimp only; rw [show p + k + 1 = p + 1 + k by omega]; exact sh_hex m r (p + 1) fr _
theorem sh_half (l : List UInt8) (p fr : Nat) : half l (p + k) (fr + k) = (half l p fr).sh k := by
  match l with
  | [] => rfl
  | [_] => exact sh_no _ _ _ _ (by omega)
  | _ :: c :: r =>
    unfold half
    dsimp only
    cases mark c with
    | some m => exact sh_ok _ _ _ _ _ (by omega)
    | none => exact sh_ite (by rw [show p + k + 2 = p + 2 + k by omega]; exact sh_hex k 4 r (p + 2) fr 0) rfl
theorem sh_escape (l : List UInt8) (p : Nat) : escape l (p + k) = (escape l p).sh k := by
  unfold escape
  refine sh_bind (sh_half k l p p) fun l1 p1 x => sh_ite rfl (sh_ite rfl (sh_ite ?_ rfl))
  exact sh_bind (sh_half k l1 p1 p) fun l2 p2 m => sh_ite rfl rfl
theorem sh_textGo : ∀ (f : Nat) (l : List UInt8) (p : Nat) (out : List UInt8), textGo f l (p + k) out = (textGo f l p out).sh k
  | 0, l, p, out => rfl
  | f + 1, [], p, out => rfl
  | f + 1, c :: r, p, out => by
    rw [textGo_cons, textGo_cons]
    refine sh_ite (sh_ok _ _ _ _ _ (by omega)) (sh_ite rfl (sh_ite ?_ (sh_ite rfl ?_)))
    · exact sh_bind (sh_escape k _ _) fun l1 p1 x => sh_textGo f l1 p1 _
    · rw [show p + k + (decodeL (c :: r)).2 = p + (decodeL (c :: r)).2 + k by omega]
      exact sh_textGo f _ _ _
theorem sh_text (l : List UInt8) (p : Nat) : text l (p + k) = (text l p).sh k := sh_textGo k _ _ _ _
theorem sh_put (t : List S39) (fr : Nat) (v : S39) (l : List UInt8) (p : Nat) : put t (fr + k) v l (p + k) = (put t fr v l p).sh k := by
  unfold put
  exact sh_ite rfl rfl
theorem sh_more (fin : UInt8) (l : List UInt8) (p : Nat) : more fin l (p + k) = (more fin l p).sh k := by
  unfold more
  exact sh_bind (sh_here k l p) fun l1 p1 c => sh_ite (sh_ok _ _ _ _ _ (by omega)) rfl
theorem sh_all : ∀ f, (∀ deep l p t, value f deep l (p + k) t = (value f deep l p t).sh k) ∧ (∀ deep fr kids l p t, list f deep (fr + k) kids l (p + k) t = (list f deep fr kids l p t).sh k) ∧ (∀ deep fr names kids l p t, object f deep (fr + k) names kids l (p + k) t = (object f deep fr names kids l p t).sh k)
  | 0 => ⟨fun _ _ _ _ => by rw [value, value]; rfl, fun _ _ _ _ _ _ => by rw [list, list]; rfl, fun _ _ _ _ _ _ _ => by rw [object, object]; rfl⟩
  | f + 1 => by
    obtain ⟨hv, hl, ho⟩ := sh_all f
    refine ⟨fun deep l p t => ?_, fun deep fr kids l p t => ?_, fun deep fr names kids l p t => ?_⟩
    · rw [value_succ, value_succ]
      refine sh_bind (sh_here k l p) fun l q c => ?_
      unfold valueOn
      refine sh_ite ?_ (sh_ite ?_ (sh_ite ?_ (sh_ite ?_ (sh_ite ?_ (sh_ite (sh_ite rfl (sh_ite ?_ ?_)) rfl)))))
      · exact sh_bind (sh_word k _ _ _) fun _ _ _ => sh_put k _ _ _ _ _
      · exact sh_bind (sh_word k _ _ _) fun _ _ _ => sh_put k _ _ _ _ _
      · exact sh_bind (sh_word k _ _ _) fun _ _ _ => sh_put k _ _ _ _ _
      · exact sh_bind (by rw [show q + k + 1 = q + 1 + k by omega]; exact sh_text k _ _) fun _ _ _ => sh_put k _ _ _ _ _
      · exact sh_bind (sh_number k _ _) fun _ _ _ => sh_put k _ _ _ _ _
      · unfold listF
        exact sh_bind (by rw [show q + k + 1 = q + 1 + k by omega]; exact sh_here k _ _) fun l1 q1 c1 => sh_ite (by rw [show q1 + k + 1 = q1 + 1 + k by omega]; exact sh_put k _ _ _ _ _) (hl _ _ _ _ _ _)
      · unfold objectF
        exact sh_bind (by rw [show q + k + 1 = q + 1 + k by omega]; exact sh_here k _ _) fun l1 q1 c1 => sh_ite (by rw [show q1 + k + 1 = q1 + 1 + k by omega]; exact sh_put k _ _ _ _ _) (ho _ _ _ _ _ _ _)
    · rw [list_succ, list_succ]
      exact sh_bind (hv _ _ _ _) fun l1 p1 v => sh_bind (sh_more k _ _ _) fun l2 p2 d => sh_ite (sh_put k _ _ _ _ _) (hl _ _ _ _ _ _)
    · rw [object_succ, object_succ]
      refine sh_bind (sh_here k l p) fun l q c => sh_ite ?_ rfl
      refine sh_bind (by rw [show q + k + 1 = q + 1 + k by omega]; exact sh_text k _ _) fun l1 p1 s => sh_ite rfl ?_
      refine sh_bind (sh_here k l1 p1) fun l2 p2 c2 => sh_ite ?_ rfl
      exact sh_bind (by rw [show p2 + k + 1 = p2 + 1 + k by omega]; exact hv _ _ _ _) fun l3 p3 v => sh_bind (sh_more k _ _ _) fun l4 p4 d => sh_ite (sh_put k _ _ _ _ _) (ho _ _ _ _ _ _ _)
end
theorem gap_blanks : ∀ (bl l : List UInt8), bl.all blank = true → gapLen (bl ++ l) = bl.length + gapLen l
  | [], l, _ => by simp
  | c :: bl, l, h => by
    rw [List.all_cons, Bool.and_eq_true] at h
    rw [List.cons_append, gapLen, if_pos h.1, gap_blanks bl l h.2, List.length_cons]
    omega
theorem here_blanks (bl l : List UInt8) (p : Nat) (h : bl.all blank = true) : here (bl ++ l) p = here l (p + bl.length) := by
  unfold here
  rw [gap_blanks bl l h, List.drop_append, List.drop_eq_nil_of_le (by omega), List.nil_append, Nat.add_sub_cancel_left, ← Nat.add_assoc]
/-- Blanks ahead change nothing but places. -/
theorem parse_blanks (bl b : List UInt8) (h : bl.all blank = true) (hb : bl.length + b.length ≤ 65536) : parse (bl ++ b) = match parse b with
    | .ok l p t => .ok l p t
    | .no p e => .no (p + bl.length) e := by
  have hlen : (bl ++ b).length = bl.length + b.length := List.length_append
  unfold parse
  rw [if_neg (by omega), if_neg (by omega)]
  have hv : value (2 * (bl ++ b).length + 2) 0 (bl ++ b) 0 [] = (value (2 * b.length + 2) 0 b 0 []).sh bl.length := by
    rw [value_fuel (2 * b.length + 2) (2 * (bl ++ b).length + 2) 0 b 0 [] (by omega) (by omega), ← (sh_all bl.length (2 * (bl ++ b).length + 2)).1, value_succ, value_succ, here_blanks bl b 0 h]
  rw [hv]
  cases value (2 * b.length + 2) 0 b 0 [] with
  | no p e => rfl
  | ok l p v =>
    show (if l.drop (gapLen l) = [] then _ else _) = _
    rw [R.bind_ok]
    by_cases h0 : l.drop (gapLen l) = []
    · rw [if_pos h0, if_pos h0]
    · rw [if_neg h0, if_neg h0]
      show R.no (p + bl.length + gapLen l) 22 = R.no (p + gapLen l + bl.length) 22
      rw [show p + bl.length + gapLen l = p + gapLen l + bl.length by omega]

end Go.Proofs.YtipbcdjnemdciaaDoor.Js

namespace Go.Proofs.YtipbcdjnemdciaaDoor.Js
open Go.RowKit Go.Lib Go.Proofs.YtipbcdjnemdciaaDoor.PSh Go.Proofs.YtipbcdjnemdciaaDoor.Np

theorem decodeN_ext (n n' b0 b1 b2 b3 c1 c2 c3 : Nat) (hn : n ≤ n') (h1 : 1 < n → c1 = b1) (h2 : 2 < n → c2 = b2) (h3 : 3 < n → c3 = b3) (h : decodeN n b0 b1 b2 b3 ≠ (65533, 1)) : decodeN n' b0 c1 c2 c3 = decodeN n b0 b1 b2 b3 := by
  unfold decodeN at h ⊢
  by_cases k0 : b0 < 128
  · rw [if_pos k0, if_pos k0]
  · rw [if_neg k0] at h ⊢
    rw [if_neg k0]
    by_cases k1 : b0 / 32 = 6 ∧ (1 < n ∧ b1 / 64 = 2)
    · obtain rfl := h1 k1.2.1
      rw [if_pos k1, if_pos ⟨k1.1, by omega, k1.2.2⟩]
    · rw [if_neg k1] at h ⊢
      by_cases k2 : b0 / 16 = 14 ∧ (1 < n ∧ b1 / 64 = 2) ∧ (2 < n ∧ b2 / 64 = 2)
      · obtain rfl := h1 k2.2.1.1
        obtain rfl := h2 k2.2.2.1
        rw [if_pos k2, if_neg (by omega), if_pos ⟨k2.1, ⟨by omega, k2.2.1.2⟩, by omega, k2.2.2.2⟩]
      · rw [if_neg k2] at h ⊢
        by_cases k3 : b0 / 8 = 30 ∧ (1 < n ∧ b1 / 64 = 2) ∧ (2 < n ∧ b2 / 64 = 2) ∧ (3 < n ∧ b3 / 64 = 2)
        · obtain rfl := h1 k3.2.1.1
          obtain rfl := h2 k3.2.2.1.1
          obtain rfl := h3 k3.2.2.2.1
          rw [if_pos k3, if_neg (by omega), if_neg (by omega), if_pos ⟨k3.1, ⟨by omega, k3.2.1.2⟩, ⟨by omega, k3.2.2.1.2⟩, by omega, k3.2.2.2.2⟩]
        · rw [if_neg k3] at h
          exact absurd rfl h
theorem getD_app (l x : List UInt8) (i : Nat) (h : i < l.length) : (l ++ x).getD i 0 = l.getD i 0 := by
  rw [List.getD_eq_getElem?_getD, List.getD_eq_getElem?_getD, List.getElem?_append_left h]
theorem decodeL_ext (c : UInt8) (r x : List UInt8) (h : decodeL (c :: r) ≠ (65533, 1)) : decodeL ((c :: r) ++ x) = decodeL (c :: r) := by
  rw [decodeL_N] at h ⊢
  rw [decodeL_N]
  rw [getD_app (c :: r) x 0 (by simp)]
  refine decodeN_ext _ _ _ _ _ _ _ _ _ (by simp) (fun h1 => ?_) (fun h1 => ?_) (fun h1 => ?_) h
  · rw [getD_app _ _ _ h1]
  · rw [getD_app _ _ _ h1]
  · rw [getD_app _ _ _ h1]

section
variable {α β : Type} {x : List UInt8}
/-- What is read is read with more bytes behind too. -/
def Ext (x : List UInt8) (r r' : R α) : Prop := ∀ l q v, r = .ok l q v → r' = .ok (l ++ x) q v
/-- The same, where something is left. -/
def Exl (x : List UInt8) (r r' : R α) : Prop := ∀ l q v, l ≠ [] → r = .ok l q v → r' = .ok (l ++ x) q v
theorem Ext.no {p : Nat} {e : Int} {r' : R α} : Ext x (.no p e) r' := fun _ _ _ h => by cases h
theorem Ext.ok {p q : Nat} {l l' : List UInt8} {v : α} (h : l' = l ++ x) : Ext x (.ok l p v) (.ok l' p v) := fun _ _ _ e => by cases e; rw [h]
theorem Ext.bind {r r' : R α} {g g' : List UInt8 → Nat → α → R β} (h : Ext x r r') (hg : ∀ l q v, r = .ok l q v → Ext x (g l q v) (g' (l ++ x) q v)) : Ext x (r.bind g) (r'.bind g') := by
  cases r with
  | no q e => exact Ext.no
  | ok l q v =>
    rw [h l q v rfl, R.bind_ok, R.bind_ok]
    exact hg l q v rfl
theorem Ext.ite {c : Prop} [Decidable c] {a b a' b' : R α} (hx : c → Ext x a a') (hy : ¬ c → Ext x b b') : Ext x (if c then a else b) (if c then a' else b') := by
  by_cases h : c
  · rw [if_pos h, if_pos h]; exact hx h
  · rw [if_neg h, if_neg h]; exact hy h
theorem Ext.weak {r r' : R α} (h : Ext x r r') : Exl x r r' := fun l q v _ e => h l q v e
theorem Exl.ite {c : Prop} [Decidable c] {a b a' b' : R α} (hx : c → Exl x a a') (hy : ¬ c → Exl x b b') : Exl x (if c then a else b) (if c then a' else b') := by
  by_cases h : c
  · rw [if_pos h, if_pos h]; exact hx h
  · rw [if_neg h, if_neg h]; exact hy h
end
section
variable (x : List UInt8)
theorem drop_app {l : List UInt8} {k : Nat} (h : k ≤ l.length) : (l ++ x).drop k = l.drop k ++ x := List.drop_append_of_le_length h
theorem ext_here (l : List UInt8) (p : Nat) : Ext x (here l p) (here (l ++ x) p) := by
  rcases here_cases l p with ⟨c, r, e, hd, _⟩ | ⟨e, _, _⟩
  · rw [e]
    unfold here
    rw [gap_app l x c r hd, drop_app x (gap_len_le l), hd]
    exact Ext.ok (q := 0) rfl
  · rw [e]; exact Ext.no
theorem ext_word : ∀ (v l : List UInt8) (p : Nat), Ext x (word v l p) (word v (l ++ x) p)
  | [], l, p => Ext.ok (q := 0) rfl
  | c :: v, [], p => Ext.no
  | c :: v, y :: l, p => by
    rw [List.cons_append, word_cons, word_cons]
    exact Ext.ite (fun _ => ext_word v l (p + 1)) (fun _ => Ext.no)
theorem ext_number (l : List UInt8) (p : Nat) : Exl x (number l p) (number (l ++ x) p) := by
  intro l' q v hne h
  unfold number at h ⊢
  split at h
  · rename_i h0
    cases h
    have hlt : numLen l < l.length := by
      rcases Nat.lt_or_ge (numLen l) l.length with h | h
      · exact h
      · exact absurd (List.drop_eq_nil_of_le h) hne
    rw [num_app l x hlt, List.take_append_of_le_length (by omega), if_pos h0, drop_app x (by omega)]
  · cases h
theorem ext_hex : ∀ (k : Nat) (l : List UInt8) (p fr n : Nat), Ext x (hex k l p fr n) (hex k (l ++ x) p fr n)
  | 0, l, p, fr, n => by rw [hex, hex]; exact Ext.ok (q := 0) rfl
  | k + 1, [], p, fr, n => Ext.no
  | k + 1, c :: r, p, fr, n => by
    rw [List.cons_append, hex, hex]
    cases digit c with
    | none => exact Ext.no
    | some d => exact ext_hex k r (p + 1) fr _
theorem ext_half (l : List UInt8) (p fr : Nat) : Ext x (half l p fr) (half (l ++ x) p fr) := by
  match l with
  | [] => exact Ext.no
  | [_] => exact Ext.no
  | a :: c :: r =>
    rw [List.cons_append, List.cons_append]
    unfold half
    dsimp only
    cases mark c with
    | some m => exact Ext.ok (q := 0) rfl
    | none => exact Ext.ite (fun _ => ext_hex x 4 r (p + 2) fr 0) (fun _ => Ext.no)
theorem ext_escape (l : List UInt8) (p : Nat) : Ext x (escape l p) (escape (l ++ x) p) := by
  unfold escape
  refine Ext.bind (ext_half x l p p) fun l1 p1 n _ => Ext.ite (fun _ => Ext.no) fun _ => Ext.ite (fun _ => Ext.ok (q := 0) rfl) fun _ => ?_
  by_cases h : l1.head? = some 92 ∧ l1.tail.head? = some 117
  · have h' : (l1 ++ x).head? = some 92 ∧ (l1 ++ x).tail.head? = some 117 := by
      match l1, h with
      | [], h => cases h.1
      | [_], h => cases h.2
      | a :: b :: r, h => exact h
    rw [if_pos h, if_pos h']
    exact Ext.bind (ext_half x l1 p1 p) fun l2 p2 m _ => Ext.ite (fun _ => Ext.no) (fun _ => Ext.ok (q := 0) rfl)
  · rw [if_neg h]
    exact Ext.no
theorem ext_textGo : ∀ (f g : Nat) (l : List UInt8) (p : Nat) (out : List UInt8), f ≤ g → Ext x (textGo f l p out) (textGo g (l ++ x) p out)
  | 0, g, l, p, out, _ => Ext.no
  | f + 1, g, [], p, out, _ => Ext.no
  | f + 1, g, c :: r, p, out, hg => by
    obtain ⟨g, rfl⟩ : ∃ k, g = k + 1 := ⟨g - 1, by omega⟩
    rw [List.cons_append, textGo_cons, textGo_cons]
    refine Ext.ite (fun _ => Ext.ok (q := 0) rfl) fun _ => Ext.ite (fun _ => Ext.no) fun _ => Ext.ite (fun _ => ?_) fun _ => ?_
    · exact Ext.bind (ext_escape x (c :: r) p) fun l1 p1 n _ => ext_textGo f g l1 p1 _ (by omega)
    · by_cases h : decodeL (c :: r) = (65533, 1)
      · rw [if_pos h]; exact Ext.no
      · have he := decodeL_ext c r x h
        rw [List.cons_append] at he
        have hle := decodeL_le (c :: r) (by simp)
        rw [he, if_neg h, if_neg h, ← List.cons_append, drop_app x hle, List.take_append_of_le_length hle]
        exact ext_textGo f g _ _ _ (by omega)
theorem ext_text (l : List UInt8) (p : Nat) : Ext x (text l p) (text (l ++ x) p) := ext_textGo x _ _ _ _ _ (by rw [List.length_append]; omega)
theorem ext_put (t : List S39) (fr : Nat) (v : S39) (l : List UInt8) (p : Nat) : Ext x (put t fr v l p) (put t fr v (l ++ x) p) := by
  unfold put
  exact Ext.ite (fun _ => Ext.no) (fun _ => Ext.ok (q := 0) rfl)
theorem tail_app {l : List UInt8} (h : l ≠ []) : (l ++ x).tail = l.tail ++ x := by
  cases l with
  | nil => exact absurd rfl h
  | cons c r => rfl
theorem here_ne {l : List UInt8} {p : Nat} {l1 : List UInt8} {q : Nat} {c : UInt8} (h : here l p = .ok l1 q c) : l1 ≠ [] := by
  rcases here_cases l p with ⟨c', r, e, _, _⟩ | ⟨e, _, _⟩
  · rw [e] at h; cases h; simp
  · rw [e] at h; cases h
theorem ext_more (fin : UInt8) (l : List UInt8) (p : Nat) : Ext x (more fin l p) (more fin (l ++ x) p) := by
  unfold more
  exact Ext.bind (ext_here x l p) fun l1 p1 c h => Ext.ite (fun _ => Ext.ok (q := 0) (tail_app x (here_ne h))) (fun _ => Ext.no)
theorem more_ne (fin : UInt8) (p : Nat) (l : List UInt8) {l1 : List UInt8} {q : Nat} {d : Bool} (h : more fin l p = .ok l1 q d) : l ≠ [] := by
  rintro rfl
  cases h
/-- A value by its first byte: what is read of a list or an object. -/
theorem ext_on (f g deep : Nat) (t : List S39) (l : List UInt8) (q : Nat) (c : UInt8) (hl : l ≠ [])
    (hL : ∀ deep fr kids l p t, Ext x (list f deep fr kids l p t) (list g deep fr kids (l ++ x) p t)) (hO : ∀ deep fr names kids l p t, Ext x (object f deep fr names kids l p t) (object g deep fr names kids (l ++ x) p t)) :
    Exl x (valueOn f deep t l q c) (valueOn g deep t (l ++ x) q c) ∧ ((c = 91 ∨ c = 123) → Ext x (valueOn f deep t l q c) (valueOn g deep t (l ++ x) q c)) := by
  have hb : (c = 91 ∨ c = 123) → ¬ 16 ≤ deep → Ext x (if c = 91 then listF f deep q l.tail (q + 1) t else objectF f deep q l.tail (q + 1) t) (if c = 91 then listF g deep q (l ++ x).tail (q + 1) t else objectF g deep q (l ++ x).tail (q + 1) t) := fun _ _ => by
    rw [tail_app x hl]
    refine Ext.ite (fun _ => ?_) fun _ => ?_
    · unfold listF
      exact Ext.bind (ext_here x _ _) fun l1 p1 c1 h => Ext.ite (fun _ => by rw [tail_app x (here_ne h)]; exact ext_put x _ _ _ _ _) fun _ => hL _ _ _ _ _ _
    · unfold objectF
      exact Ext.bind (ext_here x _ _) fun l1 p1 c1 h => Ext.ite (fun _ => by rw [tail_app x (here_ne h)]; exact ext_put x _ _ _ _ _) fun _ => hO _ _ _ _ _ _ _
  constructor
  · unfold valueOn
    refine Exl.ite (fun _ => ?_) fun _ => Exl.ite (fun _ => ?_) fun _ => Exl.ite (fun _ => ?_) fun _ => Exl.ite (fun _ => ?_) fun _ => Exl.ite (fun _ => ?_) fun _ => Exl.ite (fun h => Ext.weak (Ext.ite (fun _ => Ext.no) fun hd => hb h hd)) fun _ => Ext.weak Ext.no
    · exact Ext.weak (Ext.bind (ext_word x _ _ _) fun _ _ _ _ => ext_put x _ _ _ _ _)
    · exact Ext.weak (Ext.bind (ext_word x _ _ _) fun _ _ _ _ => ext_put x _ _ _ _ _)
    · exact Ext.weak (Ext.bind (ext_word x _ _ _) fun _ _ _ _ => ext_put x _ _ _ _ _)
    · rw [tail_app x hl]
      exact Ext.weak (Ext.bind (ext_text x _ _) fun _ _ _ _ => ext_put x _ _ _ _ _)
    · intro l' q' v hne h
      have hn := ext_number x l q
      cases he : number l q with
      | no a b => rw [he] at h; cases h
      | ok l1 p1 n =>
        rw [he, R.bind_ok] at h
        have hl1 : l1 ≠ [] := by
          rintro rfl
          unfold put at h
          split at h
          · cases h
          · cases h; exact hne rfl
        rw [hn l1 p1 n hl1 he, R.bind_ok]
        exact ext_put x _ _ _ _ _ _ _ _ h
  · intro hc
    unfold valueOn
    refine Ext.ite (fun h => absurd h (by rcases hc with rfl | rfl <;> decide)) fun _ => Ext.ite (fun h => absurd h (by rcases hc with rfl | rfl <;> decide)) fun _ => Ext.ite (fun h => absurd h (by rcases hc with rfl | rfl <;> decide)) fun _ => Ext.ite (fun h => absurd h (by rcases hc with rfl | rfl <;> decide)) fun _ => Ext.ite (fun h => absurd h (by rcases hc with rfl | rfl <;> decide)) fun _ => Ext.ite (fun _ => Ext.ite (fun _ => Ext.no) fun hd => hb hc hd) fun _ => Ext.no
theorem ext_all : ∀ f g, f ≤ g → (∀ deep l p t, Exl x (value f deep l p t) (value g deep (l ++ x) p t)) ∧ (∀ deep fr kids l p t, Ext x (list f deep fr kids l p t) (list g deep fr kids (l ++ x) p t)) ∧ (∀ deep fr names kids l p t, Ext x (object f deep fr names kids l p t) (object g deep fr names kids (l ++ x) p t))
  | 0, g, _ => ⟨fun _ _ _ _ => by rw [value]; exact Ext.weak Ext.no, fun _ _ _ _ _ _ => by rw [list]; exact Ext.no, fun _ _ _ _ _ _ _ => by rw [object]; exact Ext.no⟩
  | f + 1, g, h => by
    obtain ⟨g, rfl⟩ : ∃ k, g = k + 1 := ⟨g - 1, by omega⟩
    obtain ⟨hv, hl, ho⟩ := ext_all f g (by omega)
    refine ⟨fun deep l p t => ?_, fun deep fr kids l p t => ?_, fun deep fr names kids l p t => ?_⟩
    · rw [value_succ, value_succ]
      intro l' q' v hne h
      cases he : here l p with
      | no a b => rw [he] at h; cases h
      | ok l1 p1 c =>
        rw [he, R.bind_ok] at h
        rw [ext_here x l p l1 p1 c he, R.bind_ok]
        exact (ext_on x f g deep t l1 p1 c (here_ne he) hl ho).1 l' q' v hne h
    · rw [list_succ, list_succ]
      intro l' q' v' h
      cases he : value f (deep + 1) l p t with
      | no a b => rw [he] at h; cases h
      | ok l1 p1 v =>
        rw [he, R.bind_ok] at h
        cases hm : more 93 l1 p1 with
        | no a b => rw [hm] at h; cases h
        | ok l2 p2 d =>
          rw [hm, R.bind_ok] at h
          rw [hv _ _ _ _ l1 p1 v (more_ne 93 p1 l1 hm) he, R.bind_ok, ext_more x 93 l1 p1 l2 p2 d hm, R.bind_ok]
          exact Ext.ite (fun _ => ext_put x _ _ _ _ _) (fun _ => hl _ _ _ _ _ _) l' q' v' h
    · rw [object_succ, object_succ]
      refine Ext.bind (ext_here x l p) fun l0 p0 c h0 => Ext.ite (fun _ => ?_) (fun _ => Ext.no)
      rw [tail_app x (here_ne h0)]
      refine Ext.bind (ext_text x _ _) fun l1 p1 s _ => Ext.ite (fun _ => Ext.no) fun _ => ?_
      refine Ext.bind (ext_here x l1 p1) fun l2 p2 c2 h2 => Ext.ite (fun _ => ?_) (fun _ => Ext.no)
      rw [tail_app x (here_ne h2)]
      intro l' q' v' h
      cases he : value f (deep + 1) l2.tail (p2 + 1) t with
      | no a b => rw [he] at h; cases h
      | ok l3 p3 v =>
        rw [he, R.bind_ok] at h
        cases hm : more 125 l3 p3 with
        | no a b => rw [hm] at h; cases h
        | ok l4 p4 d =>
          rw [hm, R.bind_ok] at h
          rw [hv _ _ _ _ l3 p3 v (more_ne 125 p3 l3 hm) he, R.bind_ok, ext_more x 125 l3 p3 l4 p4 d hm, R.bind_ok]
          exact Ext.ite (fun _ => ext_put x _ _ _ _ _) (fun _ => ho _ _ _ _ _ _ _) l' q' v' h
end
/-- What is read of a list's or an object's beginning is read of the whole. -/
theorem ext_value (x : List UInt8) (f g : Nat) (h : f ≤ g) (c : UInt8) (r : List UInt8) (hc : c = 91 ∨ c = 123) (deep p : Nat) (t : List S39) : Ext x (value f deep (c :: r) p t) (value g deep (c :: r ++ x) p t) := by
  match f, g, h with
  | 0, g, _ => rw [value]; exact Ext.no
  | f + 1, g + 1, h =>
    obtain ⟨_, hl, ho⟩ := ext_all x f g (by omega)
    rw [value_cons (not_blank hc), List.cons_append, value_cons (not_blank hc), ← List.cons_append]
    exact (ext_on x f g deep t (c :: r) p c (by simp) hl ho).2 hc
/-- A beginning that ends ahead of a closing bracket. -/
theorem parse_cut (c : UInt8) (r : List UInt8) (hc : c = 91 ∨ c = 123) (hb : (c :: r).length ≤ 65536) (t : List S39) (hok : parse (c :: r) = .ok [] 0 t) (n last : Nat) (hn : n ≤ last) (hl : last < (c :: r).length) (hz : blank ((c :: r)[last]) = false) :
    ∃ q e, parse ((c :: r).take n) = .no q e ∧ q ≤ n ∧ e ≠ 0 := by
  have hlen : ((c :: r).take n).length = n := by rw [List.length_take]; omega
  have hgood := (good_all (2 * ((c :: r).take n).length + 2)).1 n 0 ((c :: r).take n) 0 [] (by omega)
  unfold parse
  rw [if_neg (by omega)]
  cases hv : value (2 * ((c :: r).take n).length + 2) 0 ((c :: r).take n) 0 [] with
  | no q e =>
    rw [hv] at hgood
    exact ⟨q, e, rfl, hgood.1, hgood.2⟩
  | ok l q v =>
    rw [hv] at hgood
    have hq : q + l.length = n := hgood
    rw [R.bind_ok]
    by_cases h0 : l.drop (gapLen l) = []
    · exfalso
      cases n with
      | zero =>
        rw [List.take_zero, value_succ, show here [] 0 = R.no 0 21 from rfl, R.bind_no] at hv
        cases hv
      | succ n =>
        rw [List.take_succ_cons] at hv
        have he := ext_value (r.drop n) _ (2 * (c :: r).length + 2) (by rw [List.length_cons, List.length_cons, List.length_take]; omega) c (r.take n) hc 0 0 [] l q v hv
        rw [List.cons_append, List.take_append_drop] at he
        unfold parse at hok
        rw [if_neg (by omega), he, R.bind_ok] at hok
        by_cases h1 : (l ++ r.drop n).drop (gapLen (l ++ r.drop n)) = []
        · have hm : (c :: r)[last] ∈ l ++ r.drop n := by
            refine List.mem_append_right _ ?_
            obtain ⟨k, rfl⟩ : ∃ k, last = k + 1 := ⟨last - 1, by omega⟩
            rw [List.getElem_cons_succ]
            refine List.mem_of_getElem? (i := k - n) ?_
            rw [List.getElem?_drop, show n + (k - n) = k by omega]
            exact List.getElem?_eq_getElem _
          have := gap_blank _ h1 _ hm
          rw [hz] at this
          cases this
        · rw [if_neg h1] at hok
          cases hok
    · rw [if_neg h0]
      have := gap_len_le l
      exact ⟨_, _, rfl, by omega, by decide⟩

end Go.Proofs.YtipbcdjnemdciaaDoor.Js

namespace Go.Proofs.YtipbcdjnemdciaaDoor.Js
open Go.RowKit Go.Lib Go.Proofs.YtipbcdjnemdciaaDoor.PSh Go.Proofs.YtipbcdjnemdciaaDoor.Np

/-- What is left is an end of what was given. -/
def Sfx {α : Type} (l : List UInt8) (r : R α) : Prop := ∀ l' q v, r = .ok l' q v → l' <:+ l
section
variable {α β : Type} {l : List UInt8}
theorem Sfx.no {p : Nat} {e : Int} : Sfx l (.no p e : R α) := fun _ _ _ h => by cases h
theorem Sfx.ok {l1 : List UInt8} {p : Nat} {v : α} (h : l1 <:+ l) : Sfx l (.ok l1 p v : R α) := fun _ _ _ e => by cases e; exact h
theorem Sfx.bind {r : R α} {g : List UInt8 → Nat → α → R β} (h : Sfx l r) (hg : ∀ l1 q v, r = .ok l1 q v → Sfx l1 (g l1 q v)) : Sfx l (r.bind g) := by
  cases r with
  | no q e => exact Sfx.no
  | ok l1 q v => exact fun l' q' v' e => (hg l1 q v rfl l' q' v' e).trans (h l1 q v rfl)
theorem Sfx.ite {c : Prop} [Decidable c] {a b : R α} (ha : Sfx l a) (hb : Sfx l b) : Sfx l (if c then a else b) := by split; exact ha; exact hb
theorem Sfx.of {l1 : List UInt8} {r : R α} (h : Sfx l1 r) (hl : l1 <:+ l) : Sfx l r := fun l' q v e => (h l' q v e).trans hl
end
theorem sfx_here (l : List UInt8) (p : Nat) : Sfx l (here l p) := by
  rcases here_cases l p with ⟨c, r, e, hd, _⟩ | ⟨e, _, _⟩
  · rw [e, ← hd]; exact Sfx.ok (List.drop_suffix _ _)
  · rw [e]; exact Sfx.no
theorem sfx_word : ∀ (v l : List UInt8) (p : Nat), Sfx l (word v l p)
  | [], l, p => Sfx.ok (List.suffix_refl _)
  | c :: v, [], p => Sfx.no
  | c :: v, x :: l, p => by
    rw [word_cons]
    exact Sfx.ite ((sfx_word v l (p + 1)).of (List.suffix_cons _ _)) Sfx.no
theorem sfx_number (l : List UInt8) (p : Nat) : Sfx l (number l p) := by
  unfold number
  exact Sfx.ite (Sfx.ok (List.drop_suffix _ _)) Sfx.no
theorem sfx_hex : ∀ (k : Nat) (l : List UInt8) (p fr n : Nat), Sfx l (hex k l p fr n)
  | 0, l, p, fr, n => by rw [hex]; exact Sfx.ok (List.suffix_refl _)
  | k + 1, [], p, fr, n => Sfx.no
  | k + 1, c :: r, p, fr, n => by
    rw [hex]
    cases digit c with
    | none => exact Sfx.no
    | some d => exact (sfx_hex k r (p + 1) fr _).of (List.suffix_cons _ _)
theorem sfx_half (l : List UInt8) (p fr : Nat) : Sfx l (half l p fr) := by
  match l with
  | [] => exact Sfx.no
  | [_] => exact Sfx.no
  | a :: c :: r =>
    unfold half
    dsimp only
    have hs : r <:+ a :: c :: r := (List.suffix_cons _ _).trans (List.suffix_cons _ _)
    cases mark c with
    | some m => exact Sfx.ok hs
    | none => exact Sfx.ite ((sfx_hex 4 r (p + 2) fr 0).of hs) Sfx.no
theorem sfx_escape (l : List UInt8) (p : Nat) : Sfx l (escape l p) := by
  unfold escape
  refine Sfx.bind (sfx_half l p p) fun l1 p1 n _ => Sfx.ite Sfx.no (Sfx.ite (Sfx.ok (List.suffix_refl _)) (Sfx.ite ?_ Sfx.no))
  exact Sfx.bind (sfx_half l1 p1 p) fun l2 p2 m _ => Sfx.ite Sfx.no (Sfx.ok (List.suffix_refl _))
theorem sfx_textGo : ∀ (f : Nat) (l : List UInt8) (p : Nat) (out : List UInt8), Sfx l (textGo f l p out)
  | 0, l, p, out => Sfx.no
  | f + 1, [], p, out => Sfx.no
  | f + 1, c :: r, p, out => by
    rw [textGo_cons]
    refine Sfx.ite (Sfx.ok (List.suffix_cons _ _)) (Sfx.ite Sfx.no (Sfx.ite ?_ (Sfx.ite Sfx.no ?_)))
    · exact Sfx.bind (sfx_escape _ _) fun l1 p1 n _ => sfx_textGo f l1 p1 _
    · exact (sfx_textGo f _ _ _).of (List.drop_suffix _ _)
theorem sfx_text (l : List UInt8) (p : Nat) : Sfx l (text l p) := sfx_textGo _ _ _ _
theorem sfx_put (t : List S39) (fr : Nat) (v : S39) (l : List UInt8) (p : Nat) : Sfx l (put t fr v l p) := by
  unfold put
  exact Sfx.ite Sfx.no (Sfx.ok (List.suffix_refl _))
theorem sfx_more (fin : UInt8) (l : List UInt8) (p : Nat) : Sfx l (more fin l p) := by
  unfold more
  exact Sfx.bind (sfx_here l p) fun l1 p1 c _ => Sfx.ite (Sfx.ok (List.tail_suffix _)) Sfx.no
theorem sfx_all : ∀ f, (∀ deep l p t, Sfx l (value f deep l p t)) ∧ (∀ deep fr kids l p t, Sfx l (list f deep fr kids l p t)) ∧ (∀ deep fr names kids l p t, Sfx l (object f deep fr names kids l p t))
  | 0 => ⟨fun _ _ _ _ => by rw [value]; exact Sfx.no, fun _ _ _ _ _ _ => by rw [list]; exact Sfx.no, fun _ _ _ _ _ _ _ => by rw [object]; exact Sfx.no⟩
  | f + 1 => by
    obtain ⟨hv, hl, ho⟩ := sfx_all f
    refine ⟨fun deep l p t => ?_, fun deep fr kids l p t => ?_, fun deep fr names kids l p t => ?_⟩
    · rw [value_succ]
      refine Sfx.bind (sfx_here l p) fun l1 q c _ => ?_
      unfold valueOn
      refine Sfx.ite ?_ (Sfx.ite ?_ (Sfx.ite ?_ (Sfx.ite ?_ (Sfx.ite ?_ (Sfx.ite (Sfx.ite Sfx.no (Sfx.ite ?_ ?_)) Sfx.no)))))
      · exact Sfx.bind (sfx_word _ _ _) fun _ _ _ _ => sfx_put _ _ _ _ _
      · exact Sfx.bind (sfx_word _ _ _) fun _ _ _ _ => sfx_put _ _ _ _ _
      · exact Sfx.bind (sfx_word _ _ _) fun _ _ _ _ => sfx_put _ _ _ _ _
      · exact (Sfx.bind (sfx_text _ _) fun _ _ _ _ => sfx_put _ _ _ _ _).of (List.tail_suffix _)
      · exact Sfx.bind (sfx_number _ _) fun _ _ _ _ => sfx_put _ _ _ _ _
      · unfold listF
        exact (Sfx.bind (sfx_here _ _) fun l2 p2 c2 _ => Sfx.ite ((sfx_put _ _ _ _ _).of (List.tail_suffix _)) (hl _ _ _ _ _ _)).of (List.tail_suffix _)
      · unfold objectF
        exact (Sfx.bind (sfx_here _ _) fun l2 p2 c2 _ => Sfx.ite ((sfx_put _ _ _ _ _).of (List.tail_suffix _)) (ho _ _ _ _ _ _ _)).of (List.tail_suffix _)
    · rw [list_succ]
      exact Sfx.bind (hv _ _ _ _) fun l1 p1 v _ => Sfx.bind (sfx_more _ _ _) fun l2 p2 d _ => Sfx.ite (sfx_put _ _ _ _ _) (hl _ _ _ _ _ _)
    · rw [object_succ]
      refine Sfx.bind (sfx_here l p) fun l1 q c _ => Sfx.ite ?_ Sfx.no
      refine (Sfx.bind (sfx_text _ _) fun l2 p2 s _ => Sfx.ite Sfx.no ?_).of (List.tail_suffix _)
      refine Sfx.bind (sfx_here l2 p2) fun l3 p3 c3 _ => Sfx.ite ?_ Sfx.no
      exact (Sfx.bind (hv _ _ _ _) fun l4 p4 v _ => Sfx.bind (sfx_more _ _ _) fun l5 p5 d _ => Sfx.ite (sfx_put _ _ _ _ _) (ho _ _ _ _ _ _ _)).of (List.tail_suffix _)
/-! The bracket behind -/
theorem more_bracket (fin : UInt8) (l : List UInt8) (p : Nat) {l' : List UInt8} {q : Nat} (h : more fin l p = .ok l' q true) : fin :: l' <:+ l := by
  unfold more at h
  rcases here_cases l p with ⟨c, r, e, hd, _⟩ | ⟨e, _, _⟩
  · rw [e, R.bind_ok] at h
    split at h
    · injection h with h1 h2 h3
      have hc : c = fin := by simpa using h3
      rw [← hc, ← h1, List.tail_cons, ← hd]
      exact List.drop_suffix _ _
    · cases h
  · rw [e] at h; cases h
theorem put_rest {t : List S39} {fr : Nat} {v : S39} {l : List UInt8} {p : Nat} {l' : List UInt8} {q : Nat} {x : List S39 × Int} (h : put t fr v l p = .ok l' q x) : l' = l := by
  unfold put at h
  split at h
  · cases h
  · cases h; rfl
/-- Behind a bracket that closes. -/
def Closed {α : Type} (l : List UInt8) (r : R α) : Prop := ∀ l' q v, r = .ok l' q v → ∃ c, (c = 93 ∨ c = 125) ∧ c :: l' <:+ l
theorem Closed.of {α : Type} {l l1 : List UInt8} {r : R α} (h : Closed l1 r) (hl : l1 <:+ l) : Closed l r := fun l' q v e => by
  obtain ⟨c, hc, hs⟩ := h l' q v e
  exact ⟨c, hc, hs.trans hl⟩
theorem list_closed : ∀ f deep fr kids l p t, Closed l (list f deep fr kids l p t)
  | 0, deep, fr, kids, l, p, t => fun _ _ _ h => by rw [list] at h; cases h
  | f + 1, deep, fr, kids, l, p, t => by
    intro l' q x h
    rw [list_succ] at h
    cases he : value f (deep + 1) l p t with
    | no a b => rw [he] at h; cases h
    | ok l1 p1 v =>
      rw [he, R.bind_ok] at h
      have s1 := (sfx_all f).1 _ _ _ _ l1 p1 v he
      cases hm : more 93 l1 p1 with
      | no a b => rw [hm] at h; cases h
      | ok l2 p2 d =>
        rw [hm, R.bind_ok] at h
        cases d with
        | true =>
          rw [if_pos rfl] at h
          rw [put_rest h]
          exact ⟨93, .inl rfl, (more_bracket 93 l1 p1 hm).trans s1⟩
        | false =>
          rw [if_neg (by decide)] at h
          exact ((list_closed f _ _ _ l2 _ _).of ((sfx_more 93 l1 p1 l2 p2 false hm).trans s1)) l' q x h
theorem object_closed : ∀ f deep fr names kids l p t, Closed l (object f deep fr names kids l p t)
  | 0, deep, fr, names, kids, l, p, t => fun _ _ _ h => by rw [object] at h; cases h
  | f + 1, deep, fr, names, kids, l, p, t => by
    intro l' q x h
    rw [object_succ] at h
    cases h0 : here l p with
    | no a b => rw [h0] at h; cases h
    | ok k0 q0 c0 =>
      rw [h0, R.bind_ok] at h
      have t0 := sfx_here l p k0 q0 c0 h0
      split at h
      case isFalse => cases h
      case isTrue =>
        cases h1 : text k0.tail (q0 + 1) with
        | no a b => rw [h1] at h; cases h
        | ok k1 q1 s =>
          rw [h1, R.bind_ok] at h
          have t1 := sfx_text k0.tail (q0 + 1) k1 q1 s h1
          split at h
          case isTrue => cases h
          case isFalse =>
            cases h2 : here k1 q1 with
            | no a b => rw [h2] at h; cases h
            | ok k2 q2 c2 =>
              rw [h2, R.bind_ok] at h
              have t2 := sfx_here k1 q1 k2 q2 c2 h2
              split at h
              case isFalse => cases h
              case isTrue =>
                cases he : value f (deep + 1) k2.tail (q2 + 1) t with
                | no a b => rw [he] at h; cases h
                | ok l1 p1 v =>
                  rw [he, R.bind_ok] at h
                  have s1 := (((sfx_all f).1 _ _ _ _ l1 p1 v he).trans (List.tail_suffix _)).trans (t2.trans (t1.trans ((List.tail_suffix _).trans t0)))
                  cases hm : more 125 l1 p1 with
                  | no a b => rw [hm] at h; cases h
                  | ok l2 p2 d =>
                    rw [hm, R.bind_ok] at h
                    cases d with
                    | true =>
                      rw [if_pos rfl] at h
                      rw [put_rest h]
                      exact ⟨125, .inr rfl, (more_bracket 125 l1 p1 hm).trans s1⟩
                    | false =>
                      rw [if_neg (by decide)] at h
                      exact ((object_closed f _ _ _ _ l2 _ _).of ((sfx_more 125 l1 p1 l2 p2 false hm).trans s1)) l' q x h
theorem value_closed (f deep : Nat) (c : UInt8) (hc : c = 91 ∨ c = 123) (r : List UInt8) (p : Nat) (t : List S39) : Closed r (value f deep (c :: r) p t) := by
  intro l' q x h
  cases f with
  | zero => rw [value] at h; cases h
  | succ f =>
    by_cases hd : 16 ≤ deep
    · rw [value_deep c hc _ _ _ _ _ hd] at h; cases h
    · rcases hc with rfl | rfl
      · rw [value_list _ _ _ _ _ hd] at h
        unfold listF at h
        cases h0 : here r (p + 1) with
        | no a b => rw [h0] at h; cases h
        | ok k0 q0 c0 =>
          rw [h0, R.bind_ok] at h
          have t0 := sfx_here r (p + 1) k0 q0 c0 h0
          split at h
          case isTrue hc0 =>
            rw [put_rest h]
            refine ⟨93, .inl rfl, ?_⟩
            rcases here_cases r (p + 1) with ⟨c', r', e, hdr, _⟩ | ⟨e, _, _⟩
            · rw [e] at h0
              cases h0
              subst hc0
              exact t0
            · rw [e] at h0; cases h0
          case isFalse => exact ((list_closed _ _ _ _ _ _ _).of t0) l' q x h
      · rw [value_object _ _ _ _ _ hd] at h
        unfold objectF at h
        cases h0 : here r (p + 1) with
        | no a b => rw [h0] at h; cases h
        | ok k0 q0 c0 =>
          rw [h0, R.bind_ok] at h
          have t0 := sfx_here r (p + 1) k0 q0 c0 h0
          split at h
          case isTrue hc0 =>
            rw [put_rest h]
            refine ⟨125, .inr rfl, ?_⟩
            rcases here_cases r (p + 1) with ⟨c', r', e, hdr, _⟩ | ⟨e, _, _⟩
            · rw [e] at h0
              cases h0
              subst hc0
              exact t0
            · rw [e] at h0; cases h0
          case isFalse => exact ((object_closed _ _ _ _ _ _ _ _).of t0) l' q x h
/-- A list or an object that is read has a bracket that closes. -/
theorem parse_closed (c : UInt8) (hc : c = 91 ∨ c = 123) (r : List UInt8) {l : List UInt8} {p : Nat} {t : List S39} (h : parse (c :: r) = .ok l p t) : ∃ (i : Nat) (hi : i < (c :: r).length), (c :: r)[i] = 93 ∨ (c :: r)[i] = 125 := by
  unfold parse at h
  split at h
  · cases h
  · cases hv : value (2 * (c :: r).length + 2) 0 (c :: r) 0 [] with
    | no a b => rw [hv] at h; cases h
    | ok l1 q v =>
      obtain ⟨d, hd, hs⟩ := value_closed _ _ c hc r _ _ l1 q v hv
      have hm : d ∈ r := hs.subset (List.mem_cons_self ..)
      obtain ⟨i, hi, he⟩ := List.getElem_of_mem hm
      refine ⟨i + 1, by rw [List.length_cons]; omega, ?_⟩
      rw [List.getElem_cons_succ, he]
      exact hd
/-- What 'parse' answers: nothing is left; or a fault within, with a number. -/
theorem parse_shape (b : List UInt8) : (∃ t, parse b = .ok [] 0 t) ∨ (∃ p e, parse b = .no p e ∧ e ≠ 0 ∧ p ≤ 65536) := by
  unfold parse
  split
  · exact .inr ⟨_, _, rfl, by decide, by decide⟩
  · rename_i hb
    have hg := (good_all (2 * b.length + 2)).1 b.length 0 b 0 [] (by omega)
    cases hv : value (2 * b.length + 2) 0 b 0 [] with
    | no p e =>
      rw [hv] at hg
      exact .inr ⟨p, e, rfl, hg.2, by have := hg.1; omega⟩
    | ok l q v =>
      rw [hv] at hg
      have hq : q + l.length = b.length := hg
      have := gap_len_le l
      rw [R.bind_ok]
      split
      · exact .inl ⟨_, rfl⟩
      · exact .inr ⟨_, _, rfl, by decide, by omega⟩

end Go.Proofs.YtipbcdjnemdciaaDoor.Js
