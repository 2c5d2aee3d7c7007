/- The plain parser: what is left is an end of what was given; a list or an object ends with its bracket. -/
import Derived.Test.YtipbcdjnemdciaaDoorPlX
set_option linter.unusedVariables false
set_option linter.unusedSimpArgs false
namespace Go.Proofs.YtipbcdjnemdciaaDoor.Js
open Go.RowKit Go.Lib Go.Proofs.YtipbcdjnemdciaaDoor.PSh Go.Proofs.YtipbcdjnemdciaaDoor.Np

/-- What is left is an end of what was given. -/
def Sfx {α : Type} (l : List UInt8) (r : R α) : Prop := ∀ l' q v, r = .ok l' q v → l' <:+ l
section
variable {α β : Type} {l : List UInt8}
theorem Sfx.no {p : Nat} {e : Int} : Sfx l (.no p e : R α) := fun _ _ _ h => by cases h
theorem Sfx.ok {l1 : List UInt8} {p : Nat} {v : α} (h : l1 <:+ l) : Sfx l (.ok l1 p v : R α) := fun _ _ _ e => by cases e; exact h
theorem Sfx.bind {r : R α} {g : List UInt8 → Nat → α → R β} (h : Sfx l r) (hg : ∀ l1 q v, r = .ok l1 q v → Sfx l1 (g l1 q v)) : Sfx l (r.bind g) := by
  cases r with
  | no q e => exact Sfx.no
  | ok l1 q v => exact fun l' q' v' e => (hg l1 q v rfl l' q' v' e).trans (h l1 q v rfl)
theorem Sfx.ite {c : Prop} [Decidable c] {a b : R α} (ha : Sfx l a) (hb : Sfx l b) : Sfx l (if c then a else b) := by split; exact ha; exact hb
theorem Sfx.of {l1 : List UInt8} {r : R α} (h : Sfx l1 r) (hl : l1 <:+ l) : Sfx l r := fun l' q v e => (h l' q v e).trans hl
end
theorem sfx_here (l : List UInt8) (p : Nat) : Sfx l (here l p) := by
  rcases here_cases l p with ⟨c, r, e, hd, _⟩ | ⟨e, _, _⟩
  · rw [e, ← hd]; exact Sfx.ok (List.drop_suffix _ _)
  · rw [e]; exact Sfx.no
theorem sfx_word : ∀ (v l : List UInt8) (p : Nat), Sfx l (word v l p)
  | [], l, p => Sfx.ok (List.suffix_refl _)
  | c :: v, [], p => Sfx.no
  | c :: v, x :: l, p => by
    rw [word_cons]
    exact Sfx.ite ((sfx_word v l (p + 1)).of (List.suffix_cons _ _)) Sfx.no
theorem sfx_number (l : List UInt8) (p : Nat) : Sfx l (number l p) := by
  unfold number
  exact Sfx.ite (Sfx.ok (List.drop_suffix _ _)) Sfx.no
theorem sfx_hex : ∀ (k : Nat) (l : List UInt8) (p fr n : Nat), Sfx l (hex k l p fr n)
  | 0, l, p, fr, n => by rw [hex]; exact Sfx.ok (List.suffix_refl _)
  | k + 1, [], p, fr, n => Sfx.no
  | k + 1, c :: r, p, fr, n => by
    rw [hex]
    cases digit c with
    | none => exact Sfx.no
    | some d => exact (sfx_hex k r (p + 1) fr _).of (List.suffix_cons _ _)
theorem sfx_half (l : List UInt8) (p fr : Nat) : Sfx l (half l p fr) := by
  match l with
  | [] => exact Sfx.no
  | [_] => exact Sfx.no
  | a :: c :: r =>
    unfold half
    dsimp only
    have hs : r <:+ a :: c :: r := (List.suffix_cons _ _).trans (List.suffix_cons _ _)
    cases mark c with
    | some m => exact Sfx.ok hs
    | none => exact Sfx.ite ((sfx_hex 4 r (p + 2) fr 0).of hs) Sfx.no
theorem sfx_escape (l : List UInt8) (p : Nat) : Sfx l (escape l p) := by
  unfold escape
  refine Sfx.bind (sfx_half l p p) fun l1 p1 n _ => Sfx.ite Sfx.no (Sfx.ite (Sfx.ok (List.suffix_refl _)) (Sfx.ite ?_ Sfx.no))
  exact Sfx.bind (sfx_half l1 p1 p) fun l2 p2 m _ => Sfx.ite Sfx.no (Sfx.ok (List.suffix_refl _))
theorem sfx_textGo : ∀ (f : Nat) (l : List UInt8) (p : Nat) (out : List UInt8), Sfx l (textGo f l p out)
  | 0, l, p, out => Sfx.no
  | f + 1, [], p, out => Sfx.no
  | f + 1, c :: r, p, out => by
    rw [textGo_cons]
    refine Sfx.ite (Sfx.ok (List.suffix_cons _ _)) (Sfx.ite Sfx.no (Sfx.ite ?_ (Sfx.ite Sfx.no ?_)))
    · exact Sfx.bind (sfx_escape _ _) fun l1 p1 n _ => sfx_textGo f l1 p1 _
    · exact (sfx_textGo f _ _ _).of (List.drop_suffix _ _)
theorem sfx_text (l : List UInt8) (p : Nat) : Sfx l (text l p) := sfx_textGo _ _ _ _
theorem sfx_put (t : List S39) (fr : Nat) (v : S39) (l : List UInt8) (p : Nat) : Sfx l (put t fr v l p) := by
  unfold put
  exact Sfx.ite Sfx.no (Sfx.ok (List.suffix_refl _))
theorem sfx_more (fin : UInt8) (l : List UInt8) (p : Nat) : Sfx l (more fin l p) := by
  unfold more
  exact Sfx.bind (sfx_here l p) fun l1 p1 c _ => Sfx.ite (Sfx.ok (List.tail_suffix _)) Sfx.no
theorem sfx_all : ∀ f, (∀ deep l p t, Sfx l (value f deep l p t)) ∧ (∀ deep fr kids l p t, Sfx l (list f deep fr kids l p t)) ∧ (∀ deep fr names kids l p t, Sfx l (object f deep fr names kids l p t))
  | 0 => ⟨fun _ _ _ _ => by rw [value]; exact Sfx.no, fun _ _ _ _ _ _ => by rw [list]; exact Sfx.no, fun _ _ _ _ _ _ _ => by rw [object]; exact Sfx.no⟩
  | f + 1 => by
    obtain ⟨hv, hl, ho⟩ := sfx_all f
    refine ⟨fun deep l p t => ?_, fun deep fr kids l p t => ?_, fun deep fr names kids l p t => ?_⟩
    · rw [value_succ]
      refine Sfx.bind (sfx_here l p) fun l1 q c _ => ?_
      unfold valueOn
      refine Sfx.ite ?_ (Sfx.ite ?_ (Sfx.ite ?_ (Sfx.ite ?_ (Sfx.ite ?_ (Sfx.ite (Sfx.ite Sfx.no (Sfx.ite ?_ ?_)) Sfx.no)))))
      · exact Sfx.bind (sfx_word _ _ _) fun _ _ _ _ => sfx_put _ _ _ _ _
      · exact Sfx.bind (sfx_word _ _ _) fun _ _ _ _ => sfx_put _ _ _ _ _
      · exact Sfx.bind (sfx_word _ _ _) fun _ _ _ _ => sfx_put _ _ _ _ _
      · exact (Sfx.bind (sfx_text _ _) fun _ _ _ _ => sfx_put _ _ _ _ _).of (List.tail_suffix _)
      · exact Sfx.bind (sfx_number _ _) fun _ _ _ _ => sfx_put _ _ _ _ _
      · unfold listF
        exact (Sfx.bind (sfx_here _ _) fun l2 p2 c2 _ => Sfx.ite ((sfx_put _ _ _ _ _).of (List.tail_suffix _)) (hl _ _ _ _ _ _)).of (List.tail_suffix _)
      · unfold objectF
        exact (Sfx.bind (sfx_here _ _) fun l2 p2 c2 _ => Sfx.ite ((sfx_put _ _ _ _ _).of (List.tail_suffix _)) (ho _ _ _ _ _ _ _)).of (List.tail_suffix _)
    · rw [list_succ]
      exact Sfx.bind (hv _ _ _ _) fun l1 p1 v _ => Sfx.bind (sfx_more _ _ _) fun l2 p2 d _ => Sfx.ite (sfx_put _ _ _ _ _) (hl _ _ _ _ _ _)
    · rw [object_succ]
      refine Sfx.bind (sfx_here l p) fun l1 q c _ => Sfx.ite ?_ Sfx.no
      refine (Sfx.bind (sfx_text _ _) fun l2 p2 s _ => Sfx.ite Sfx.no ?_).of (List.tail_suffix _)
      refine Sfx.bind (sfx_here l2 p2) fun l3 p3 c3 _ => Sfx.ite ?_ Sfx.no
      exact (Sfx.bind (hv _ _ _ _) fun l4 p4 v _ => Sfx.bind (sfx_more _ _ _) fun l5 p5 d _ => Sfx.ite (sfx_put _ _ _ _ _) (ho _ _ _ _ _ _ _)).of (List.tail_suffix _)
/-! The bracket behind -/
theorem more_bracket (fin : UInt8) (l : List UInt8) (p : Nat) {l' : List UInt8} {q : Nat} (h : more fin l p = .ok l' q true) : fin :: l' <:+ l := by
  unfold more at h
  rcases here_cases l p with ⟨c, r, e, hd, _⟩ | ⟨e, _, _⟩
  · rw [e, R.bind_ok] at h
    split at h
    · injection h with h1 h2 h3
      have hc : c = fin := by simpa using h3
      rw [← hc, ← h1, List.tail_cons, ← hd]
      exact List.drop_suffix _ _
    · cases h
  · rw [e] at h; cases h
theorem put_rest {t : List S39} {fr : Nat} {v : S39} {l : List UInt8} {p : Nat} {l' : List UInt8} {q : Nat} {x : List S39 × Int} (h : put t fr v l p = .ok l' q x) : l' = l := by
  unfold put at h
  split at h
  · cases h
  · cases h; rfl
/-- Behind a bracket that closes. -/
def Closed {α : Type} (l : List UInt8) (r : R α) : Prop := ∀ l' q v, r = .ok l' q v → ∃ c, (c = 93 ∨ c = 125) ∧ c :: l' <:+ l
theorem Closed.of {α : Type} {l l1 : List UInt8} {r : R α} (h : Closed l1 r) (hl : l1 <:+ l) : Closed l r := fun l' q v e => by
  obtain ⟨c, hc, hs⟩ := h l' q v e
  exact ⟨c, hc, hs.trans hl⟩
theorem list_closed : ∀ f deep fr kids l p t, Closed l (list f deep fr kids l p t)
  | 0, deep, fr, kids, l, p, t => fun _ _ _ h => by rw [list] at h; cases h
  | f + 1, deep, fr, kids, l, p, t => by
    intro l' q x h
    rw [list_succ] at h
    cases he : value f (deep + 1) l p t with
    | no a b => rw [he] at h; cases h
    | ok l1 p1 v =>
      rw [he, R.bind_ok] at h
      have s1 := (sfx_all f).1 _ _ _ _ l1 p1 v he
      cases hm : more 93 l1 p1 with
      | no a b => rw [hm] at h; cases h
      | ok l2 p2 d =>
        rw [hm, R.bind_ok] at h
        cases d with
        | true =>
          rw [if_pos rfl] at h
          rw [put_rest h]
          exact ⟨93, .inl rfl, (more_bracket 93 l1 p1 hm).trans s1⟩
        | false =>
          rw [if_neg (by decide)] at h
          exact ((list_closed f _ _ _ l2 _ _).of ((sfx_more 93 l1 p1 l2 p2 false hm).trans s1)) l' q x h
theorem object_closed : ∀ f deep fr names kids l p t, Closed l (object f deep fr names kids l p t)
  | 0, deep, fr, names, kids, l, p, t => fun _ _ _ h => by rw [object] at h; cases h
  | f + 1, deep, fr, names, kids, l, p, t => by
    intro l' q x h
    rw [object_succ] at h
    cases h0 : here l p with
    | no a b => rw [h0] at h; cases h
    | ok k0 q0 c0 =>
      rw [h0, R.bind_ok] at h
      have t0 := sfx_here l p k0 q0 c0 h0
      split at h
      case isFalse => cases h
      case isTrue =>
        cases h1 : text k0.tail (q0 + 1) with
        | no a b => rw [h1] at h; cases h
        | ok k1 q1 s =>
          rw [h1, R.bind_ok] at h
          have t1 := sfx_text k0.tail (q0 + 1) k1 q1 s h1
          split at h
          case isTrue => cases h
          case isFalse =>
            cases h2 : here k1 q1 with
            | no a b => rw [h2] at h; cases h
            | ok k2 q2 c2 =>
              rw [h2, R.bind_ok] at h
              have t2 := sfx_here k1 q1 k2 q2 c2 h2
              split at h
              case isFalse => cases h
              case isTrue =>
                cases he : value f (deep + 1) k2.tail (q2 + 1) t with
                | no a b => rw [he] at h; cases h
                | ok l1 p1 v =>
                  rw [he, R.bind_ok] at h
                  have s1 := (((sfx_all f).1 _ _ _ _ l1 p1 v he).trans (List.tail_suffix _)).trans (t2.trans (t1.trans ((List.tail_suffix _).trans t0)))
                  cases hm : more 125 l1 p1 with
                  | no a b => rw [hm] at h; cases h
                  | ok l2 p2 d =>
                    rw [hm, R.bind_ok] at h
                    cases d with
                    | true =>
                      rw [if_pos rfl] at h
                      rw [put_rest h]
                      exact ⟨125, .inr rfl, (more_bracket 125 l1 p1 hm).trans s1⟩
                    | false =>
                      rw [if_neg (by decide)] at h
                      exact ((object_closed f _ _ _ _ l2 _ _).of ((sfx_more 125 l1 p1 l2 p2 false hm).trans s1)) l' q x h
theorem value_closed (f deep : Nat) (c : UInt8) (hc : c = 91 ∨ c = 123) (r : List UInt8) (p : Nat) (t : List S39) : Closed r (value f deep (c :: r) p t) := by
  intro l' q x h
  cases f with
  | zero => rw [value] at h; cases h
  | succ f =>
    by_cases hd : 16 ≤ deep
    · rw [value_deep c hc _ _ _ _ _ hd] at h; cases h
    · rcases hc with rfl | rfl
      · rw [value_list _ _ _ _ _ hd] at h
        unfold listF at h
        cases h0 : here r (p + 1) with
        | no a b => rw [h0] at h; cases h
        | ok k0 q0 c0 =>
          rw [h0, R.bind_ok] at h
          have t0 := sfx_here r (p + 1) k0 q0 c0 h0
          split at h
          case isTrue hc0 =>
            rw [put_rest h]
            refine ⟨93, .inl rfl, ?_⟩
            rcases here_cases r (p + 1) with ⟨c', r', e, hdr, _⟩ | ⟨e, _, _⟩
            · rw [e] at h0
              cases h0
              subst hc0
              exact t0
            · rw [e] at h0; cases h0
          case isFalse => exact ((list_closed _ _ _ _ _ _ _).of t0) l' q x h
      · rw [value_object _ _ _ _ _ hd] at h
        unfold objectF at h
        cases h0 : here r (p + 1) with
        | no a b => rw [h0] at h; cases h
        | ok k0 q0 c0 =>
          rw [h0, R.bind_ok] at h
          have t0 := sfx_here r (p + 1) k0 q0 c0 h0
          split at h
          case isTrue hc0 =>
            rw [put_rest h]
            refine ⟨125, .inr rfl, ?_⟩
            rcases here_cases r (p + 1) with ⟨c', r', e, hdr, _⟩ | ⟨e, _, _⟩
            · rw [e] at h0
              cases h0
              subst hc0
              exact t0
            · rw [e] at h0; cases h0
          case isFalse => exact ((object_closed _ _ _ _ _ _ _ _).of t0) l' q x h
/-- A list or an object that is read has a bracket that closes. -/
theorem parse_closed (c : UInt8) (hc : c = 91 ∨ c = 123) (r : List UInt8) {l : List UInt8} {p : Nat} {t : List S39} (h : parse (c :: r) = .ok l p t) : ∃ (i : Nat) (hi : i < (c :: r).length), (c :: r)[i] = 93 ∨ (c :: r)[i] = 125 := by
  unfold parse at h
  split at h
  · cases h
  · cases hv : value (2 * (c :: r).length + 2) 0 (c :: r) 0 [] with
    | no a b => rw [hv] at h; cases h
    | ok l1 q v =>
      obtain ⟨d, hd, hs⟩ := value_closed _ _ c hc r _ _ l1 q v hv
      have hm : d ∈ r := hs.subset (List.mem_cons_self ..)
      obtain ⟨i, hi, he⟩ := List.getElem_of_mem hm
      refine ⟨i + 1, by rw [List.length_cons]; omega, ?_⟩
      rw [List.getElem_cons_succ, he]
      exact hd
/-- What 'parse' answers: nothing is left; or a fault within, with a number. -/
theorem parse_shape (b : List UInt8) : (∃ t, parse b = .ok [] 0 t) ∨ (∃ p e, parse b = .no p e ∧ e ≠ 0 ∧ p ≤ 65536) := by
  unfold parse
  split
  · exact .inr ⟨_, _, rfl, by decide, by decide⟩
  · rename_i hb
    have hg := (good_all (2 * b.length + 2)).1 b.length 0 b 0 [] (by omega)
    cases hv : value (2 * b.length + 2) 0 b 0 [] with
    | no p e =>
      rw [hv] at hg
      exact .inr ⟨p, e, rfl, hg.2, by have := hg.1; omega⟩
    | ok l q v =>
      rw [hv] at hg
      have hq : q + l.length = b.length := hg
      have := gap_len_le l
      rw [R.bind_ok]
      split
      · exact .inl ⟨_, rfl⟩
      · exact .inr ⟨_, _, rfl, by decide, by omega⟩

end Go.Proofs.YtipbcdjnemdciaaDoor.Js
