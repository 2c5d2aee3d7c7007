/- The plain parser goes on: no place comes before the one where it began. -/
import Derived.Test.YtipbcdjnemdciaaDoorReader9
set_option linter.unusedVariables false
set_option linter.unusedSimpArgs false
namespace Go.Proofs.YtipbcdjnemdciaaDoor.Js
open Go.RowKit Go.Lib Go.Proofs.YtipbcdjnemdciaaDoor.PSh

/-- What is read ends no earlier than it began. -/
def Adv {α : Type} (p : Nat) (r : R α) : Prop := ∀ l' p' v, r = .ok l' p' v → p ≤ p'
theorem Adv.no {α : Type} (p q : Nat) (e : Int) : Adv p (.no q e : R α) := fun _ _ _ h => by cases h
theorem Adv.ok {α : Type} {p q : Nat} (l : List UInt8) (v : α) (h : p ≤ q) : Adv p (.ok l q v) := fun _ _ _ e => by cases e; exact h
theorem Adv.bind {α β : Type} {p : Nat} {r : R α} {g : List UInt8 → Nat → α → R β} (h : Adv p r) (hg : ∀ l q v, r = .ok l q v → p ≤ q → Adv p (g l q v)) : Adv p (r.bind g) := by
  cases r with
  | no q e => exact Adv.no _ _ _
  | ok l q v => exact hg l q v rfl (h l q v rfl)
theorem Adv.weaken {α : Type} {p q : Nat} {r : R α} (h : Adv q r) (hp : p ≤ q) : Adv p r := fun l' p' v e => Nat.le_trans hp (h l' p' v e)
theorem Adv.ite {α : Type} {p : Nat} {c : Prop} [Decidable c] {x y : R α} (hx : Adv p x) (hy : Adv p y) : Adv p (if c then x else y) := by split; exact hx; exact hy
theorem adv_here (l : List UInt8) (p : Nat) : Adv p (here l p) := fun l' q c h => here_adv l p l' q c h
theorem adv_word : ∀ (v l : List UInt8) (p : Nat), Adv p (word v l p)
  | [], l, p => Adv.ok _ _ (Nat.le_refl _)
  | c :: v, [], p => Adv.no _ _ _
  | c :: v, x :: l, p => by
    rw [word_cons]
    exact Adv.ite ((adv_word v l (p + 1)).weaken (Nat.le_succ _)) (Adv.no _ _ _)
theorem adv_number (l : List UInt8) (p : Nat) : Adv p (number l p) := by
  unfold number
  exact Adv.ite (Adv.ok _ _ (Nat.le_add_right _ _)) (Adv.no _ _ _)
theorem adv_textGo : ∀ (f : Nat) (l : List UInt8) (p : Nat) (out : List UInt8), Adv p (textGo f l p out)
  | 0, l, p, out => Adv.no _ _ _
  | f + 1, [], p, out => Adv.no _ _ _
  | f + 1, c :: r, p, out => by
    rw [textGo_cons]
    refine Adv.ite (Adv.ok _ _ (Nat.le_succ _)) (Adv.ite (Adv.no _ _ _) (Adv.ite ?_ (Adv.ite (Adv.no _ _ _) ?_)))
    · exact Adv.bind (fun l' p' m h => by have := escape_adv _ _ _ _ _ h; omega) fun l q v h hq => (adv_textGo f l q _).weaken hq
    · exact (adv_textGo f _ _ _).weaken (Nat.le_add_right _ _)
theorem adv_text (l : List UInt8) (p : Nat) : Adv p (text l p) := adv_textGo _ _ _ _
theorem adv_put (t : List S39) (fr : Nat) (v : S39) (l : List UInt8) (p : Nat) : Adv p (put t fr v l p) := by
  unfold put
  exact Adv.ite (Adv.no _ _ _) (Adv.ok _ _ (Nat.le_refl _))
theorem adv_more (fin : UInt8) (l : List UInt8) (p : Nat) : Adv (p + 1) (more fin l p) := by
  unfold more
  intro l' p' v h
  have h1 := adv_here l p
  generalize here l p = r at *
  cases r with
  | no q e => cases h
  | ok l1 q c =>
    have := h1 l1 q c rfl
    rw [R.bind_ok] at h
    split at h
    · cases h; omega
    · cases h
theorem list_succ (f deep fr : Nat) (kids : List Int) (l : List UInt8) (p : Nat) (t : List S39) : list (f + 1) deep fr kids l p t = (value f (deep + 1) l p t).bind fun l1 p1 v => (more 93 l1 p1).bind fun l2 p2 done =>
    if done = true then put v.1 fr ⟨5, false, 0, ⟨#[]⟩, [], kids ++ [v.2]⟩ l2 p2 else list f deep fr (kids ++ [v.2]) l2 p2 v.1 := by rw [list]
theorem object_succ (f deep fr : Nat) (names : List ByteArray) (kids : List Int) (l0 : List UInt8) (p0 : Nat) (t : List S39) : object (f + 1) deep fr names kids l0 p0 t = (here l0 p0).bind fun l p c =>
    if c = 34 then (text l.tail (p + 1)).bind fun l1 p1 s =>
      if containsS names (str s) = true then .no p 28
      else (here l1 p1).bind fun l2 p2 c2 =>
        if c2 = 58 then (value f (deep + 1) l2.tail (p2 + 1) t).bind fun l3 p3 v => (more 125 l3 p3).bind fun l4 p4 done =>
          if done = true then put v.1 fr ⟨6, false, 0, ⟨#[]⟩, names ++ [str s], kids ++ [v.2]⟩ l4 p4 else object f deep fr (names ++ [str s]) (kids ++ [v.2]) l4 p4 v.1
        else .no p2 22
    else .no p 22 := by rw [object]
theorem adv_all : ∀ f, (∀ deep l p t, Adv p (value f deep l p t)) ∧ (∀ deep fr kids l p t, Adv p (list f deep fr kids l p t)) ∧ (∀ deep fr names kids l p t, Adv p (object f deep fr names kids l p t))
  | 0 => ⟨fun _ _ _ _ => by rw [value]; exact Adv.no _ _ _, fun _ _ _ _ _ _ => by rw [list]; exact Adv.no _ _ _, fun _ _ _ _ _ _ _ => by rw [object]; exact Adv.no _ _ _⟩
  | f + 1 => by
    obtain ⟨hv, hl, ho⟩ := adv_all f
    refine ⟨fun deep l p t => ?_, fun deep fr kids l p t => ?_, fun deep fr names kids l p t => ?_⟩
    · rw [value_succ]
      refine Adv.bind (adv_here l p) fun l1 q c _ hq => ?_
      unfold valueOn
      refine Adv.ite ?_ (Adv.ite ?_ (Adv.ite ?_ (Adv.ite ?_ (Adv.ite ?_ (Adv.ite (Adv.ite (Adv.no _ _ _) (Adv.ite ?_ ?_)) (Adv.no _ _ _))))))
      · exact Adv.bind ((adv_word _ _ _).weaken hq) fun _ _ _ _ h => (adv_put _ _ _ _ _).weaken h
      · exact Adv.bind ((adv_word _ _ _).weaken hq) fun _ _ _ _ h => (adv_put _ _ _ _ _).weaken h
      · exact Adv.bind ((adv_word _ _ _).weaken hq) fun _ _ _ _ h => (adv_put _ _ _ _ _).weaken h
      · exact Adv.bind ((adv_text _ _).weaken (by omega)) fun _ _ _ _ h => (adv_put _ _ _ _ _).weaken h
      · exact Adv.bind ((adv_number _ _).weaken hq) fun _ _ _ _ h => (adv_put _ _ _ _ _).weaken h
      · unfold listF
        exact Adv.bind ((adv_here _ _).weaken (by omega)) fun _ _ _ _ h => Adv.ite ((adv_put _ _ _ _ _).weaken (by omega)) ((hl _ _ _ _ _ _).weaken h)
      · unfold objectF
        exact Adv.bind ((adv_here _ _).weaken (by omega)) fun _ _ _ _ h => Adv.ite ((adv_put _ _ _ _ _).weaken (by omega)) ((ho _ _ _ _ _ _ _).weaken h)
    · rw [list_succ]
      refine Adv.bind (hv _ _ _ _) fun _ _ _ _ h => Adv.bind ((adv_more _ _ _).weaken (by omega)) fun _ _ _ _ h2 => Adv.ite ((adv_put _ _ _ _ _).weaken h2) ((hl _ _ _ _ _ _).weaken h2)
    · rw [object_succ]
      refine Adv.bind (adv_here _ _) fun _ _ _ _ h => Adv.ite (Adv.bind ((adv_text _ _).weaken (by omega)) fun _ _ _ _ h2 => Adv.ite (Adv.no _ _ _) (Adv.bind ((adv_here _ _).weaken h2) fun _ _ _ _ h3 => Adv.ite (Adv.bind ((hv _ _ _ _).weaken (by omega)) fun _ _ _ _ h4 => Adv.bind ((adv_more _ _ _).weaken (by omega)) fun _ _ _ _ h5 => Adv.ite ((adv_put _ _ _ _ _).weaken h5) ((ho _ _ _ _ _ _ _).weaken h5)) (Adv.no _ _ _))) (Adv.no _ _ _)

end Go.Proofs.YtipbcdjnemdciaaDoor.Js
