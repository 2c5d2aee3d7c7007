/- The plain parser: what is read of a beginning is read of the whole; a list or an object that is cut short is none. -/
import Derived.Test.YtipbcdjnemdciaaDoorPlG
import Derived.Lib.RuneCount
set_option linter.unusedVariables false
set_option linter.unusedSimpArgs false
namespace Go.Proofs.YtipbcdjnemdciaaDoor.Js
open Go.RowKit Go.Lib Go.Proofs.YtipbcdjnemdciaaDoor.PSh Go.Proofs.YtipbcdjnemdciaaDoor.Np

theorem decodeN_ext (n n' b0 b1 b2 b3 c1 c2 c3 : Nat) (hn : n ≤ n') (h1 : 1 < n → c1 = b1) (h2 : 2 < n → c2 = b2) (h3 : 3 < n → c3 = b3) (h : decodeN n b0 b1 b2 b3 ≠ (65533, 1)) : decodeN n' b0 c1 c2 c3 = decodeN n b0 b1 b2 b3 := by
  unfold decodeN at h ⊢
  by_cases k0 : b0 < 128
  · rw [if_pos k0, if_pos k0]
  · rw [if_neg k0] at h ⊢
    rw [if_neg k0]
    by_cases k1 : b0 / 32 = 6 ∧ (1 < n ∧ b1 / 64 = 2)
    · obtain rfl := h1 k1.2.1
      rw [if_pos k1, if_pos ⟨k1.1, by omega, k1.2.2⟩]
    · rw [if_neg k1] at h ⊢
      by_cases k2 : b0 / 16 = 14 ∧ (1 < n ∧ b1 / 64 = 2) ∧ (2 < n ∧ b2 / 64 = 2)
      · obtain rfl := h1 k2.2.1.1
        obtain rfl := h2 k2.2.2.1
        rw [if_pos k2, if_neg (by omega), if_pos ⟨k2.1, ⟨by omega, k2.2.1.2⟩, by omega, k2.2.2.2⟩]
      · rw [if_neg k2] at h ⊢
        by_cases k3 : b0 / 8 = 30 ∧ (1 < n ∧ b1 / 64 = 2) ∧ (2 < n ∧ b2 / 64 = 2) ∧ (3 < n ∧ b3 / 64 = 2)
        · obtain rfl := h1 k3.2.1.1
          obtain rfl := h2 k3.2.2.1.1
          obtain rfl := h3 k3.2.2.2.1
          rw [if_pos k3, if_neg (by omega), if_neg (by omega), if_pos ⟨k3.1, ⟨by omega, k3.2.1.2⟩, ⟨by omega, k3.2.2.1.2⟩, by omega, k3.2.2.2.2⟩]
        · rw [if_neg k3] at h
          exact absurd rfl h
theorem getD_app (l x : List UInt8) (i : Nat) (h : i < l.length) : (l ++ x).getD i 0 = l.getD i 0 := by
  rw [List.getD_eq_getElem?_getD, List.getD_eq_getElem?_getD, List.getElem?_append_left h]
theorem decodeL_ext (c : UInt8) (r x : List UInt8) (h : decodeL (c :: r) ≠ (65533, 1)) : decodeL ((c :: r) ++ x) = decodeL (c :: r) := by
  rw [decodeL_N] at h ⊢
  rw [decodeL_N]
  rw [getD_app (c :: r) x 0 (by simp)]
  refine decodeN_ext _ _ _ _ _ _ _ _ _ (by simp) (fun h1 => ?_) (fun h1 => ?_) (fun h1 => ?_) h
  · rw [getD_app _ _ _ h1]
  · rw [getD_app _ _ _ h1]
  · rw [getD_app _ _ _ h1]

section
variable {α β : Type} {x : List UInt8}
/-- What is read is read with more bytes behind too. -/
def Ext (x : List UInt8) (r r' : R α) : Prop := ∀ l q v, r = .ok l q v → r' = .ok (l ++ x) q v
/-- The same, where something is left. -/
def Exl (x : List UInt8) (r r' : R α) : Prop := ∀ l q v, l ≠ [] → r = .ok l q v → r' = .ok (l ++ x) q v
theorem Ext.no {p : Nat} {e : Int} {r' : R α} : Ext x (.no p e) r' := fun _ _ _ h => by cases h
theorem Ext.ok {p q : Nat} {l l' : List UInt8} {v : α} (h : l' = l ++ x) : Ext x (.ok l p v) (.ok l' p v) := fun _ _ _ e => by cases e; rw [h]
theorem Ext.bind {r r' : R α} {g g' : List UInt8 → Nat → α → R β} (h : Ext x r r') (hg : ∀ l q v, r = .ok l q v → Ext x (g l q v) (g' (l ++ x) q v)) : Ext x (r.bind g) (r'.bind g') := by
  cases r with
  | no q e => exact Ext.no
  | ok l q v =>
    rw [h l q v rfl, R.bind_ok, R.bind_ok]
    exact hg l q v rfl
theorem Ext.ite {c : Prop} [Decidable c] {a b a' b' : R α} (hx : c → Ext x a a') (hy : ¬ c → Ext x b b') : Ext x (if c then a else b) (if c then a' else b') := by
  by_cases h : c
  · rw [if_pos h, if_pos h]; exact hx h
  · rw [if_neg h, if_neg h]; exact hy h
theorem Ext.weak {r r' : R α} (h : Ext x r r') : Exl x r r' := fun l q v _ e => h l q v e
theorem Exl.ite {c : Prop} [Decidable c] {a b a' b' : R α} (hx : c → Exl x a a') (hy : ¬ c → Exl x b b') : Exl x (if c then a else b) (if c then a' else b') := by
  by_cases h : c
  · rw [if_pos h, if_pos h]; exact hx h
  · rw [if_neg h, if_neg h]; exact hy h
end
section
variable (x : List UInt8)
theorem drop_app {l : List UInt8} {k : Nat} (h : k ≤ l.length) : (l ++ x).drop k = l.drop k ++ x := List.drop_append_of_le_length h
theorem ext_here (l : List UInt8) (p : Nat) : Ext x (here l p) (here (l ++ x) p) := by
  rcases here_cases l p with ⟨c, r, e, hd, _⟩ | ⟨e, _, _⟩
  · rw [e]
    unfold here
    rw [gap_app l x c r hd, drop_app x (gap_len_le l), hd]
    exact Ext.ok (q := 0) rfl
  · rw [e]; exact Ext.no
theorem ext_word : ∀ (v l : List UInt8) (p : Nat), Ext x (word v l p) (word v (l ++ x) p)
  | [], l, p => Ext.ok (q := 0) rfl
  | c :: v, [], p => Ext.no
  | c :: v, y :: l, p => by
    rw [List.cons_append, word_cons, word_cons]
    exact Ext.ite (fun _ => ext_word v l (p + 1)) (fun _ => Ext.no)
theorem ext_number (l : List UInt8) (p : Nat) : Exl x (number l p) (number (l ++ x) p) := by
  intro l' q v hne h
  unfold number at h ⊢
  split at h
  · rename_i h0
    cases h
    have hlt : numLen l < l.length := by
      rcases Nat.lt_or_ge (numLen l) l.length with h | h
      · exact h
      · exact absurd (List.drop_eq_nil_of_le h) hne
    rw [num_app l x hlt, List.take_append_of_le_length (by omega), if_pos h0, drop_app x (by omega)]
  · cases h
theorem ext_hex : ∀ (k : Nat) (l : List UInt8) (p fr n : Nat), Ext x (hex k l p fr n) (hex k (l ++ x) p fr n)
  | 0, l, p, fr, n => by rw [hex, hex]; exact Ext.ok (q := 0) rfl
  | k + 1, [], p, fr, n => Ext.no
  | k + 1, c :: r, p, fr, n => by
    rw [List.cons_append, hex, hex]
    cases digit c with
    | none => exact Ext.no
    | some d => exact ext_hex k r (p + 1) fr _
theorem ext_half (l : List UInt8) (p fr : Nat) : Ext x (half l p fr) (half (l ++ x) p fr) := by
  match l with
  | [] => exact Ext.no
  | [_] => exact Ext.no
  | a :: c :: r =>
    rw [List.cons_append, List.cons_append]
    unfold half
    dsimp only
    cases mark c with
    | some m => exact Ext.ok (q := 0) rfl
    | none => exact Ext.ite (fun _ => ext_hex x 4 r (p + 2) fr 0) (fun _ => Ext.no)
theorem ext_escape (l : List UInt8) (p : Nat) : Ext x (escape l p) (escape (l ++ x) p) := by
  unfold escape
  refine Ext.bind (ext_half x l p p) fun l1 p1 n _ => Ext.ite (fun _ => Ext.no) fun _ => Ext.ite (fun _ => Ext.ok (q := 0) rfl) fun _ => ?_
  by_cases h : l1.head? = some 92 ∧ l1.tail.head? = some 117
  · have h' : (l1 ++ x).head? = some 92 ∧ (l1 ++ x).tail.head? = some 117 := by
      match l1, h with
      | [], h => cases h.1
      | [_], h => cases h.2
      | a :: b :: r, h => exact h
    rw [if_pos h, if_pos h']
    exact Ext.bind (ext_half x l1 p1 p) fun l2 p2 m _ => Ext.ite (fun _ => Ext.no) (fun _ => Ext.ok (q := 0) rfl)
  · rw [if_neg h]
    exact Ext.no
theorem ext_textGo : ∀ (f g : Nat) (l : List UInt8) (p : Nat) (out : List UInt8), f ≤ g → Ext x (textGo f l p out) (textGo g (l ++ x) p out)
  | 0, g, l, p, out, _ => Ext.no
  | f + 1, g, [], p, out, _ => Ext.no
  | f + 1, g, c :: r, p, out, hg => by
    obtain ⟨g, rfl⟩ : ∃ k, g = k + 1 := ⟨g - 1, by omega⟩
    rw [List.cons_append, textGo_cons, textGo_cons]
    refine Ext.ite (fun _ => Ext.ok (q := 0) rfl) fun _ => Ext.ite (fun _ => Ext.no) fun _ => Ext.ite (fun _ => ?_) fun _ => ?_
    · exact Ext.bind (ext_escape x (c :: r) p) fun l1 p1 n _ => ext_textGo f g l1 p1 _ (by omega)
    · by_cases h : decodeL (c :: r) = (65533, 1)
      · rw [if_pos h]; exact Ext.no
      · have he := decodeL_ext c r x h
        rw [List.cons_append] at he
        have hle := decodeL_le (c :: r) (by simp)
        rw [he, if_neg h, if_neg h, ← List.cons_append, drop_app x hle, List.take_append_of_le_length hle]
        exact ext_textGo f g _ _ _ (by omega)
theorem ext_text (l : List UInt8) (p : Nat) : Ext x (text l p) (text (l ++ x) p) := ext_textGo x _ _ _ _ _ (by rw [List.length_append]; omega)
theorem ext_put (t : List S39) (fr : Nat) (v : S39) (l : List UInt8) (p : Nat) : Ext x (put t fr v l p) (put t fr v (l ++ x) p) := by
  unfold put
  exact Ext.ite (fun _ => Ext.no) (fun _ => Ext.ok (q := 0) rfl)
theorem tail_app {l : List UInt8} (h : l ≠ []) : (l ++ x).tail = l.tail ++ x := by
  cases l with
  | nil => exact absurd rfl h
  | cons c r => rfl
theorem here_ne {l : List UInt8} {p : Nat} {l1 : List UInt8} {q : Nat} {c : UInt8} (h : here l p = .ok l1 q c) : l1 ≠ [] := by
  rcases here_cases l p with ⟨c', r, e, _, _⟩ | ⟨e, _, _⟩
  · rw [e] at h; cases h; simp
  · rw [e] at h; cases h
theorem ext_more (fin : UInt8) (l : List UInt8) (p : Nat) : Ext x (more fin l p) (more fin (l ++ x) p) := by
  unfold more
  exact Ext.bind (ext_here x l p) fun l1 p1 c h => Ext.ite (fun _ => Ext.ok (q := 0) (tail_app x (here_ne h))) (fun _ => Ext.no)
theorem more_ne (fin : UInt8) (p : Nat) (l : List UInt8) {l1 : List UInt8} {q : Nat} {d : Bool} (h : more fin l p = .ok l1 q d) : l ≠ [] := by
  rintro rfl
  cases h
/-- A value by its first byte: what is read of a list or an object. -/
theorem ext_on (f g deep : Nat) (t : List S39) (l : List UInt8) (q : Nat) (c : UInt8) (hl : l ≠ [])
    (hL : ∀ deep fr kids l p t, Ext x (list f deep fr kids l p t) (list g deep fr kids (l ++ x) p t)) (hO : ∀ deep fr names kids l p t, Ext x (object f deep fr names kids l p t) (object g deep fr names kids (l ++ x) p t)) :
    Exl x (valueOn f deep t l q c) (valueOn g deep t (l ++ x) q c) ∧ ((c = 91 ∨ c = 123) → Ext x (valueOn f deep t l q c) (valueOn g deep t (l ++ x) q c)) := by
  have hb : (c = 91 ∨ c = 123) → ¬ 16 ≤ deep → Ext x (if c = 91 then listF f deep q l.tail (q + 1) t else objectF f deep q l.tail (q + 1) t) (if c = 91 then listF g deep q (l ++ x).tail (q + 1) t else objectF g deep q (l ++ x).tail (q + 1) t) := fun _ _ => by
    rw [tail_app x hl]
    refine Ext.ite (fun _ => ?_) fun _ => ?_
    · unfold listF
      exact Ext.bind (ext_here x _ _) fun l1 p1 c1 h => Ext.ite (fun _ => by rw [tail_app x (here_ne h)]; exact ext_put x _ _ _ _ _) fun _ => hL _ _ _ _ _ _
    · unfold objectF
      exact Ext.bind (ext_here x _ _) fun l1 p1 c1 h => Ext.ite (fun _ => by rw [tail_app x (here_ne h)]; exact ext_put x _ _ _ _ _) fun _ => hO _ _ _ _ _ _ _
  constructor
  · unfold valueOn
    refine Exl.ite (fun _ => ?_) fun _ => Exl.ite (fun _ => ?_) fun _ => Exl.ite (fun _ => ?_) fun _ => Exl.ite (fun _ => ?_) fun _ => Exl.ite (fun _ => ?_) fun _ => Exl.ite (fun h => Ext.weak (Ext.ite (fun _ => Ext.no) fun hd => hb h hd)) fun _ => Ext.weak Ext.no
    · exact Ext.weak (Ext.bind (ext_word x _ _ _) fun _ _ _ _ => ext_put x _ _ _ _ _)
    · exact Ext.weak (Ext.bind (ext_word x _ _ _) fun _ _ _ _ => ext_put x _ _ _ _ _)
    · exact Ext.weak (Ext.bind (ext_word x _ _ _) fun _ _ _ _ => ext_put x _ _ _ _ _)
    · rw [tail_app x hl]
      exact Ext.weak (Ext.bind (ext_text x _ _) fun _ _ _ _ => ext_put x _ _ _ _ _)
    · intro l' q' v hne h
      have hn := ext_number x l q
      cases he : number l q with
      | no a b => rw [he] at h; cases h
      | ok l1 p1 n =>
        rw [he, R.bind_ok] at h
        have hl1 : l1 ≠ [] := by
          rintro rfl
          unfold put at h
          split at h
          · cases h
          · cases h; exact hne rfl
        rw [hn l1 p1 n hl1 he, R.bind_ok]
        exact ext_put x _ _ _ _ _ _ _ _ h
  · intro hc
    unfold valueOn
    refine Ext.ite (fun h => absurd h (by rcases hc with rfl | rfl <;> decide)) fun _ => Ext.ite (fun h => absurd h (by rcases hc with rfl | rfl <;> decide)) fun _ => Ext.ite (fun h => absurd h (by rcases hc with rfl | rfl <;> decide)) fun _ => Ext.ite (fun h => absurd h (by rcases hc with rfl | rfl <;> decide)) fun _ => Ext.ite (fun h => absurd h (by rcases hc with rfl | rfl <;> decide)) fun _ => Ext.ite (fun _ => Ext.ite (fun _ => Ext.no) fun hd => hb hc hd) fun _ => Ext.no
theorem ext_all : ∀ f g, f ≤ g → (∀ deep l p t, Exl x (value f deep l p t) (value g deep (l ++ x) p t)) ∧ (∀ deep fr kids l p t, Ext x (list f deep fr kids l p t) (list g deep fr kids (l ++ x) p t)) ∧ (∀ deep fr names kids l p t, Ext x (object f deep fr names kids l p t) (object g deep fr names kids (l ++ x) p t))
  | 0, g, _ => ⟨fun _ _ _ _ => by rw [value]; exact Ext.weak Ext.no, fun _ _ _ _ _ _ => by rw [list]; exact Ext.no, fun _ _ _ _ _ _ _ => by rw [object]; exact Ext.no⟩
  | f + 1, g, h => by
    obtain ⟨g, rfl⟩ : ∃ k, g = k + 1 := ⟨g - 1, by omega⟩
    obtain ⟨hv, hl, ho⟩ := ext_all f g (by omega)
    refine ⟨fun deep l p t => ?_, fun deep fr kids l p t => ?_, fun deep fr names kids l p t => ?_⟩
    · rw [value_succ, value_succ]
      intro l' q' v hne h
      cases he : here l p with
      | no a b => rw [he] at h; cases h
      | ok l1 p1 c =>
        rw [he, R.bind_ok] at h
        rw [ext_here x l p l1 p1 c he, R.bind_ok]
        exact (ext_on x f g deep t l1 p1 c (here_ne he) hl ho).1 l' q' v hne h
    · rw [list_succ, list_succ]
      intro l' q' v' h
      cases he : value f (deep + 1) l p t with
      | no a b => rw [he] at h; cases h
      | ok l1 p1 v =>
        rw [he, R.bind_ok] at h
        cases hm : more 93 l1 p1 with
        | no a b => rw [hm] at h; cases h
        | ok l2 p2 d =>
          rw [hm, R.bind_ok] at h
          rw [hv _ _ _ _ l1 p1 v (more_ne 93 p1 l1 hm) he, R.bind_ok, ext_more x 93 l1 p1 l2 p2 d hm, R.bind_ok]
          exact Ext.ite (fun _ => ext_put x _ _ _ _ _) (fun _ => hl _ _ _ _ _ _) l' q' v' h
    · rw [object_succ, object_succ]
      refine Ext.bind (ext_here x l p) fun l0 p0 c h0 => Ext.ite (fun _ => ?_) (fun _ => Ext.no)
      rw [tail_app x (here_ne h0)]
      refine Ext.bind (ext_text x _ _) fun l1 p1 s _ => Ext.ite (fun _ => Ext.no) fun _ => ?_
      refine Ext.bind (ext_here x l1 p1) fun l2 p2 c2 h2 => Ext.ite (fun _ => ?_) (fun _ => Ext.no)
      rw [tail_app x (here_ne h2)]
      intro l' q' v' h
      cases he : value f (deep + 1) l2.tail (p2 + 1) t with
      | no a b => rw [he] at h; cases h
      | ok l3 p3 v =>
        rw [he, R.bind_ok] at h
        cases hm : more 125 l3 p3 with
        | no a b => rw [hm] at h; cases h
        | ok l4 p4 d =>
          rw [hm, R.bind_ok] at h
          rw [hv _ _ _ _ l3 p3 v (more_ne 125 p3 l3 hm) he, R.bind_ok, ext_more x 125 l3 p3 l4 p4 d hm, R.bind_ok]
          exact Ext.ite (fun _ => ext_put x _ _ _ _ _) (fun _ => ho _ _ _ _ _ _ _) l' q' v' h
end
/-- What is read of a list's or an object's beginning is read of the whole. -/
theorem ext_value (x : List UInt8) (f g : Nat) (h : f ≤ g) (c : UInt8) (r : List UInt8) (hc : c = 91 ∨ c = 123) (deep p : Nat) (t : List S39) : Ext x (value f deep (c :: r) p t) (value g deep (c :: r ++ x) p t) := by
  match f, g, h with
  | 0, g, _ => rw [value]; exact Ext.no
  | f + 1, g + 1, h =>
    obtain ⟨_, hl, ho⟩ := ext_all x f g (by omega)
    rw [value_cons (not_blank hc), List.cons_append, value_cons (not_blank hc), ← List.cons_append]
    exact (ext_on x f g deep t (c :: r) p c (by simp) hl ho).2 hc
/-- A beginning that ends ahead of a closing bracket. -/
theorem parse_cut (c : UInt8) (r : List UInt8) (hc : c = 91 ∨ c = 123) (hb : (c :: r).length ≤ 65536) (t : List S39) (hok : parse (c :: r) = .ok [] 0 t) (n last : Nat) (hn : n ≤ last) (hl : last < (c :: r).length) (hz : blank ((c :: r)[last]) = false) :
    ∃ q e, parse ((c :: r).take n) = .no q e ∧ q ≤ n ∧ e ≠ 0 := by
  have hlen : ((c :: r).take n).length = n := by rw [List.length_take]; omega
  have hgood := (good_all (2 * ((c :: r).take n).length + 2)).1 n 0 ((c :: r).take n) 0 [] (by omega)
  unfold parse
  rw [if_neg (by omega)]
  cases hv : value (2 * ((c :: r).take n).length + 2) 0 ((c :: r).take n) 0 [] with
  | no q e =>
    rw [hv] at hgood
    exact ⟨q, e, rfl, hgood.1, hgood.2⟩
  | ok l q v =>
    rw [hv] at hgood
    have hq : q + l.length = n := hgood
    rw [R.bind_ok]
    by_cases h0 : l.drop (gapLen l) = []
    · exfalso
      cases n with
      | zero =>
        rw [List.take_zero, value_succ, show here [] 0 = R.no 0 21 from rfl, R.bind_no] at hv
        cases hv
      | succ n =>
        rw [List.take_succ_cons] at hv
        have he := ext_value (r.drop n) _ (2 * (c :: r).length + 2) (by rw [List.length_cons, List.length_cons, List.length_take]; omega) c (r.take n) hc 0 0 [] l q v hv
        rw [List.cons_append, List.take_append_drop] at he
        unfold parse at hok
        rw [if_neg (by omega), he, R.bind_ok] at hok
        by_cases h1 : (l ++ r.drop n).drop (gapLen (l ++ r.drop n)) = []
        · have hm : (c :: r)[last] ∈ l ++ r.drop n := by
            refine List.mem_append_right _ ?_
            obtain ⟨k, rfl⟩ : ∃ k, last = k + 1 := ⟨last - 1, by omega⟩
            rw [List.getElem_cons_succ]
            refine List.mem_of_getElem? (i := k - n) ?_
            rw [List.getElem?_drop, show n + (k - n) = k by omega]
            exact List.getElem?_eq_getElem _
          have := gap_blank _ h1 _ hm
          rw [hz] at this
          cases this
        · rw [if_neg h1] at hok
          cases hok
    · rw [if_neg h0]
      have := gap_len_le l
      exact ⟨_, _, rfl, by omega, by decide⟩

end Go.Proofs.YtipbcdjnemdciaaDoor.Js
