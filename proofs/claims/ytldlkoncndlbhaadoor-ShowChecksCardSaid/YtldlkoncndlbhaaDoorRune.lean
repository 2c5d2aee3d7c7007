/- UTF-8 in plain words: how long the encoding is that a list of bytes begins with; and the printed 'Rune' of the document's answer. -/
import Derived.Test.YtldlkoncndlbhaaDoorPRax1
namespace Go.Proofs.YtldlkoncndlbhaaDoor.Utf
open Go.RowKit Go.Proofs.YtldlkoncndlbhaaDoor.PRa Go.Proofs.YtldlkoncndlbhaaDoorW.PrintWords Go.Proofs.YtldlkoncndlbhaaDoorW.PrintLast Go.Proofs.YtldlkoncndlbhaaDoorW.PrintMore

/-- A byte that goes on. -/
def cont (b : UInt8) : Bool := b.toNat / 64 == 2
def two (a b : UInt8) : Nat := (a.toNat % 32) * 64 + b.toNat % 64
def three (a b c : UInt8) : Nat := (a.toNat % 16) * 4096 + (b.toNat % 64) * 64 + c.toNat % 64
def four (a b c d : UInt8) : Nat := (a.toNat % 8) * 262144 + (b.toNat % 64) * 4096 + (c.toNat % 64) * 64 + d.toNat % 64
def w2 : List UInt8 → Nat
  | b :: _ => if cont b then 2 else 0
  | _ => 0
def w3 (a : UInt8) : List UInt8 → Nat
  | b :: c :: _ => if cont b ∧ cont c ∧ 2048 ≤ three a b c ∧ ¬ (55296 ≤ three a b c ∧ three a b c < 57344) then 3 else 0
  | _ => 0
def w4 (a : UInt8) : List UInt8 → Nat
  | b :: c :: d :: _ => if cont b ∧ cont c ∧ cont d ∧ 65536 ≤ four a b c d ∧ four a b c d ≤ 1114111 then 4 else 0
  | _ => 0
def lead (a : UInt8) (r : List UInt8) : Nat :=
  if a.toNat < 128 then 1
  else if 194 ≤ a.toNat ∧ a.toNat < 224 then w2 r
  else if 224 ≤ a.toNat ∧ a.toNat < 240 then w3 a r
  else if 240 ≤ a.toNat ∧ a.toNat < 245 then w4 a r
  else 0
/-- How many bytes the encoding of a rune has that begins here; 0: none does. -/
def wid : List UInt8 → Nat
  | [] => 0
  | a :: r => lead a r

theorem w2_le (r : List UInt8) : w2 r ≤ r.length + 1 := by
  unfold w2
  split
  · rw [List.length_cons]; split <;> omega
  · omega
theorem w3_le (a : UInt8) (r : List UInt8) : w3 a r ≤ r.length + 1 := by
  unfold w3
  split
  · rw [List.length_cons, List.length_cons]; split <;> omega
  · omega
theorem w4_le (a : UInt8) (r : List UInt8) : w4 a r ≤ r.length + 1 := by
  unfold w4
  split
  · rw [List.length_cons, List.length_cons, List.length_cons]; split <;> omega
  · omega
theorem wid_le (l : List UInt8) : wid l ≤ l.length := by
  cases l with
  | nil => exact Nat.le_refl _
  | cons a r =>
    show lead a r ≤ r.length + 1
    have h2 := w2_le r
    have h3 := w3_le a r
    have h4 := w4_le a r
    unfold lead
    repeat' split
    all_goals omega

/-- Is it UTF-8 to its end? -/
def utf (l : List UInt8) : Bool := if _h : l = [] then true else if _h2 : wid l = 0 then false else utf (l.drop (wid l))
termination_by l.length
decreasing_by
  rw [List.length_drop]
  have : 0 < l.length := List.length_pos_iff.2 _h
  omega

theorem and_low (x : Nat) (n : Nat) (hn : n ≤ 7) (h : x < 256) : Go.bits .and .i64 (x : Int) (2 ^ n - 1) = ((x % 2 ^ n : Nat) : Int) := by
  have hk : ∀ n : Int, 0 ≤ n → n < 2 ^ 63 → IntKind.i64.wrap n = n := fun n h0 h1 => by rw [IntKind.wrap_i64]; omega
  have := bits_mask .i64 63 (by decide) hk n (by omega) (x : Int) (by omega) (by omega)
  rw [this]
  simp
theorem and_u8 (x : Nat) (h : x < 256) : Go.bits .and .u8 (x : Int) 63 = ((x % 64 : Nat) : Int) := by
  rw [u8_and63 _ (by omega) (by omega)]
  omega
theorem or_six (q r : Nat) (hq : q < 4294967296) (hr : r < 64) : Go.bits .or .i64 ((q * 64 : Nat) : Int) (r : Int) = ((q * 64 + r : Nat) : Int) := by
  have hk : ∀ n : Int, 0 ≤ n → n < 2 ^ 63 → IntKind.i64.wrap n = n := fun n h0 h1 => by rw [IntKind.wrap_i64]; omega
  rw [bits_join .i64 63 (by decide) hk 6 _ _ (by omega) (by omega) (by omega) (by omega) (by omega) (by omega)]
  omega

theorem rd_at (l : List UInt8) (i : Nat) (h : i < l.length) : rd (l.map fun b => (b.toNat : Int)) (i : Int) = (l[i].toNat : Int) := by
  simp [rd, List.getElem?_eq_getElem h]

/-- One step of the loop over what goes on. -/
theorem more_step (l : List UInt8) (n least x i : Nat) (hi : i < n) (hl : i < l.length) (hx : x < 4294967296) (hn : n ≤ 4) (k : Nat) :
    haulierref02_Rune.l0 (k + 1) (l.map fun b => (b.toNat : Int)) (n : Int) (least : Int) (x : Int) (i : Int) =
      if cont l[i] then haulierref02_Rune.l0 k (l.map fun b => (b.toNat : Int)) (n : Int) (least : Int) ((x * 64 + l[i].toNat % 64 : Nat) : Int) ((i + 1 : Nat) : Int) else some 0 := by
  have hb := l[i].toNat_lt
  simp only [haulierref02_Rune.l0]
  rw [if_pos (by omega), if_pos (by omega), if_pos (by rw [List.length_map]; omega), rd_at l i hl]
  generalize hc : l[i] = c at *
  unfold cont
  by_cases h2 : c.toNat / 64 = 2
  · rw [if_pos (by omega), if_pos (by rw [h2]; rfl), and_u8 _ (by omega), show wrap64 ((x : Int) * 64) = ((x * 64 : Nat) : Int) from by unfold wrap64; omega, show wrap64 ((c.toNat % 64 : Nat) : Int) = ((c.toNat % 64 : Nat) : Int) from by unfold wrap64; omega, or_six x _ hx (by omega), show wrap64 ((i : Int) + 1) = ((i + 1 : Nat) : Int) from by unfold wrap64; omega]
  · rw [if_neg (by omega), if_neg (by rw [beq_iff_eq]; exact h2)]
theorem more_end (l : List Int) (n least x : Nat) (k : Nat) :
    haulierref02_Rune.l0 (k + 1) l (n : Int) (least : Int) (x : Int) (n : Int) = if x < least ∨ 1114111 < x ∨ (55296 ≤ x ∧ x < 57344) then some 0 else some (n : Int) := by
  simp only [haulierref02_Rune.l0]
  rw [if_neg (by omega)]
  by_cases h1 : x < least
  · rw [if_pos (by omega), if_pos (.inl h1)]
  · by_cases h2 : 1114111 < x
    · rw [if_neg (by omega), if_pos (by omega), if_pos (.inr (.inl h2))]
    · by_cases h3 : 55296 ≤ x
      · by_cases h4 : x < 57344
        · rw [if_neg (by omega), if_neg (by omega), if_pos (by omega), if_pos (by omega), if_pos (.inr (.inr ⟨h3, h4⟩))]
        · rw [if_neg (by omega), if_neg (by omega), if_pos (by omega), if_neg (by omega), if_neg (by omega)]
      · rw [if_neg (by omega), if_neg (by omega), if_neg (by omega), if_neg (by omega)]

theorem begin_ (l : List Int) (n least x : Nat) (hn : 0 < n) (k : Nat) :
    haulierref02_Rune.j2 (k + 2) l (n : Int) (least : Int) (x : Int) = if l.length < n then some 0 else haulierref02_Rune.l0 k l (n : Int) (least : Int) (x : Int) ((1 : Nat) : Int) := by
  simp only [haulierref02_Rune.j2]
  rw [if_neg (by omega)]
  simp only [haulierref02_Rune.j3]
  by_cases h : l.length < n
  · rw [if_pos (by rw [decide_eq_true_iff]; omega), if_pos h]
  · rw [if_neg (by rw [decide_eq_true_iff]; omega), if_neg h]
    rfl
theorem none_ (l : List Int) (least x : Int) (k : Nat) : haulierref02_Rune.j2 (k + 2) l 0 least x = some 0 := by
  simp only [haulierref02_Rune.j2]
  rw [if_pos trivial]
  simp only [haulierref02_Rune.j3]
  rw [if_pos trivial]

theorem j2_two (a : UInt8) (r : List UInt8) (ha : 194 ≤ a.toNat ∧ a.toNat < 224) (k : Nat) :
    haulierref02_Rune.j2 (k + 6) ((a :: r).map fun b => (b.toNat : Int)) 2 128 ((a.toNat % 32 : Nat) : Int) = some ((wid (a :: r) : Nat) : Int) := by
  have h := begin_ ((a :: r).map fun b => (b.toNat : Int)) 2 128 (a.toNat % 32) (by decide) (k + 4)
  have hw : wid (a :: r) = w2 r := by
    show lead a r = _
    unfold lead
    rw [if_neg (by omega), if_pos ha]
  refine h.trans ?_
  rw [hw]
  cases r with
  | nil => rfl
  | cons b q =>
    rw [if_neg (by simp)]
    rw [more_step (a :: b :: q) 2 128 (a.toNat % 32) 1 (by omega) (by simp) (by omega) (by omega)]
    show (if cont b then _ else _) = some ((if cont b then 2 else 0 : Nat) : Int)
    cases hc : cont b with
    | false => rfl
    | true =>
      rw [if_pos rfl, show ((1 + 1 : Nat) : Int) = ((2 : Nat) : Int) from rfl]
      show haulierref02_Rune.l0 (k + 2 + 1) _ ((2 : Nat) : Int) ((128 : Nat) : Int) _ ((2 : Nat) : Int) = _
      rw [more_end, if_neg]
      · rfl
      · show ¬ (a.toNat % 32 * 64 + b.toNat % 64 < 128 ∨ _)
        omega
theorem j2_three (a : UInt8) (r : List UInt8) (ha : 224 ≤ a.toNat ∧ a.toNat < 240) (k : Nat) :
    haulierref02_Rune.j2 (k + 6) ((a :: r).map fun b => (b.toNat : Int)) 3 2048 ((a.toNat % 16 : Nat) : Int) = some ((wid (a :: r) : Nat) : Int) := by
  have h := begin_ ((a :: r).map fun b => (b.toNat : Int)) 3 2048 (a.toNat % 16) (by decide) (k + 4)
  have hw : wid (a :: r) = w3 a r := by
    show lead a r = _
    unfold lead
    rw [if_neg (by omega), if_neg (by omega), if_pos ha]
  refine h.trans ?_
  rw [hw]
  cases r with
  | nil => rfl
  | cons b q =>
    cases q with
    | nil => rfl
    | cons c q =>
      rw [if_neg (by simp)]
      rw [more_step (a :: b :: c :: q) 3 2048 (a.toNat % 16) 1 (by omega) (by simp) (by omega) (by omega)]
      show (if cont b then _ else _) = some ((if cont b ∧ cont c ∧ _ then 3 else 0 : Nat) : Int)
      cases hb : cont b with
      | false => rw [if_neg (by decide), if_neg (fun e => by cases e.1)]; rfl
      | true =>
        rw [if_pos rfl, more_step (a :: b :: c :: q) 3 2048 _ 2 (by omega) (by simp) (by show a.toNat % 16 * 64 + b.toNat % 64 < _; omega) (by omega)]
        show (if cont c then _ else _) = _
        cases hc : cont c with
        | false => rw [if_neg (by decide), if_neg (fun e => by cases e.2.1)]; rfl
        | true =>
          rw [if_pos rfl, show ((2 + 1 : Nat) : Int) = ((3 : Nat) : Int) from rfl]
          show haulierref02_Rune.l0 (k + 1 + 1) _ ((3 : Nat) : Int) ((2048 : Nat) : Int) (((a.toNat % 16 * 64 + b.toNat % 64) * 64 + c.toNat % 64 : Nat) : Int) ((3 : Nat) : Int) = _
          rw [more_end]
          have e : (a.toNat % 16 * 64 + b.toNat % 64) * 64 + c.toNat % 64 = three a b c := by unfold three; omega
          have hlt : three a b c ≤ 1114111 := by unfold three; omega
          rw [e]
          by_cases hg : 2048 ≤ three a b c ∧ ¬ (55296 ≤ three a b c ∧ three a b c < 57344)
          · rw [if_neg (by omega), if_pos ⟨rfl, rfl, hg⟩]; first | done | rfl
          · rw [if_pos (by omega), if_neg (fun e => hg e.2.2)]; first | done | rfl
theorem j2_four (a : UInt8) (r : List UInt8) (ha : 240 ≤ a.toNat ∧ a.toNat < 245) (k : Nat) :
    haulierref02_Rune.j2 (k + 6) ((a :: r).map fun b => (b.toNat : Int)) 4 65536 ((a.toNat % 8 : Nat) : Int) = some ((wid (a :: r) : Nat) : Int) := by
  have h := begin_ ((a :: r).map fun b => (b.toNat : Int)) 4 65536 (a.toNat % 8) (by decide) (k + 4)
  have hw : wid (a :: r) = w4 a r := by
    show lead a r = _
    unfold lead
    rw [if_neg (by omega), if_neg (by omega), if_neg (by omega), if_pos ha]
  refine h.trans ?_
  rw [hw]
  cases r with
  | nil => rfl
  | cons b q =>
    cases q with
    | nil => rfl
    | cons c q =>
      cases q with
      | nil => rfl
      | cons d q =>
        rw [if_neg (by simp)]
        rw [more_step (a :: b :: c :: d :: q) 4 65536 (a.toNat % 8) 1 (by omega) (by simp) (by omega) (by omega)]
        show (if cont b then _ else _) = some ((if cont b ∧ cont c ∧ cont d ∧ _ then 4 else 0 : Nat) : Int)
        cases hb : cont b with
        | false => rw [if_neg (by decide), if_neg (fun e => by cases e.1)]; rfl
        | true =>
          rw [if_pos rfl, more_step (a :: b :: c :: d :: q) 4 65536 _ 2 (by omega) (by simp) (by show a.toNat % 8 * 64 + b.toNat % 64 < _; omega) (by omega)]
          show (if cont c then _ else _) = _
          cases hc : cont c with
          | false => rw [if_neg (by decide), if_neg (fun e => by cases e.2.1)]; rfl
          | true =>
            rw [if_pos rfl, more_step (a :: b :: c :: d :: q) 4 65536 _ 3 (by omega) (by simp) (by show (a.toNat % 8 * 64 + b.toNat % 64) * 64 + c.toNat % 64 < _; omega) (by omega)]
            show (if cont d then _ else _) = _
            cases hd : cont d with
            | false => rw [if_neg (by decide), if_neg (fun e => by cases e.2.2.1)]; rfl
            | true =>
              rw [if_pos rfl, show ((3 + 1 : Nat) : Int) = ((4 : Nat) : Int) from rfl]
              show haulierref02_Rune.l0 (k + 1) _ ((4 : Nat) : Int) ((65536 : Nat) : Int) ((((a.toNat % 8 * 64 + b.toNat % 64) * 64 + c.toNat % 64) * 64 + d.toNat % 64 : Nat) : Int) ((4 : Nat) : Int) = _
              rw [more_end]
              have e : ((a.toNat % 8 * 64 + b.toNat % 64) * 64 + c.toNat % 64) * 64 + d.toNat % 64 = four a b c d := by unfold four; omega
              rw [e]
              by_cases hg : 65536 ≤ four a b c d ∧ four a b c d ≤ 1114111
              · rw [if_neg (by omega), if_pos ⟨rfl, rfl, rfl, hg⟩]; first | done | rfl
              · rw [if_pos (by omega), if_neg (fun e => hg e.2.2.2)]; first | done | rfl

/-- The document's 'Rune' at bytes. -/
theorem rune_tells (l : List UInt8) (hne : l ≠ []) (hl : l.length ≤ 9223372036854775807) : haulierref02_Rune.f 10 (l.map fun b => (b.toNat : Int)) = some ((wid l : Nat) : Int) := by
  cases l with
  | nil => exact absurd rfl hne
  | cons a r =>
    have hb := a.toNat_lt
    have h0 : rd ((a :: r).map fun b => (b.toNat : Int)) 0 = (a.toNat : Int) := rfl
    have hw : wrap64 (a.toNat : Int) = (a.toNat : Int) := by unfold wrap64; omega
    unfold haulierref02_Rune.f
    rw [if_pos (by rw [List.length_map, List.length_cons]; omega), h0, hw]
    have e32 := and_low a.toNat 5 (by decide) (by omega)
    have e16 := and_low a.toNat 4 (by decide) (by omega)
    have e8 := and_low a.toNat 3 (by decide) (by omega)
    rw [show (2 : Int) ^ 5 - 1 = 31 from by decide] at e32
    rw [show (2 : Int) ^ 4 - 1 = 15 from by decide] at e16
    rw [show (2 : Int) ^ 3 - 1 = 7 from by decide] at e8
    have hz : ∀ k, ¬ a.toNat < 128 → ¬ (194 ≤ a.toNat ∧ a.toNat < 224) → ¬ (224 ≤ a.toNat ∧ a.toNat < 240) → ¬ (240 ≤ a.toNat ∧ a.toNat < 245) → haulierref02_Rune.j2 (k + 2) ((a :: r).map fun b => (b.toNat : Int)) 0 0 0 = some ((wid (a :: r) : Nat) : Int) := by
      intro k h1 h2 h3 h4
      rw [none_]
      show _ = some ((lead a r : Nat) : Int)
      unfold lead
      rw [if_neg h1, if_neg h2, if_neg h3, if_neg h4]
      rfl
    by_cases h1 : a.toNat < 128
    · rw [if_pos (by omega)]
      show _ = some ((lead a r : Nat) : Int)
      unfold lead
      rw [if_pos h1]
      rfl
    · rw [if_neg (by omega)]
      by_cases h2 : 194 ≤ a.toNat
      · rw [if_pos (by omega)]
        by_cases h3 : a.toNat < 224
        · rw [decide_eq_true (by omega)]
          simp only [haulierref02_Rune.j0]
          rw [if_pos trivial, e32]
          exact j2_two a r ⟨h2, h3⟩ 3
        · rw [decide_eq_false (by omega)]
          simp only [haulierref02_Rune.j0]
          rw [if_neg (by decide), if_pos (by omega)]
          by_cases h4 : a.toNat < 240
          · rw [decide_eq_true (by omega)]
            simp only [haulierref02_Rune.j1]
            rw [if_pos trivial, e16]
            exact j2_three a r ⟨by omega, h4⟩ 2
          · rw [decide_eq_false (by omega)]
            simp only [haulierref02_Rune.j1]
            rw [if_neg (by decide), if_pos (by omega)]
            by_cases h5 : a.toNat < 245
            · rw [if_pos (by omega), e8]
              exact j2_four a r ⟨by omega, h5⟩ 2
            · rw [if_neg (by omega)]
              exact hz 6 h1 (by omega) (by omega) (by omega)
      · rw [if_neg (by omega)]
        simp only [haulierref02_Rune.j0]
        rw [if_neg (by decide), if_neg (by omega)]
        simp only [haulierref02_Rune.j1]
        rw [if_neg (by decide), if_neg (by omega)]
        exact hz 6 h1 (by omega) (by omega) (by omega)

end Go.Proofs.YtldlkoncndlbhaaDoor.Utf
