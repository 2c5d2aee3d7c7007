/- A look-up in a map of truths that holds what was put under so many names. -/
import Derived.Maps.OwnOps
import Derived.Maps.OwnSet
import Derived.Maps.Views
import Derived.Maps.Keyed
namespace Go.Proofs.YtldlkoncndlbhaaDoor.Mb
open Go Go.Maps

theorem plainElem_bool_inv {H : Type} {P : Program} {e : TypeId} (he : P.underlying e = some .bool) {v : Value} {z : DataW H × List MemPlace} (h : plainElem P e v = some z) : ∃ x, v = .bool x ∧ z = (.lit (.bool x), []) := by
  unfold plainElem at h
  rw [he] at h
  cases v <;> simp at h
  subst h
  exact ⟨_, rfl, rfl⟩

def litS (s : ByteArray) : Lit := .string s.data.toList
theorem litS_key (s : ByteArray) : WideAt.IsKeyLit (litS s) := by unfold litS WideAt.IsKeyLit; trivial
theorem litS_inj {s t : ByteArray} (h : litS s = litS t) : s = t := by
  unfold litS at h
  injection h with h
  exact ByteArray.ext (Array.toList_inj.1 h)
/-- What was put under these names, one by one. -/
def seenSet (l : List ByteArray) : DataW Unit := setOf (.lit (.bool true)) (l.map litS)
theorem seenSet_nil : seenSet [] = .map [] := rfl
theorem seenSet_snoc (l : List ByteArray) (x : ByteArray) : seenSet (l ++ [x]) = (seenSet l).put (litS x) (.lit (.bool true)) := by
  unfold seenSet
  rw [List.map_append]
  exact setOf_snoc _ _ _
theorem isMap_fold (u : DataW Unit) : ∀ (acc : List Lit) (m : DataW Unit), IsMap m → IsMap (acc.foldl (fun m x => m.put x u) m)
  | [], _, h => h
  | x :: acc, _, h => isMap_fold u acc _ (h.put x u)
/-- Is it among these? -/
def hasName (s : ByteArray) (l : List ByteArray) : Bool := l.any fun t => t.data.toList == s.data.toList
theorem hasName_iff (s : ByteArray) (l : List ByteArray) : hasName s l = true ↔ s ∈ l := by
  unfold hasName
  rw [List.any_eq_true]
  constructor
  · rintro ⟨t, h, e⟩
    have := ByteArray.ext (Array.toList_inj.1 (eq_of_beq e))
    exact this ▸ h
  · intro h
    exact ⟨s, h, beq_self_eq_true _⟩
theorem hasName_nil (s : ByteArray) : hasName s [] = false := rfl
theorem hasName_cons (s x : ByteArray) (l : List ByteArray) : hasName s (x :: l) = (x.data.toList == s.data.toList || hasName s l) := rfl
theorem atKey_fold (s : ByteArray) : ∀ (l : List ByteArray) (m : DataW Unit), IsMap m → (l.foldl (fun m x => m.put (litS x) (.lit (.bool true))) m).atKey (litS s) (.lit (.bool false)) = if hasName s l = true then .lit (.bool true) else m.atKey (litS s) (.lit (.bool false))
  | [], _, _ => by simp [hasName_nil]
  | x :: l, m, h => by
    rw [List.foldl_cons, atKey_fold s l _ (h.put _ _)]
    by_cases h1 : hasName s l = true
    · rw [if_pos h1, if_pos (by rw [hasName_cons, h1, Bool.or_true])]
    · rw [if_neg h1]
      by_cases h2 : s = x
      · subst h2
        rw [if_pos (by rw [hasName_cons, beq_self_eq_true, Bool.true_or]), atKey_put_same h (litS_key _)]
      · have h3 : (x.data.toList == s.data.toList) = false := by
          rw [beq_eq_false_iff_ne]
          exact fun e => h2 (ByteArray.ext (Array.toList_inj.1 e)).symm
        rw [if_neg (by rw [hasName_cons, h3, Bool.false_or]; exact h1), atKey_put_other (fun e => h2 (litS_inj e))]
theorem atKey_seen (s : ByteArray) (l : List ByteArray) : (seenSet l).atKey (litS s) (.lit (.bool false)) = .lit (.bool (hasName s l)) := by
  unfold seenSet setOf
  rw [List.foldl_map, atKey_fold s l _ isMap_empty]
  by_cases h : hasName s l = true
  · rw [if_pos h, h]
  · rw [if_neg h, Bool.eq_false_iff.2 h]
    rfl

/-- The look-up, for the walk. -/
theorem wpList_lookup_seen {P : Program} (w : World) {ops : Array Oper} {rest : List Oper} {o : Oper} {a : Act} {Q : Exit → Act → World → Prop}
    (hg : o.guard = none) (m x : Operand) (t : TypeId) (hop : o.op = Op.lookup t m x false)
    (k e : TypeId) (hk : P.underlying k = some .string) (ht : P.underlying t = some (.map k e)) (he : P.underlying e = some .bool) (hz : (zeroValue e).run P w = .ok (.bool false) w) (b n : Nat) (l : List ByteArray)
    (hm : a.eval m = .map (some b)) (hown : w.ownsMap P k (plainElem P e) b n (seenSet l)) (s : ByteArray) (hx : a.eval x = .string s) (hs : s.size ≤ maxLen)
    (hK : wpList P ops Q rest (a.put o.dst (.bool (hasName s l))) w) :
    wpList P ops Q (o :: rest) a w := by
  refine wpList_plain hg fun K' hK' => ?_
  obtain ⟨v, ps, hrun, hv⟩ := hown.lookup (string_keyed hk) ht hz (plainElem_bool he false) (WideMaps.keyOf_string_mk hk hs)
  obtain ⟨c, rfl, hc⟩ := plainElem_bool_inv he hv
  have h1 := congrArg Prod.fst hc
  have h2 : (Lit.string s.data.toList) = litS s := rfl
  rw [h2, atKey_seen] at h1
  injection h1 with h1
  injection h1 with h1
  subst h1
  unfold Oper.wp
  simp [execOp, hop, hm, hx, hrun, Result.andThen]
  exact hK' _ _ hK

end Go.Proofs.YtldlkoncndlbhaaDoor.Mb
