/- YtldlkoncndlbhaaDoorZSr12: texts of the seat (JayS, JayD, JayK, JayB, PlC, PlX, PlS), one behind the other, without what this claim's theorem does not rest on. -/
import Derived.Test.YtldlkoncndlbhaaDoorZSr11
import Derived.Lib.RuneCount

set_option linter.unusedVariables false
set_option linter.unusedSimpArgs false
namespace Go.Proofs.YtldlkoncndlbhaaDoor.Js
open Go.RowKit Go.Lib Go.Proofs.YtldlkoncndlbhaaDoor.PSh Go.Proofs.YtldlkoncndlbhaaDoor.Utf Go.Proofs.YtldlkoncndlbhaaDoor.Pl Go.Proofs.YtldlkoncndlbhaaDoor.Np
/-! UTF-8, put together -/
theorem wid_one (a : UInt8) (r : List UInt8) (h : a.toNat < 128) : wid (a :: r) = 1 := (dec_head a r h).2
theorem wid_two (a b : UInt8) (r : List UInt8) (h0 : 194 ≤ a.toNat) (h1 : a.toNat < 224) (hb : b.toNat / 64 = 2) : wid (a :: b :: r) = 2 := by
  show lead a (b :: r) = 2
  unfold lead
  rw [if_neg (by omega), if_pos ⟨h0, h1⟩, w2, if_pos ((cont_iff b).2 hb)]
theorem wid_three (a b c : UInt8) (r : List UInt8) (h0 : 224 ≤ a.toNat) (h1 : a.toNat < 240) (hb : b.toNat / 64 = 2) (hc : c.toNat / 64 = 2) (h2 : 2048 ≤ three a b c) (h3 : ¬ (55296 ≤ three a b c ∧ three a b c < 57344)) : wid (a :: b :: c :: r) = 3 := by
  show lead a (b :: c :: r) = 3
  unfold lead
  rw [if_neg (by omega), if_neg (by omega), if_pos ⟨h0, h1⟩, w3, if_pos ⟨(cont_iff b).2 hb, (cont_iff c).2 hc, h2, h3⟩]
theorem wid_four (a b c d : UInt8) (r : List UInt8) (h0 : 240 ≤ a.toNat) (h1 : a.toNat < 245) (hb : b.toNat / 64 = 2) (hc : c.toNat / 64 = 2) (hd : d.toNat / 64 = 2) (h2 : 65536 ≤ four a b c d) (h3 : four a b c d ≤ 1114111) : wid (a :: b :: c :: d :: r) = 4 := by
  show lead a (b :: c :: d :: r) = 4
  unfold lead
  rw [if_neg (by omega), if_neg (by omega), if_neg (by omega), if_pos ⟨h0, h1⟩, w4, if_pos ⟨(cont_iff b).2 hb, (cont_iff c).2 hc, (cont_iff d).2 hd, h2, h3⟩]
/-- What begins with a rune begins with it whatever follows; and it is UTF-8 by itself. -/
theorem wid_app (l x : List UInt8) (h : wid l ≠ 0) : wid (l ++ x) = wid l ∧ wid (l.take (wid l)) = wid l := by
  rcases wid_shape l h with ⟨a, r, rfl, h1, hw⟩ | ⟨a, b, r, rfl, h0, h1, hb, hw⟩ | ⟨a, b, c, r, rfl, h0, h1, hb, hc, h2, h3, hw⟩ | ⟨a, b, c, d, r, rfl, h0, h1, hb, hc, hd, h2, h3, hw⟩
  · rw [hw]; exact ⟨wid_one a _ h1, wid_one a [] h1⟩
  · rw [hw]; exact ⟨wid_two a b _ h0 h1 hb, wid_two a b [] h0 h1 hb⟩
  · rw [hw]; exact ⟨wid_three a b c _ h0 h1 hb hc h2 h3, wid_three a b c [] h0 h1 hb hc h2 h3⟩
  · rw [hw]; exact ⟨wid_four a b c d _ h0 h1 hb hc hd h2 h3, wid_four a b c d [] h0 h1 hb hc hd h2 h3⟩
theorem utf_empty : utf [] = true := by unfold utf; rw [dif_pos rfl]
theorem utf_alone (l : List UInt8) (h : wid l = l.length) (hne : l ≠ []) : utf l = true := by
  have h0 : wid l ≠ 0 := by
    have := List.length_pos_iff.2 hne
    omega
  rw [utf, dif_neg hne, dif_neg h0, List.drop_eq_nil_of_le (by omega)]
  exact utf_empty
theorem utf_append : ∀ (n : Nat) (a b : List UInt8), a.length ≤ n → utf a = true → utf b = true → utf (a ++ b) = true
  | n, [], b, _, _, hb => hb
  | 0, c :: a, b, hn, _, _ => by rw [List.length_cons] at hn; omega
  | n + 1, c :: a, b, hn, ha, hb => by
    have hne : c :: a ≠ [] := by simp
    rw [utf, dif_neg hne] at ha
    by_cases hw : wid (c :: a) = 0
    · rw [dif_pos hw] at ha; cases ha
    · rw [dif_neg hw] at ha
      have hl := wid_le (c :: a)
      rw [utf, dif_neg (by simp), (wid_app (c :: a) b hw).1, dif_neg hw, List.drop_append_of_le_length hl]
      exact utf_append n _ b (by rw [List.length_drop]; omega) ha hb
theorem utf_take (l : List UInt8) (h : wid l ≠ 0) : utf (l.take (wid l)) = true := by
  have hl := wid_le l
  refine utf_alone _ ?_ ?_
  · rw [(wid_app l [] h).2, List.length_take]; omega
  · intro e
    have := congrArg List.length e
    rw [List.length_take, List.length_nil] at this
    omega
theorem byte_of (k : Nat) (h : k < 256) : ((k : Int).toNat.toUInt8).toNat = k := by
  rw [Int.toNat_natCast, Nat.toUInt8, UInt8.toNat_ofNat']
  omega
/-- A rune's encoding is UTF-8. -/
theorem utf_enc (n : Nat) (h : n < 55296 ∨ (57343 < n ∧ n ≤ 1114111)) : utf (encodeRune (n : Int)) = true := by
  unfold encodeRune
  by_cases h1 : n < 128
  · rw [encodeRuneZ_one (by omega) (by omega)]
    exact utf_alone _ (wid_one _ [] (by rw [byte_of n (by omega)]; omega)) (by simp)
  · by_cases h2 : n < 2048
    · rw [encodeRuneZ_two (by omega) (by omega)]
      have ea : (192 + (n : Int) / 64) = ((192 + n / 64 : Nat) : Int) := by omega
      have eb : (128 + (n : Int) % 64) = ((128 + n % 64 : Nat) : Int) := by omega
      rw [ea, eb]
      refine utf_alone _ (wid_two _ _ [] ?_ ?_ ?_) (by simp)
      · rw [byte_of _ (by omega)]; omega
      · rw [byte_of _ (by omega)]; omega
      · rw [byte_of _ (by omega)]; omega
    · by_cases h3 : n < 65536
      · rw [encodeRuneZ_three (by omega)]
        have ea : (224 + (n : Int) / 4096) = ((224 + n / 4096 : Nat) : Int) := by omega
        have eb : (128 + (n : Int) / 64 % 64) = ((128 + n / 64 % 64 : Nat) : Int) := by omega
        have ec : (128 + (n : Int) % 64) = ((128 + n % 64 : Nat) : Int) := by omega
        rw [ea, eb, ec]
        have et : three (((224 + n / 4096 : Nat) : Int).toNat.toUInt8) (((128 + n / 64 % 64 : Nat) : Int).toNat.toUInt8) (((128 + n % 64 : Nat) : Int).toNat.toUInt8) = n := by
          unfold three
          rw [byte_of _ (by omega), byte_of _ (by omega), byte_of _ (by omega)]
          omega
        refine utf_alone _ (wid_three _ _ _ [] ?_ ?_ ?_ ?_ ?_ ?_) (by simp)
        · rw [byte_of _ (by omega)]; omega
        · rw [byte_of _ (by omega)]; omega
        · rw [byte_of _ (by omega)]; omega
        · rw [byte_of _ (by omega)]; omega
        · rw [et]; omega
        · rw [et]; omega
      · rw [encodeRuneZ_four (by omega) (by omega)]
        have ea : (240 + (n : Int) / 262144) = ((240 + n / 262144 : Nat) : Int) := by omega
        have eb : (128 + (n : Int) / 4096 % 64) = ((128 + n / 4096 % 64 : Nat) : Int) := by omega
        have ec : (128 + (n : Int) / 64 % 64) = ((128 + n / 64 % 64 : Nat) : Int) := by omega
        have ed : (128 + (n : Int) % 64) = ((128 + n % 64 : Nat) : Int) := by omega
        rw [ea, eb, ec, ed]
        have et : four (((240 + n / 262144 : Nat) : Int).toNat.toUInt8) (((128 + n / 4096 % 64 : Nat) : Int).toNat.toUInt8) (((128 + n / 64 % 64 : Nat) : Int).toNat.toUInt8) (((128 + n % 64 : Nat) : Int).toNat.toUInt8) = n := by
          unfold four
          rw [byte_of _ (by omega), byte_of _ (by omega), byte_of _ (by omega), byte_of _ (by omega)]
          omega
        refine utf_alone _ (wid_four _ _ _ _ [] ?_ ?_ ?_ ?_ ?_ ?_ ?_) (by simp)
        · rw [byte_of _ (by omega)]; omega
        · rw [byte_of _ (by omega)]; omega
        · rw [byte_of _ (by omega)]; omega
        · rw [byte_of _ (by omega)]; omega
        · rw [byte_of _ (by omega)]; omega
        · rw [et]; omega
        · rw [et]; omega
/-- What an escape stands for is a rune. -/
theorem escape_rune (l : List UInt8) (p : Nat) {l' : List UInt8} {q n : Nat} (h : escape l p = .ok l' q n) : n < 55296 ∨ (57343 < n ∧ n ≤ 1114111) := by
  have hle := escape_lt l p l' q n h
  unfold escape at h
  cases hh : half l p p with
  | no a b => rw [hh] at h; cases h
  | ok l1 p1 x =>
    rw [hh, R.bind_ok] at h
    split at h
    · cases h
    · split at h
      · cases h; omega
      · split at h
        · cases hh2 : half l1 p1 p with
          | no a b => rw [hh2] at h; cases h
          | ok l2 p2 y =>
            rw [hh2, R.bind_ok] at h
            split at h
            · cases h
            · cases h; omega
        · cases h
theorem textGo_utf : ∀ (f : Nat) (l : List UInt8) (p : Nat) (out : List UInt8) {l' : List UInt8} {q : Nat} {s : List UInt8}, utf out = true → textGo f l p out = .ok l' q s → utf s = true
  | 0, l, p, out, _, _, _, _, h => by cases h
  | f + 1, [], p, out, _, _, _, _, h => by cases h
  | f + 1, c :: r, p, out, l', q, s, hu, h => by
    rw [textGo_cons] at h
    split at h
    · cases h; exact hu
    · split at h
      · cases h
      · split at h
        · cases he : escape (c :: r) p with
          | no a b => rw [he] at h; cases h
          | ok l1 p1 n =>
            rw [he, R.bind_ok] at h
            exact textGo_utf f l1 p1 _ (utf_append _ _ _ (Nat.le_refl _) hu (utf_enc n (escape_rune _ _ he))) h
        · split at h
          · cases h
          · rename_i hd
            have hw : wid (c :: r) ≠ 0 := fun e => hd (dec_bad (c :: r) (by simp) e)
            rw [(dec_good (c :: r) hw).1] at h
            exact textGo_utf f _ _ _ (utf_append _ _ _ (Nat.le_refl _) hu (utf_take _ hw)) h
theorem text_utf (l : List UInt8) (p : Nat) {l' : List UInt8} {q : Nat} {s : List UInt8} (h : text l p = .ok l' q s) : utf s = true := textGo_utf _ l p [] utf_empty h
theorem told_fit (e : NumEnd Int) (h : (told e).2 = 0) : fit (told e).1 := by
  unfold told at h ⊢
  split at h
  · rename_i v
    split at h
    · rename_i hv
      rw [if_pos hv]
      exact hv
    · cases h
  · cases h
theorem parseG_fit (l : List UInt8) (h : (parseG l).2 = 0) : fit (parseG l).1 := by
  unfold parseG at h ⊢
  split at h
  · cases h
  · rename_i h1
    split at h
    · cases h
    · rename_i h2
      split at h
      · rename_i h3
        rw [if_neg h1, if_neg h2, if_pos h3]
        exact told_fit _ h
      · cases h
theorem number_fit (l : List UInt8) (p : Nat) {l' : List UInt8} {q : Nat} {n : Int} (h : number l p = .ok l' q n) : fit n := by
  unfold number at h
  split at h
  · rename_i h0
    cases h
    exact parseG_fit _ h0
  · cases h
theorem namesGo_snoc : ∀ (ns done : List ByteArray) (s : ByteArray), namesGo done ns = true → s ∉ done ++ ns → utf s.data.toList = true → namesGo done (ns ++ [s]) = true
  | [], done, s, _, hs, hu => by
    rw [List.nil_append, namesGo, if_neg (fun e => hs (by rw [List.append_nil]; exact (Mb.hasName_iff s done).1 e)), if_pos hu]
    rfl
  | n :: ns, done, s, h, hs, hu => by
    rw [List.cons_append]
    rw [namesGo] at h ⊢
    split at h
    · cases h
    · rename_i h1
      split at h
      · rename_i h2
        rw [if_neg h1, if_pos h2]
        exact namesGo_snoc ns (done ++ [n]) s h (by rw [List.append_assoc]; exact hs) hu
      · cases h
theorem put_ok' {t : List S39} {fr : Nat} {v : S39} {l : List UInt8} {p : Nat} {l' : List UInt8} {q : Nat} {x : List S39 × Int} (h : put t fr v l p = .ok l' q x) : x = (t ++ [v], (t.length : Int)) ∧ t.length + 1 ≤ 8192 := by
  unfold put at h
  split at h
  · cases h
  · rename_i hl
    cases h
    exact ⟨rfl, by omega⟩
/-- What is read as a value, a list's rest, an object's rest. -/
def SV (f : Nat) : Prop := ∀ deep l p t l' q x, deep ≤ 16 → value f deep l p t = .ok l' q x → ∃ j : J, j.ok ∧ deep + j.depth ≤ 16 ∧ t.length + j.size ≤ 8192 ∧ x = (t ++ j.enc t.length, ((t.length + j.size - 1 : Nat) : Int))
def SL (f : Nat) : Prop := ∀ deep fr kids l p t l' q x, deep + 1 ≤ 16 → list f deep fr kids l p t = .ok l' q x → ∃ js : JL, js.ok ∧ deep + 1 + js.depth ≤ 16 ∧ t.length + js.size + 1 ≤ 8192 ∧ x = (t ++ js.enc t.length ++ [⟨5, false, 0, ⟨#[]⟩, [], kids ++ js.idx t.length⟩], ((t.length + js.size : Nat) : Int))
def SO (f : Nat) : Prop := ∀ deep fr names kids l p t l' q x, deep + 1 ≤ 16 → namesGo [] names = true → object f deep fr names kids l p t = .ok l' q x → ∃ ms : JO, ms.ok ∧ deep + 1 + ms.depth ≤ 16 ∧ t.length + ms.size + 1 ≤ 8192 ∧ namesGo [] (names ++ ms.names) = true ∧ x = (t ++ ms.enc t.length ++ [⟨6, false, 0, ⟨#[]⟩, names ++ ms.names, kids ++ ms.idx t.length⟩], ((t.length + ms.size : Nat) : Int))
theorem sound_list (f : Nat) (hv : SV f) (hl : SL f) : SL (f + 1) := by
  intro deep fr kids l p t l' q x hd h
  rw [list_succ] at h
  cases he : value f (deep + 1) l p t with
  | no a b => rw [he] at h; cases h
  | ok l1 p1 v =>
    rw [he, R.bind_ok] at h
    obtain ⟨j, hj, hjd, hjs, rfl⟩ := hv _ _ _ _ _ _ _ hd he
    have hlen : (t ++ j.enc t.length).length = t.length + j.size := by rw [List.length_append, j.enc_len]
    cases hm : more 93 l1 p1 with
    | no a b => rw [hm] at h; cases h
    | ok l2 p2 d =>
      rw [hm, R.bind_ok] at h
      dsimp only at h
      cases d with
      | true =>
        rw [if_pos rfl] at h
        obtain ⟨rfl, h8⟩ := put_ok' h
        refine ⟨.cons j .nil, ⟨hj, trivial⟩, ?_, ?_, ?_⟩
        · rw [JL.depth, JL.depth]; omega
        · rw [JL.size, JL.size]; omega
        · rw [JL.enc, JL.enc, JL.idx, JL.idx, JL.size, JL.size, List.append_nil, hlen]; rfl
      | false =>
        rw [if_neg (by decide)] at h
        obtain ⟨js, hjs1, hjd1, hjs2, rfl⟩ := hl _ _ _ _ _ _ _ _ _ hd h
        rw [hlen] at hjs2
        refine ⟨.cons j js, ⟨hj, hjs1⟩, ?_, ?_, ?_⟩
        · rw [JL.depth]; omega
        · rw [JL.size]; omega
        · rw [JL.enc, JL.idx, JL.size, hlen]
          simp [List.append_assoc, Nat.add_assoc]
theorem sound_object (f : Nat) (hv : SV f) (ho : SO f) : SO (f + 1) := by
  intro deep fr names kids l p t l' q x hd hn h
  rw [object_succ] at h
  cases h0 : here l p with
  | no a b => rw [h0] at h; cases h
  | ok k0 q0 c0 =>
    rw [h0, R.bind_ok] at h
    split at h
    case isFalse => cases h
    case isTrue =>
      cases h1 : text k0.tail (q0 + 1) with
      | no a b => rw [h1] at h; cases h
      | ok k1 q1 s =>
        rw [h1, R.bind_ok] at h
        have hu := text_utf _ _ h1
        split at h
        case isTrue => cases h
        case isFalse hc =>
          have hns : namesGo [] (names ++ [str s]) = true := namesGo_snoc names [] (str s) hn (fun hm => hc ((containsS_iff names (str s)).2 hm)) hu
          cases h2 : here k1 q1 with
          | no a b => rw [h2] at h; cases h
          | ok k2 q2 c2 =>
            rw [h2, R.bind_ok] at h
            split at h
            case isFalse => cases h
            case isTrue =>
              cases he : value f (deep + 1) k2.tail (q2 + 1) t with
              | no a b => rw [he] at h; cases h
              | ok l1 p1 v =>
                rw [he, R.bind_ok] at h
                obtain ⟨j, hj, hjd, hjs, rfl⟩ := hv _ _ _ _ _ _ _ hd he
                have hlen : (t ++ j.enc t.length).length = t.length + j.size := by rw [List.length_append, j.enc_len]
                cases hm : more 125 l1 p1 with
                | no a b => rw [hm] at h; cases h
                | ok l2 p2 d =>
                  rw [hm, R.bind_ok] at h
                  dsimp only at h
                  cases d with
                  | true =>
                    rw [if_pos rfl] at h
                    obtain ⟨rfl, h8⟩ := put_ok' h
                    refine ⟨.cons (str s) j .nil, ⟨hj, trivial⟩, ?_, ?_, ?_, ?_⟩
                    · rw [JO.depth, JO.depth]; omega
                    · rw [JO.size, JO.size]; omega
                    · exact hns
                    · rw [JO.enc, JO.enc, JO.idx, JO.idx, JO.names, JO.names, JO.size, JO.size, List.append_nil, hlen]; rfl
                  | false =>
                    rw [if_neg (by decide)] at h
                    obtain ⟨ms, hm1, hmd, hm2, hm3, rfl⟩ := ho _ _ _ _ _ _ _ _ _ _ hd hns h
                    rw [hlen] at hm2
                    refine ⟨.cons (str s) j ms, ⟨hj, hm1⟩, ?_, ?_, ?_, ?_⟩
                    · rw [JO.depth]; omega
                    · rw [JO.size]; omega
                    · rw [JO.names]; rw [List.append_assoc] at hm3; exact hm3
                    · rw [JO.enc, JO.idx, JO.names, JO.size, hlen]
                      simp [List.append_assoc, Nat.add_assoc]
theorem sound_value (f : Nat) (hl : SL f) (ho : SO f) : SV (f + 1) := by
  intro deep l0 p0 t l' q x hd h
  rw [value_succ] at h
  cases h0 : here l0 p0 with
  | no a b => rw [h0] at h; cases h
  | ok l p c =>
    rw [h0, R.bind_ok] at h
    clear h0
    unfold valueOn at h
    split at h
    · cases hw : word [110, 117, 108, 108] l p with
      | no a b => rw [hw] at h; cases h
      | ok l1 p1 u =>
        rw [hw, R.bind_ok] at h
        obtain ⟨rfl, h8⟩ := put_ok' h
        exact ⟨.null, trivial, by rw [J.depth]; omega, by rw [J.size]; omega, by rw [J.enc, J.size]; rfl⟩
    split at h
    · cases hw : word [116, 114, 117, 101] l p with
      | no a b => rw [hw] at h; cases h
      | ok l1 p1 u =>
        rw [hw, R.bind_ok] at h
        obtain ⟨rfl, h8⟩ := put_ok' h
        exact ⟨.bool true, trivial, by rw [J.depth]; omega, by rw [J.size]; omega, by rw [J.enc, J.size]; rfl⟩
    split at h
    · cases hw : word [102, 97, 108, 115, 101] l p with
      | no a b => rw [hw] at h; cases h
      | ok l1 p1 u =>
        rw [hw, R.bind_ok] at h
        obtain ⟨rfl, h8⟩ := put_ok' h
        exact ⟨.bool false, trivial, by rw [J.depth]; omega, by rw [J.size]; omega, by rw [J.enc, J.size]; rfl⟩
    split at h
    · cases hw : text l.tail (p + 1) with
      | no a b => rw [hw] at h; cases h
      | ok l1 p1 s =>
        rw [hw, R.bind_ok] at h
        have hu := text_utf _ _ hw
        obtain ⟨rfl, h8⟩ := put_ok' h
        exact ⟨.str (str s), hu, by rw [J.depth]; omega, by rw [J.size]; omega, by rw [J.enc, J.size]; rfl⟩
    split at h
    · cases hw : number l p with
      | no a b => rw [hw] at h; cases h
      | ok l1 p1 n =>
        rw [hw, R.bind_ok] at h
        have hu := number_fit _ _ hw
        obtain ⟨rfl, h8⟩ := put_ok' h
        exact ⟨.num n, hu, by rw [J.depth]; omega, by rw [J.size]; omega, by rw [J.enc, J.size]; rfl⟩
    split at h
    case isFalse => cases h
    split at h
    · cases h
    rename_i h16
    split at h
    · unfold listF at h
      cases h1 : here l.tail (p + 1) with
      | no a b => rw [h1] at h; cases h
      | ok k q1 c1 =>
        rw [h1, R.bind_ok] at h
        split at h
        · obtain ⟨rfl, h8⟩ := put_ok' h
          exact ⟨.list .nil, trivial, by rw [J.depth, JL.depth]; omega, by rw [J.size, JL.size]; omega, by rw [J.enc, J.size, JL.enc, JL.idx, JL.size]; rfl⟩
        · obtain ⟨js, hj, hjd, hjs, rfl⟩ := hl _ _ _ _ _ _ _ _ _ (by omega) h
          exact ⟨.list js, hj, by rw [J.depth]; omega, by rw [J.size]; omega, by rw [J.enc, J.size, List.append_assoc]; rfl⟩
    · unfold objectF at h
      cases h1 : here l.tail (p + 1) with
      | no a b => rw [h1] at h; cases h
      | ok k q1 c1 =>
        rw [h1, R.bind_ok] at h
        split at h
        · obtain ⟨rfl, h8⟩ := put_ok' h
          exact ⟨.obj .nil, ⟨trivial, rfl⟩, by rw [J.depth, JO.depth]; omega, by rw [J.size, JO.size]; omega, by rw [J.enc, J.size, JO.enc, JO.idx, JO.names, JO.size]; rfl⟩
        · obtain ⟨ms, hm, hmd, hms, hmn, rfl⟩ := ho _ _ _ _ _ _ _ _ _ _ (by omega) rfl h
          exact ⟨.obj ms, ⟨hm, hmn⟩, by rw [J.depth]; omega, by rw [J.size]; omega, by rw [J.enc, J.size, List.append_assoc]; rfl⟩
theorem sound_all : ∀ f, SV f ∧ SL f ∧ SO f
  | 0 => ⟨fun _ _ _ _ _ _ _ _ h => by rw [value] at h; (cases h), fun _ _ _ _ _ _ _ _ _ _ h => by rw [list] at h; (cases h), fun _ _ _ _ _ _ _ _ _ _ _ _ h => by rw [object] at h; (cases h)⟩
  | f + 1 => by
    obtain ⟨hv, hl, ho⟩ := sound_all f
    exact ⟨sound_value f hl ho, sound_list f hv hl, sound_object f hv ho⟩
/-- What 'parse' reads is a tree as it is meant. -/
theorem parse_sound (b : List UInt8) {l : List UInt8} {p : Nat} {t : List S39} (h : parse b = .ok l p t) : ∃ j : J, j.ok ∧ j.depth ≤ 16 ∧ j.size ≤ 8192 ∧ t = j.enc 0 := by
  unfold parse at h
  split at h
  · cases h
  · cases hv : value (2 * b.length + 2) 0 b 0 [] with
    | no a c => rw [hv] at h; cases h
    | ok l1 q v =>
      rw [hv, R.bind_ok] at h
      obtain ⟨j, hj, hd, hs, rfl⟩ := (sound_all _).1 _ _ _ _ _ _ _ (by omega) hv
      split at h
      · cases h
        exact ⟨j, hj, by omega, by rw [List.length_nil] at hs; omega, rfl⟩
      · cases h
end Go.Proofs.YtldlkoncndlbhaaDoor.Js
set_option linter.unusedVariables false
set_option linter.unusedSimpArgs false
namespace Go.Proofs.YtldlkoncndlbhaaDoor.Js
open Go.RowKit Go.Lib Go.Proofs.YtldlkoncndlbhaaDoor.PSh Go.Proofs.YtldlkoncndlbhaaDoor.Utf Go.Proofs.YtldlkoncndlbhaaDoor.Mb Go.Proofs.YtldlkoncndlbhaaDoor.Pl Go.Proofs.YtldlkoncndlbhaaDoor.Np Go.Proofs.YtldlkoncndlbhaaDoor.Tx Go.Proofs.YtldlkoncndlbhaaDoor.Pure Go.Proofs.YtldlkoncndlbhaaDoor.Wr Go.Proofs.YtldlkoncndlbhaaDoorW.PrintWords Go.Proofs.YtldlkoncndlbhaaDoorW.PrintLast Go.Proofs.YtldlkoncndlbhaaDoorW.PrintMore
/-! Texts with commas between -/
def glueT : List (List UInt8) → List UInt8
  | [] => []
  | x :: xs => 44 :: (x ++ glueT xs)
def glue : List (List UInt8) → List UInt8
  | [] => []
  | x :: xs => x ++ glueT xs
theorem glueT_snoc : ∀ (xs : List (List UInt8)) (y : List UInt8), glueT (xs ++ [y]) = glueT xs ++ 44 :: y
  | [], y => by simp [glueT]
  | x :: xs, y => by rw [List.cons_append, glueT, glueT, glueT_snoc xs y]; simp
theorem glue_snoc (xs : List (List UInt8)) (y : List UInt8) : glue (xs ++ [y]) = glue xs ++ ((if xs.length = 0 then [] else [44]) ++ y) := by
  cases xs with
  | nil => simp [glue, glueT]
  | cons x xs => rw [List.cons_append, glue, glue, glueT_snoc, if_neg (by simp)]; simp
theorem joined_glue : ∀ (n : Nat) (ys : List (List UInt8)) (g : Nat → List UInt8), ys.length = n → (∀ i, (h : i < ys.length) → g i = ys[i]) → joined g n = glue ys
  | 0, ys, g, hn, _ => by
    have : ys = [] := List.eq_nil_of_length_eq_zero hn
    subst this
    rfl
  | n + 1, ys, g, hn, hg => by
    rcases List.eq_nil_or_concat ys with rfl | ⟨zs, y, e⟩
    · cases hn
    · rw [List.concat_eq_append] at e
      subst e
      have hz : zs.length = n := by rw [List.length_append, List.length_singleton] at hn; omega
      have hy := hg n (by rw [List.length_append, List.length_singleton]; omega)
      rw [List.getElem_append_right (by omega)] at hy
      simp only [hz, Nat.sub_self, List.getElem_cons_zero] at hy
      rw [joined, glue_snoc, joined_glue n zs g hz (fun i h => by
        have := hg i (by rw [List.length_append, List.length_singleton]; omega)
        rw [this, List.getElem_append_left h]), hy, hz]
def JL.toL : JL → List J
  | .nil => []
  | .cons j js => j :: js.toL
def JO.toL : JO → List J
  | .nil => []
  | .cons _ j ms => j :: ms.toL
def JO.texts : JO → List (List UInt8)
  | .nil => []
  | .cons s j ms => (inQuotes s.data.toList ++ 58 :: j.txt) :: ms.texts
theorem JL.tail_glue : ∀ js : JL, js.tail = glueT (js.toL.map J.txt)
  | .nil => by rw [JL.tail]; rfl
  | .cons j js => by rw [JL.tail, JL.toL, List.map_cons, glueT, js.tail_glue]
theorem JO.tail_glue : ∀ ms : JO, ms.tail = glueT ms.texts
  | .nil => by rw [JO.tail]; rfl
  | .cons s j ms => by rw [JO.tail, JO.texts, glueT, ms.tail_glue]; simp
theorem J.txt_list (js : JL) : (J.list js).txt = 91 :: (glue (js.toL.map J.txt) ++ [93]) := by
  cases js with
  | nil => rw [J.txt]; rfl
  | cons j js => rw [J.txt, JL.toL, List.map_cons, glue, js.tail_glue, List.append_assoc]
theorem J.txt_obj (ms : JO) : (J.obj ms).txt = 123 :: (glue ms.texts ++ [125]) := by
  cases ms with
  | nil => rw [J.txt]; rfl
  | cons s j ms => rw [J.txt, JO.texts, glue, ms.tail_glue]; simp
theorem JL.idx_len : ∀ (js : JL) (b : Nat), (js.idx b).length = js.toL.length
  | .nil, _ => rfl
  | .cons j js, b => by rw [JL.idx, JL.toL, List.length_cons, List.length_cons, js.idx_len]
theorem JO.idx_len : ∀ (ms : JO) (b : Nat), (ms.idx b).length = ms.toL.length
  | .nil, _ => rfl
  | .cons _ j ms, b => by rw [JO.idx, JO.toL, List.length_cons, List.length_cons, ms.idx_len]
theorem JO.names_len : ∀ ms : JO, ms.names.length = ms.toL.length
  | .nil => rfl
  | .cons _ j ms => by rw [JO.names, JO.toL, List.length_cons, List.length_cons, ms.names_len]
theorem JO.texts_len : ∀ ms : JO, ms.texts.length = ms.toL.length
  | .nil => rfl
  | .cons _ j ms => by rw [JO.texts, JO.toL, List.length_cons, List.length_cons, ms.texts_len]
/-! The text -/
theorem rd_mid (P Q : List S39) (x : S39) (k : Nat) (hk : k = P.length) : rd_T39 (P ++ x :: Q) (k : Int) = x := by
  subst hk
  unfold rd_T39
  rw [Int.toNat_natCast, List.getD_eq_getElem?_getD, List.getElem?_append_right (Nat.le_refl _), Nat.sub_self]
  rfl
mutual
theorem J.lies_txt : ∀ (j : J) (l P Q : List S39) (f : Nat), l = P ++ (j.enc P.length ++ Q) → j.size ≤ f → txt l f ((P.length + j.size - 1 : Nat) : Int) = j.txt
  | .null, l, P, Q, f, hl, hf => by
    rw [J.size] at hf
    obtain ⟨f, rfl⟩ : ∃ k, f = k + 1 := ⟨f - 1, by omega⟩
    rw [txt_succ, hl, J.enc, J.size, List.singleton_append, rd_mid P Q _ _ (by omega), txtOf_1 _ _ rfl, J.txt]
  | .bool b, l, P, Q, f, hl, hf => by
    rw [J.size] at hf
    obtain ⟨f, rfl⟩ : ∃ k, f = k + 1 := ⟨f - 1, by omega⟩
    rw [txt_succ, hl, J.enc, J.size, List.singleton_append, rd_mid P Q _ _ (by omega), txtOf_2 _ _ rfl, J.txt]
  | .num n, l, P, Q, f, hl, hf => by
    rw [J.size] at hf
    obtain ⟨f, rfl⟩ : ∃ k, f = k + 1 := ⟨f - 1, by omega⟩
    rw [txt_succ, hl, J.enc, J.size, List.singleton_append, rd_mid P Q _ _ (by omega), txtOf_3 _ _ rfl, J.txt]
  | .str s, l, P, Q, f, hl, hf => by
    rw [J.size] at hf
    obtain ⟨f, rfl⟩ : ∃ k, f = k + 1 := ⟨f - 1, by omega⟩
    rw [txt_succ, hl, J.enc, J.size, List.singleton_append, rd_mid P Q _ _ (by omega), txtOf_4 _ _ rfl, J.txt]
  | .list js, l, P, Q, f, hl, hf => by
    rw [J.size] at hf
    obtain ⟨f, rfl⟩ : ∃ k, f = k + 1 := ⟨f - 1, by omega⟩
    rw [J.enc, List.append_assoc, List.singleton_append] at hl
    have hk := JL.lies_txt js l P _ f hl (by omega)
    have hlen := js.enc_len P.length
    have hx : rd_T39 l ((P.length + (js.size + 1) - 1 : Nat) : Int) = ⟨5, false, 0, ⟨#[]⟩, [], js.idx P.length⟩ := by
      rw [hl, ← List.append_assoc]
      exact rd_mid _ _ _ _ (by rw [List.length_append, hlen]; omega)
    rw [J.size, txt_succ, hx, txtOf_5 _ _ rfl, J.txt_list]
    rw [joined_glue _ (js.toL.map J.txt) _ (by rw [List.length_map]; exact (js.idx_len _).symm) (fun i h => by
      rw [List.length_map] at h
      rw [List.getElem_map]
      exact hk i h)]
    simp
  | .obj ms, l, P, Q, f, hl, hf => by
    rw [J.size] at hf
    obtain ⟨f, rfl⟩ : ∃ k, f = k + 1 := ⟨f - 1, by omega⟩
    rw [J.enc, List.append_assoc, List.singleton_append] at hl
    have hk := JO.lies_txt ms l P _ f hl (by omega)
    have hlen := ms.enc_len P.length
    have hx : rd_T39 l ((P.length + (ms.size + 1) - 1 : Nat) : Int) = ⟨6, false, 0, ⟨#[]⟩, ms.names, ms.idx P.length⟩ := by
      rw [hl, ← List.append_assoc]
      exact rd_mid _ _ _ _ (by rw [List.length_append, hlen]; omega)
    rw [J.size, txt_succ, hx, txtOf_6 _ _ rfl, J.txt_obj]
    rw [joined_glue _ ms.texts _ (by rw [ms.texts_len]; exact (ms.idx_len _).symm) (fun i h => hk i h)]
    simp
theorem JL.lies_txt : ∀ (js : JL) (l P Q : List S39) (f : Nat), l = P ++ (js.enc P.length ++ Q) → js.size ≤ f → ∀ (i : Nat) (h : i < js.toL.length), txt l f (rd (js.idx P.length) (i : Int)) = (js.toL[i]).txt
  | .nil, l, P, Q, f, hl, hf, i, h => absurd h (Nat.not_lt_zero _)
  | .cons j js, l, P, Q, f, hl, hf, i, h => by
    rw [JL.size] at hf
    rw [JL.enc, List.append_assoc] at hl
    have hlen := j.enc_len P.length
    cases i with
    | zero => exact J.lies_txt j l P _ f hl (by omega)
    | succ i =>
      have hp : (P ++ j.enc P.length).length = P.length + j.size := by rw [List.length_append, hlen]
      have := JL.lies_txt js l (P ++ j.enc P.length) Q f (by rw [hp, List.append_assoc]; exact hl) (by omega) i (by rw [JL.toL, List.length_cons] at h; omega)
      rw [hp] at this
      exact this
theorem JO.lies_txt : ∀ (ms : JO) (l P Q : List S39) (f : Nat), l = P ++ (ms.enc P.length ++ Q) → ms.size ≤ f → ∀ (i : Nat) (h : i < ms.texts.length), inQuotes (rdOf ByteArray.empty ms.names (i : Int)).data.toList ++ [58] ++ txt l f (rd (ms.idx P.length) (i : Int)) = ms.texts[i]
  | .nil, l, P, Q, f, hl, hf, i, h => absurd h (Nat.not_lt_zero _)
  | .cons s j ms, l, P, Q, f, hl, hf, i, h => by
    rw [JO.size] at hf
    rw [JO.enc, List.append_assoc] at hl
    have hlen := j.enc_len P.length
    cases i with
    | zero =>
      have := J.lies_txt j l P _ f hl (by omega)
      show inQuotes s.data.toList ++ [58] ++ txt l f ((P.length + j.size - 1 : Nat) : Int) = inQuotes s.data.toList ++ 58 :: j.txt
      rw [this]
      simp
    | succ i =>
      have hp : (P ++ j.enc P.length).length = P.length + j.size := by rw [List.length_append, hlen]
      have := JO.lies_txt ms l (P ++ j.enc P.length) Q f (by rw [hp, List.append_assoc]; exact hl) (by omega) i (by rw [JO.texts, List.length_cons] at h; omega)
      rw [hp] at this
      exact this
end
theorem J.textOf_enc (j : J) : Wr.textOf (j.enc 0) = j.txt := by
  unfold Wr.textOf
  have hl := j.enc_len 0
  have hs := j.size_pos
  rw [hl]
  have := J.lies_txt j (j.enc 0) [] [] j.size (by simp) (by omega)
  rw [List.length_nil, Nat.zero_add] at this
  rw [← this]
  congr 1
  omega
end Go.Proofs.YtldlkoncndlbhaaDoor.Js
set_option linter.unusedVariables false
set_option linter.unusedSimpArgs false
namespace Go.Proofs.YtldlkoncndlbhaaDoor.Js
open Go.RowKit Go.Lib Go.Proofs.YtldlkoncndlbhaaDoor.PSh Go.Proofs.YtldlkoncndlbhaaDoor.Utf Go.Proofs.YtldlkoncndlbhaaDoor.Mb Go.Proofs.YtldlkoncndlbhaaDoor.Pl Go.Proofs.YtldlkoncndlbhaaDoor.Np Go.Proofs.YtldlkoncndlbhaaDoor.Tx Go.Proofs.YtldlkoncndlbhaaDoor.Pure Go.Proofs.YtldlkoncndlbhaaDoor.Wr Go.Proofs.YtldlkoncndlbhaaDoorW.PrintWords Go.Proofs.YtldlkoncndlbhaaDoorW.PrintLast Go.Proofs.YtldlkoncndlbhaaDoorW.PrintMore
def JL.ids : JL → Nat → List Nat
  | .nil, _ => []
  | .cons j js, b => (b + j.size - 1) :: js.ids (b + j.size)
def JO.ids : JO → Nat → List Nat
  | .nil, _ => []
  | .cons _ j ms, b => (b + j.size - 1) :: ms.ids (b + j.size)
theorem JL.idx_ids : ∀ (js : JL) (b : Nat), js.idx b = (js.ids b).map fun (k : Nat) => (k : Int)
  | .nil, _ => rfl
  | .cons j js, b => by rw [JL.idx, JL.ids, List.map_cons, js.idx_ids]
theorem JO.idx_ids : ∀ (ms : JO) (b : Nat), ms.idx b = (ms.ids b).map fun (k : Nat) => (k : Int)
  | .nil, _ => rfl
  | .cons _ j ms, b => by rw [JO.idx, JO.ids, List.map_cons, ms.idx_ids]
theorem JL.ids_in : ∀ (js : JL) (b k : Nat), k ∈ js.ids b → b ≤ k ∧ k < b + js.size
  | .nil, b, k, h => by cases h
  | .cons j js, b, k, h => by
    have hp := j.size_pos
    rw [JL.ids] at h
    rw [JL.size]
    rcases List.mem_cons.1 h with rfl | h
    · omega
    · have := js.ids_in _ k h; omega
theorem JO.ids_in : ∀ (ms : JO) (b k : Nat), k ∈ ms.ids b → b ≤ k ∧ k < b + ms.size
  | .nil, b, k, h => by cases h
  | .cons _ j ms, b, k, h => by
    have hp := j.size_pos
    rw [JO.ids] at h
    rw [JO.size]
    rcases List.mem_cons.1 h with rfl | h
    · omega
    · have := ms.ids_in _ k h; omega
theorem JL.ids_nodup : ∀ (js : JL) (b : Nat), (js.ids b).Nodup
  | .nil, b => List.nodup_nil
  | .cons j js, b => by
    rw [JL.ids, List.nodup_cons]
    have hp := j.size_pos
    exact ⟨fun h => by have := js.ids_in _ _ h; omega, js.ids_nodup _⟩
theorem JO.ids_nodup : ∀ (ms : JO) (b : Nat), (ms.ids b).Nodup
  | .nil, b => List.nodup_nil
  | .cons _ j ms, b => by
    rw [JO.ids, List.nodup_cons]
    have hp := j.size_pos
    exact ⟨fun h => by have := ms.ids_in _ _ h; omega, ms.ids_nodup _⟩
theorem mx_nat (a b : Nat) : mx (a : Int) (b : Int) = ((max a b : Nat) : Int) := by
  unfold mx
  split <;> omega
theorem JL.fold_mx : ∀ (js : JL) (m : Nat), (js.toL.map fun j => (j.depth : Int)).foldl mx (m : Int) = ((max m js.depth : Nat) : Int)
  | .nil, m => by rw [JL.depth]; show (m : Int) = _; omega
  | .cons j js, m => by rw [JL.toL, List.map_cons, List.foldl_cons, mx_nat, js.fold_mx, JL.depth, Nat.max_assoc]
theorem JO.fold_mx : ∀ (ms : JO) (m : Nat), (ms.toL.map fun j => (j.depth : Int)).foldl mx (m : Int) = ((max m ms.depth : Nat) : Int)
  | .nil, m => by rw [JO.depth]; show (m : Int) = _; omega
  | .cons _ j ms, m => by rw [JO.toL, List.map_cons, List.foldl_cons, mx_nat, ms.fold_mx, JO.depth, Nat.max_assoc]
/-- Kids that are no kids yet. -/
theorem kids_run (dp : List Int) (i : Nat) : ∀ (ks : List Nat) (fl : List Bool) (m : Int), (∀ k ∈ ks, k < i) → i ≤ fl.length → (∀ k ∈ ks, rdOf false fl (k : Int) = false) → ks.Nodup →
    ∃ fl', kidsGo dp i fl (ks.map fun (k : Nat) => (k : Int)) m = some (fl', (ks.map fun (k : Nat) => rd dp (k : Int)).foldl mx m) ∧ fl'.length = fl.length ∧ (∀ k : Nat, k ∈ ks → rdOf false fl' (k : Int) = true) ∧ (∀ k : Nat, k ∉ ks → rdOf false fl' (k : Int) = rdOf false fl (k : Int))
  | [], fl, m, _, _, _, _ => ⟨fl, rfl, rfl, fun k h => (by cases h), fun _ _ => rfl⟩
  | k :: r, fl, m, hi, hl, hf, hn => by
    have hk := hi k (List.mem_cons_self ..)
    have hkf := hf k (List.mem_cons_self ..)
    rw [List.nodup_cons] at hn
    have hset := fun (j : Nat) => rdF_set fl k j true (by omega)
    obtain ⟨fl', h1, h2, h3, h4⟩ := kids_run dp i r (fl.set k true) (mx m (rd dp (k : Int))) (fun x hx => hi x (List.mem_cons_of_mem _ hx)) (by rw [List.length_set]; exact hl)
      (fun x hx => by
        have hne : k ≠ x := fun e => hn.1 (e ▸ hx)
        rw [hset x, if_neg hne]
        exact hf x (List.mem_cons_of_mem _ hx)) hn.2
    refine ⟨fl', ?_, by rw [h2, List.length_set], fun x hx => ?_, fun x hx => ?_⟩
    · rw [List.map_cons, kidsGo, if_pos ⟨Int.natCast_nonneg _, by omega, hkf⟩, Int.toNat_natCast, h1]
      rfl
    · rcases List.mem_cons.1 hx with rfl | hx
      · by_cases hm : x ∈ r
        · exact h3 x hm
        · rw [h4 x hm, hset x, if_pos rfl]
      · exact h3 x hx
    · have hne : k ≠ x := fun e => hx (e ▸ List.mem_cons_self ..)
      rw [h4 x (fun h => hx (List.mem_cons_of_mem _ h)), hset x, if_neg hne]
/-- How flags and depths stand when the values from b on, n of them, have been seen: all are kids but the roots. -/
structure Ran (l : List S39) (b n : Nat) (roots : List Nat) (fl : List Bool) (dp : List Int) (fl' : List Bool) (dp' : List Int) : Prop where
  lf : fl'.length = l.length
  ld : dp'.length = l.length
  low : ∀ k : Nat, k < b → rdOf false fl' (k : Int) = rdOf false fl (k : Int) ∧ rd dp' (k : Int) = rd dp (k : Int)
  kid : ∀ k : Nat, b ≤ k → k < b + n → k ∉ roots → rdOf false fl' (k : Int) = true
  root : ∀ k : Nat, k ∈ roots → rdOf false fl' (k : Int) = false
  high : ∀ k : Nat, b + n ≤ k → rdOf false fl' (k : Int) = false
theorem leaf_run (l P Q : List S39) (x : S39) (hl : l = P ++ (x :: Q)) (hp : plainOf x = true) (h5 : x.f5 = []) (h0 : ¬ 5 ≤ x.f0) (d : Nat) (fl : List Bool) (dp : List Int) (hfl : fl.length = l.length) (hdp : dp.length = l.length) (H : ∀ k : Nat, P.length ≤ k → rdOf false fl (k : Int) = false) :
    ∃ fl' dp', nodesGo l (1 + d) P.length fl dp = nodesGo l d (P.length + 1) fl' dp' ∧ Ran l P.length 1 [P.length + 1 - 1] fl dp fl' dp' ∧ rd dp' ((P.length + 1 - 1 : Nat) : Int) = ((0 : Nat) : Int) := by
  have hx : rd_T39 l ((P.length : Nat) : Int) = x := by rw [hl]; exact rd_mid P Q x _ rfl
  have hlt : P.length < l.length := by rw [hl, List.length_append, List.length_cons]; omega
  refine ⟨fl, dp.set P.length 0, ?_, ⟨hfl, by rw [List.length_set, hdp], fun k hk => ⟨rfl, ?_⟩, fun k h1 h2 h3 => ?_, fun k hk => H k ?_, fun k hk => H k (by omega)⟩, ?_⟩
  · rw [Nat.add_comm 1 d, nodesGo, hx, if_pos hp, h5]
    show nodesGo l d (P.length + 1) fl (dp.set P.length (if 5 ≤ x.f0 then (0 : Int) + 1 else 0)) = _
    rw [if_neg h0]
  · rw [rd_set dp P.length k 0 (by omega), if_neg (by omega)]
  · exact absurd (List.mem_singleton.2 (by omega)) h3
  · have := List.mem_singleton.1 hk; omega
  · rw [Nat.add_sub_cancel, rd_set dp P.length P.length 0 (by omega), if_pos rfl]
    rfl
/-- A value with kids, its kids having been seen. -/
theorem node_run (l P : List S39) (x : S39) (n : Nat) (ids : List Nat) (deps : List Int) (dep : Nat) (hlt : P.length + n < l.length) (hx : rd_T39 l ((P.length + n : Nat) : Int) = x) (hp : plainOf x = true) (h0 : 5 ≤ x.f0) (h5 : x.f5 = ids.map fun (k : Nat) => (k : Int))
    (hin : ∀ k ∈ ids, P.length ≤ k ∧ k < P.length + n) (hnd : ids.Nodup) (d : Nat) (fl fl1 : List Bool) (dp dp1 : List Int) (hR : Ran l P.length n ids fl dp fl1 dp1) (hdeps : ids.map (fun (k : Nat) => rd dp1 (k : Int)) = deps) (hfold : deps.foldl mx (0 : Int) = (dep : Int)) :
    ∃ fl' dp', nodesGo l (1 + d) (P.length + n) fl1 dp1 = nodesGo l d (P.length + (n + 1)) fl' dp' ∧ Ran l P.length (n + 1) [P.length + (n + 1) - 1] fl dp fl' dp' ∧ rd dp' ((P.length + (n + 1) - 1 : Nat) : Int) = ((dep + 1 : Nat) : Int) := by
  obtain ⟨fl2, k1, k2, k3, k4⟩ := kids_run dp1 (P.length + n) ids fl1 0 (fun k hk => (hin k hk).2) (by rw [hR.lf]; omega) (fun k hk => hR.root k hk) hnd
  refine ⟨fl2, dp1.set (P.length + n) ((dep : Int) + 1), ?_, ⟨by rw [k2, hR.lf], by rw [List.length_set, hR.ld], fun k hk => ?_, fun k h1 h2 h3 => ?_, fun k hk => ?_, fun k hk => ?_⟩, ?_⟩
  · rw [Nat.add_comm 1 d, nodesGo, hx, if_pos hp, h5, k1, hdeps, hfold]
    show nodesGo l d (P.length + n + 1) fl2 (dp1.set (P.length + n) (if 5 ≤ x.f0 then (dep : Int) + 1 else (dep : Int))) = _
    rw [if_pos h0, Nat.add_assoc]
  · have hnk : k ∉ ids := fun h => by have := hin k h; omega
    refine ⟨by rw [k4 k hnk]; exact (hR.low k hk).1, ?_⟩
    rw [rd_set dp1 _ k _ (by rw [hR.ld]; omega), if_neg (by omega)]
    exact (hR.low k hk).2
  · have hk : k < P.length + n := by
      have : ¬ k = P.length + (n + 1) - 1 := fun e => h3 (List.mem_singleton.2 e)
      omega
    by_cases hm : k ∈ ids
    · exact k3 k hm
    · rw [k4 k hm]; exact hR.kid k h1 hk hm
  · have e := List.mem_singleton.1 hk
    have hnk : k ∉ ids := fun h => by have := hin k h; omega
    rw [k4 k hnk]
    exact hR.high k (by omega)
  · have hnk : k ∉ ids := fun h => by have := hin k h; omega
    rw [k4 k hnk]
    exact hR.high k (by omega)
  · rw [show P.length + (n + 1) - 1 = P.length + n by omega, rd_set dp1 _ _ _ (by rw [hR.ld]; omega), if_pos rfl]
    omega
theorem emp_list : (⟨#[]⟩ : ByteArray).toList = [] := by exact ByteArray.toList_eq _
theorem plain_1 : plainOf ⟨1, false, 0, ⟨#[]⟩, [], []⟩ = true := by unfold plainOf plainB; simp [namesGo, emp_list]
theorem plain_2 (b : Bool) : plainOf ⟨2, b, 0, ⟨#[]⟩, [], []⟩ = true := by unfold plainOf plainB; simp [namesGo, emp_list]
theorem plain_3 (n : Int) (h : fit n) : plainOf ⟨3, false, n, ⟨#[]⟩, [], []⟩ = true := by
  have h1 : decide (-4611686018427387903 ≤ n ∧ n ≤ 4611686018427387903) = true := decide_eq_true h
  unfold plainOf plainB
  dsimp only
  rw [if_pos (show namesGo [] [] = true from rfl), if_neg (by decide), if_neg (by decide), if_pos rfl, emp_list, h1]
  rfl
theorem plain_4 (s : ByteArray) (h : utf s.data.toList = true) : plainOf ⟨4, false, 0, s, [], []⟩ = true := by
  unfold plainOf plainB
  dsimp only
  rw [if_pos (show namesGo [] [] = true from rfl), if_neg (by decide), if_neg (by decide), if_neg (by decide), if_pos rfl, h]
  rfl
theorem plain_5 (ks : List Int) : plainOf ⟨5, false, 0, ⟨#[]⟩, [], ks⟩ = true := by
  unfold plainOf plainB
  dsimp only
  rw [if_pos (show namesGo [] [] = true from rfl), if_neg (by decide), if_neg (by decide), if_neg (by decide), if_neg (by decide), if_pos rfl, emp_list]
  rfl
theorem plain_6 (ns : List ByteArray) (ks : List Int) (h : namesGo [] ns = true) (hl : ns.length = ks.length) : plainOf ⟨6, false, 0, ⟨#[]⟩, ns, ks⟩ = true := by
  unfold plainOf plainB
  dsimp only
  rw [if_pos h, if_neg (by decide), if_neg (by decide), if_neg (by decide), if_neg (by decide), if_neg (by decide), if_pos rfl, emp_list, hl, beq_self_eq_true]
  rfl
mutual
theorem J.run : ∀ (j : J) (hj : j.ok) (l P Q : List S39), l = P ++ (j.enc P.length ++ Q) → ∀ (d : Nat) (fl : List Bool) (dp : List Int), fl.length = l.length → dp.length = l.length → (∀ k : Nat, P.length ≤ k → rdOf false fl (k : Int) = false) →
    ∃ fl' dp', nodesGo l (j.size + d) P.length fl dp = nodesGo l d (P.length + j.size) fl' dp' ∧ Ran l P.length j.size [P.length + j.size - 1] fl dp fl' dp' ∧ rd dp' ((P.length + j.size - 1 : Nat) : Int) = (j.depth : Int)
  | .null, hj, l, P, Q, hl, d, fl, dp, hfl, hdp, H => by
    rw [J.enc] at hl
    rw [J.size, J.depth]
    exact leaf_run l P Q _ hl plain_1 rfl (by decide) d fl dp hfl hdp H
  | .bool b, hj, l, P, Q, hl, d, fl, dp, hfl, hdp, H => by
    rw [J.enc] at hl
    rw [J.size, J.depth]
    exact leaf_run l P Q _ hl (plain_2 b) rfl (by show ¬ (5 : Int) ≤ 2; decide) d fl dp hfl hdp H
  | .num n, hj, l, P, Q, hl, d, fl, dp, hfl, hdp, H => by
    rw [J.enc] at hl
    rw [J.ok] at hj
    rw [J.size, J.depth]
    exact leaf_run l P Q _ hl (plain_3 n hj) rfl (by show ¬ (5 : Int) ≤ 3; decide) d fl dp hfl hdp H
  | .str s, hj, l, P, Q, hl, d, fl, dp, hfl, hdp, H => by
    rw [J.enc] at hl
    rw [J.ok] at hj
    rw [J.size, J.depth]
    exact leaf_run l P Q _ hl (plain_4 s hj) rfl (by show ¬ (5 : Int) ≤ 4; decide) d fl dp hfl hdp H
  | .list js, hj, l, P, Q, hl, d, fl, dp, hfl, hdp, H => by
    rw [J.enc, List.append_assoc, List.singleton_append] at hl
    rw [J.ok] at hj
    rw [J.size, J.depth, Nat.add_assoc]
    obtain ⟨fl1, dp1, e1, hR, hds⟩ := JL.run js hj l P _ hl (1 + d) fl dp hfl hdp H
    have hlen := js.enc_len P.length
    have hx : rd_T39 l ((P.length + js.size : Nat) : Int) = ⟨5, false, 0, ⟨#[]⟩, [], js.idx P.length⟩ := by
      rw [hl, ← List.append_assoc]
      exact rd_mid _ _ _ _ (by rw [List.length_append, hlen])
    have hlt : P.length + js.size < l.length := by rw [hl, List.length_append, List.length_append, hlen, List.length_cons]; omega
    rw [e1]
    exact node_run l P _ js.size (js.ids P.length) _ js.depth hlt hx (plain_5 _) (by show (5 : Int) ≤ 5; decide) (js.idx_ids _) (js.ids_in _) (js.ids_nodup _) d fl fl1 dp dp1 hR hds (by have := js.fold_mx 0; rw [Nat.zero_max] at this; exact this)
  | .obj ms, hj, l, P, Q, hl, d, fl, dp, hfl, hdp, H => by
    rw [J.enc, List.append_assoc, List.singleton_append] at hl
    rw [J.ok] at hj
    rw [J.size, J.depth, Nat.add_assoc]
    obtain ⟨fl1, dp1, e1, hR, hds⟩ := JO.run ms hj.1 l P _ hl (1 + d) fl dp hfl hdp H
    have hlen := ms.enc_len P.length
    have hx : rd_T39 l ((P.length + ms.size : Nat) : Int) = ⟨6, false, 0, ⟨#[]⟩, ms.names, ms.idx P.length⟩ := by
      rw [hl, ← List.append_assoc]
      exact rd_mid _ _ _ _ (by rw [List.length_append, hlen])
    have hlt : P.length + ms.size < l.length := by rw [hl, List.length_append, List.length_append, hlen, List.length_cons]; omega
    rw [e1]
    exact node_run l P _ ms.size (ms.ids P.length) _ ms.depth hlt hx (plain_6 _ _ hj.2 (by rw [ms.names_len, ms.idx_len])) (by show (5 : Int) ≤ 6; decide) (ms.idx_ids _) (ms.ids_in _) (ms.ids_nodup _) d fl fl1 dp dp1 hR hds (by have := ms.fold_mx 0; rw [Nat.zero_max] at this; exact this)
theorem JL.run : ∀ (js : JL) (hj : js.ok) (l P Q : List S39), l = P ++ (js.enc P.length ++ Q) → ∀ (d : Nat) (fl : List Bool) (dp : List Int), fl.length = l.length → dp.length = l.length → (∀ k : Nat, P.length ≤ k → rdOf false fl (k : Int) = false) →
    ∃ fl' dp', nodesGo l (js.size + d) P.length fl dp = nodesGo l d (P.length + js.size) fl' dp' ∧ Ran l P.length js.size (js.ids P.length) fl dp fl' dp' ∧ (js.ids P.length).map (fun (k : Nat) => rd dp' (k : Int)) = js.toL.map fun j => (j.depth : Int)
  | .nil, hj, l, P, Q, hl, d, fl, dp, hfl, hdp, H => by
    rw [JL.size, Nat.zero_add]
    exact ⟨fl, dp, rfl, ⟨hfl, hdp, fun k hk => ⟨rfl, rfl⟩, fun k h1 h2 _ => by omega, fun k hk => absurd hk List.not_mem_nil, fun k hk => H k (by omega)⟩, rfl⟩
  | .cons j js, hj, l, P, Q, hl, d, fl, dp, hfl, hdp, H => by
    rw [JL.enc, List.append_assoc] at hl
    rw [JL.ok] at hj
    rw [JL.size, Nat.add_assoc]
    have hpos := j.size_pos
    obtain ⟨fl1, dp1, e1, hR, hd1⟩ := J.run j hj.1 l P _ hl (js.size + d) fl dp hfl hdp H
    have hlen : (P ++ j.enc P.length).length = P.length + j.size := by rw [List.length_append, j.enc_len]
    obtain ⟨fl2, dp2, e2, hR2, hd2⟩ := JL.run js hj.2 l (P ++ j.enc P.length) Q (by rw [hlen, List.append_assoc]; exact hl) d fl1 dp1 hR.lf hR.ld (fun k hk => hR.high k (by omega))
    rw [hlen] at e2 hR2 hd2
    refine ⟨fl2, dp2, by rw [e1, e2, Nat.add_assoc], ⟨hR2.lf, hR2.ld, fun k hk => ?_, fun k h1 h2 h3 => ?_, fun k hk => ?_, fun k hk => hR2.high k (by omega)⟩, ?_⟩
    · exact ⟨(hR2.low k (by omega)).1.trans (hR.low k hk).1, (hR2.low k (by omega)).2.trans (hR.low k hk).2⟩
    · rw [JL.ids, List.mem_cons, not_or] at h3
      by_cases hk : k < P.length + j.size
      · rw [(hR2.low k hk).1]
        exact hR.kid k h1 hk (fun h => h3.1 (List.mem_singleton.1 h))
      · exact hR2.kid k (by omega) (by omega) h3.2
    · rw [JL.ids] at hk
      rcases List.mem_cons.1 hk with rfl | hk
      · rw [(hR2.low _ (by omega)).1]
        exact hR.root _ (List.mem_singleton.2 rfl)
      · exact hR2.root k hk
    · rw [JL.ids, List.map_cons, JL.toL, List.map_cons, hd2, (hR2.low _ (by omega)).2, hd1]
theorem JO.run : ∀ (ms : JO) (hj : ms.ok) (l P Q : List S39), l = P ++ (ms.enc P.length ++ Q) → ∀ (d : Nat) (fl : List Bool) (dp : List Int), fl.length = l.length → dp.length = l.length → (∀ k : Nat, P.length ≤ k → rdOf false fl (k : Int) = false) →
    ∃ fl' dp', nodesGo l (ms.size + d) P.length fl dp = nodesGo l d (P.length + ms.size) fl' dp' ∧ Ran l P.length ms.size (ms.ids P.length) fl dp fl' dp' ∧ (ms.ids P.length).map (fun (k : Nat) => rd dp' (k : Int)) = ms.toL.map fun j => (j.depth : Int)
  | .nil, hj, l, P, Q, hl, d, fl, dp, hfl, hdp, H => by
    rw [JO.size, Nat.zero_add]
    exact ⟨fl, dp, rfl, ⟨hfl, hdp, fun k hk => ⟨rfl, rfl⟩, fun k h1 h2 _ => by omega, fun k hk => absurd hk List.not_mem_nil, fun k hk => H k (by omega)⟩, rfl⟩
  | .cons s j ms, hj, l, P, Q, hl, d, fl, dp, hfl, hdp, H => by
    rw [JO.enc, List.append_assoc] at hl
    rw [JO.ok] at hj
    rw [JO.size, Nat.add_assoc]
    have hpos := j.size_pos
    obtain ⟨fl1, dp1, e1, hR, hd1⟩ := J.run j hj.1 l P _ hl (ms.size + d) fl dp hfl hdp H
    have hlen : (P ++ j.enc P.length).length = P.length + j.size := by rw [List.length_append, j.enc_len]
    obtain ⟨fl2, dp2, e2, hR2, hd2⟩ := JO.run ms hj.2 l (P ++ j.enc P.length) Q (by rw [hlen, List.append_assoc]; exact hl) d fl1 dp1 hR.lf hR.ld (fun k hk => hR.high k (by omega))
    rw [hlen] at e2 hR2 hd2
    refine ⟨fl2, dp2, by rw [e1, e2, Nat.add_assoc], ⟨hR2.lf, hR2.ld, fun k hk => ?_, fun k h1 h2 h3 => ?_, fun k hk => ?_, fun k hk => hR2.high k (by omega)⟩, ?_⟩
    · exact ⟨(hR2.low k (by omega)).1.trans (hR.low k hk).1, (hR2.low k (by omega)).2.trans (hR.low k hk).2⟩
    · rw [JO.ids, List.mem_cons, not_or] at h3
      by_cases hk : k < P.length + j.size
      · rw [(hR2.low k hk).1]
        exact hR.kid k h1 hk (fun h => h3.1 (List.mem_singleton.1 h))
      · exact hR2.kid k (by omega) (by omega) h3.2
    · rw [JO.ids] at hk
      rcases List.mem_cons.1 hk with rfl | hk
      · rw [(hR2.low _ (by omega)).1]
        exact hR.root _ (List.mem_singleton.2 rfl)
      · exact hR2.root k hk
    · rw [JO.ids, List.map_cons, JO.toL, List.map_cons, hd2, (hR2.low _ (by omega)).2, hd1]
end
/-- The check finds nothing. -/
theorem J.check_enc (j : J) (hj : j.ok) (hd : j.depth ≤ 16) (hs : j.size ≤ 8192) : checkOf (j.enc 0) = 0 := by
  have hl := j.enc_len 0
  have hp := j.size_pos
  obtain ⟨fl, dp, e, hR, hdep⟩ := J.run j hj (j.enc 0) [] [] (by simp) 0 (List.replicate j.size false) (List.replicate j.size 0) (by rw [List.length_replicate, hl]) (by rw [List.length_replicate, hl]) (fun k _ => by
    unfold rdOf
    rw [Int.toNat_natCast, List.getD_eq_getElem?_getD, List.getElem?_replicate]
    split <;> rfl)
  rw [List.length_nil, Nat.zero_add, Nat.add_zero] at e
  rw [List.length_nil, Nat.zero_add] at hR hdep
  unfold checkOf
  rw [hl, if_neg (by omega), if_neg (by omega), e]
  show endOf j.size (some (fl, dp)) = 0
  have hall : (fl.take (j.size - 1)).contains false = false := by
    cases hc : (fl.take (j.size - 1)).contains false with
    | false => rfl
    | true =>
      exfalso
      rw [List.contains_iff_mem] at hc
      obtain ⟨i, hi, hv⟩ := List.getElem_of_mem hc
      rw [List.length_take, hR.lf, hl] at hi
      have hk := hR.kid i (Nat.zero_le _) (by omega) (fun h => by have := List.mem_singleton.1 h; omega)
      rw [List.getElem_take] at hv
      have : rdOf false fl (i : Int) = fl[i]'(by rw [hR.lf, hl]; omega) := by
        unfold rdOf
        rw [Int.toNat_natCast, List.getD_eq_getElem?_getD, List.getElem?_eq_getElem (by rw [hR.lf, hl]; omega)]
        rfl
      rw [this, hv] at hk
      cases hk
  unfold endOf
  dsimp only
  rw [hall, if_neg (by decide), if_neg]
  rw [show (j.size : Int) - 1 = ((j.size - 1 : Nat) : Int) by omega, hdep]
  omega
end Go.Proofs.YtldlkoncndlbhaaDoor.Js
set_option linter.unusedVariables false
set_option linter.unusedSimpArgs false
namespace Go.Proofs.YtldlkoncndlbhaaDoor.Js
open Go.RowKit Go.Lib Go.Proofs.YtldlkoncndlbhaaDoor.PSh Go.Proofs.YtldlkoncndlbhaaDoor.Utf Go.Proofs.YtldlkoncndlbhaaDoor.Mb Go.Proofs.YtldlkoncndlbhaaDoor.Pl Go.Proofs.YtldlkoncndlbhaaDoor.Np Go.Proofs.YtldlkoncndlbhaaDoor.Tx Go.Proofs.YtldlkoncndlbhaaDoor.Pure Go.Proofs.YtldlkoncndlbhaaDoor.Wr Go.Proofs.YtldlkoncndlbhaaDoorW.PrintWords Go.Proofs.YtldlkoncndlbhaaDoorW.PrintLast Go.Proofs.YtldlkoncndlbhaaDoorW.PrintMore
def JL.of : List J → JL
  | [] => .nil
  | j :: r => .cons j (JL.of r)
def JO.of : List ByteArray → List J → JO
  | s :: ss, j :: r => .cons s j (JO.of ss r)
  | _, _ => .nil
/-- The value that stands at a place, of its kids. -/
def absOf (g : Int → J) (x : S39) : J :=
  if x.f0 = 1 then .null else if x.f0 = 2 then .bool x.f1 else if x.f0 = 3 then .num x.f2 else if x.f0 = 4 then .str x.f3
  else if x.f0 = 5 then .list (JL.of (x.f5.map g)) else .obj (JO.of x.f4 (x.f5.map g))
def absJ (l : List S39) : Nat → Int → J
  | 0, _ => .null
  | f + 1, a => absOf (absJ l f) (rd_T39 l a)
/-! What a plain value is -/
/-! The tree as it is meant -/
/-- What is read passes the check, and its text is read as just that tree. -/
theorem read_again (b : List UInt8) {l : List UInt8} {p : Nat} {t : List S39} (h : parse b = .ok l p t) : checkOf t = 0 ∧ ((Wr.textOf t).length ≤ 65536 → parse (Wr.textOf t) = .ok [] 0 t) := by
  obtain ⟨j, hj, hd, hs, rfl⟩ := parse_sound b h
  refine ⟨j.check_enc hj hd hs, fun hl => ?_⟩
  rw [j.textOf_enc] at hl ⊢
  exact j.parse_txt hj hl hd hs
end Go.Proofs.YtldlkoncndlbhaaDoor.Js
set_option linter.unusedVariables false
set_option linter.unusedSimpArgs false
namespace Go.Proofs.YtldlkoncndlbhaaDoor.Js
open Go.RowKit Go.Lib Go.Proofs.YtldlkoncndlbhaaDoor.PSh Go.Proofs.YtldlkoncndlbhaaDoor.Np
/-- What a tree costs. -/
def C (t : List S39) : Nat := (t.map Rd.cost).sum
theorem C_snoc (t : List S39) (v : S39) : C (t ++ [v]) = C t + Rd.cost v := by unfold C; rw [List.map_append, List.sum_append]; simp
def NC (ns : List ByteArray) : Nat := (ns.map fun s => s.size + 1).sum
theorem NC_snoc (ns : List ByteArray) (s : ByteArray) : NC (ns ++ [s]) = NC ns + (s.size + 1) := by unfold NC; rw [List.map_append, List.sum_append]; simp
theorem here_len {l : List UInt8} {p : Nat} {l1 : List UInt8} {q : Nat} {c : UInt8} (h : here l p = .ok l1 q c) : l1.length ≤ l.length ∧ ∃ r, l1 = c :: r := by
  rcases here_cases l p with ⟨c', r, e, _, hl⟩ | ⟨e, _, _⟩
  · rw [e] at h; cases h; exact ⟨by rw [List.length_cons]; omega, r, rfl⟩
  · rw [e] at h; cases h
theorem word_len : ∀ (v l : List UInt8) (p : Nat) {l' : List UInt8} {q : Nat} {u : Unit}, word v l p = .ok l' q u → l'.length + v.length = l.length
  | [], l, p, _, _, _, h => by cases h; rfl
  | c :: v, [], p, _, _, _, h => by cases h
  | c :: v, x :: l, p, _, _, _, h => by
    rw [word_cons] at h
    split at h
    · have := word_len v l (p + 1) h
      rw [List.length_cons, List.length_cons]; omega
    · cases h
theorem hex_len : ∀ (k : Nat) (l : List UInt8) (p fr n : Nat) {l' : List UInt8} {q m : Nat}, hex k l p fr n = .ok l' q m → l'.length + k = l.length
  | 0, l, p, fr, n, _, _, _, h => by rw [hex] at h; cases h; rfl
  | k + 1, [], p, fr, n, _, _, _, h => by cases h
  | k + 1, c :: r, p, fr, n, _, _, _, h => by
    rw [hex] at h
    cases hd : digit c with
    | none => rw [hd] at h; cases h
    | some d =>
      rw [hd] at h
      have := hex_len k r (p + 1) fr _ h
      rw [List.length_cons]; omega
theorem mark_small (c : UInt8) (n : Nat) (h : mark c = some n) : n < 128 := by
  unfold mark at h
  split at h
  · rename_i hc
    cases h
    rcases hc with rfl | rfl | rfl <;> decide
  · split at h
    · cases h; decide
    · split at h
      · cases h; decide
      · split at h
        · cases h; decide
        · split at h
          · cases h; decide
          · split at h
            · cases h; decide
            · cases h
theorem half_len (l : List UInt8) (p fr : Nat) {l' : List UInt8} {q n : Nat} (h : half l p fr = .ok l' q n) : (n < 128 ∧ l'.length + 2 ≤ l.length) ∨ l'.length + 6 ≤ l.length := by
  match l, h with
  | [], h => cases h
  | [_], h => cases h
  | a :: c :: r, h =>
    unfold half at h
    dsimp only at h
    cases hm : mark c with
    | some m =>
      rw [hm] at h
      cases h
      exact .inl ⟨mark_small c n hm, by rw [List.length_cons, List.length_cons]; omega⟩
    | none =>
      rw [hm] at h
      dsimp only at h
      split at h
      · have := hex_len 4 r _ _ _ h
        exact .inr (by rw [List.length_cons, List.length_cons]; omega)
      · cases h
theorem enc_len_le (n : Nat) : (encodeRune (n : Int)).length ≤ 4 := by unfold encodeRune; rw [List.length_map]; exact (encodeRuneZ_length _).2
theorem enc_len_one (n : Nat) (h : n < 128) : (encodeRune (n : Int)).length = 1 := by
  unfold encodeRune
  rw [encodeRuneZ_one (by omega) (by omega)]
  rfl
theorem escape_len (l : List UInt8) (p : Nat) {l' : List UInt8} {q n : Nat} (h : escape l p = .ok l' q n) : (encodeRune (n : Int)).length + l'.length ≤ l.length := by
  have h4 := enc_len_le n
  unfold escape at h
  cases hh : half l p p with
  | no a b => rw [hh] at h; cases h
  | ok l1 p1 x =>
    have hl := half_len l p p hh
    rw [hh, R.bind_ok] at h
    split at h
    · cases h
    · split at h
      · cases h
        rcases hl with ⟨hn, hl⟩ | hl
        · rw [enc_len_one n hn]; omega
        · omega
      · rename_i h1 h2
        split at h
        · cases hh2 : half l1 p1 p with
          | no a b => rw [hh2] at h; cases h
          | ok l2 p2 y =>
            have hl2 := half_len l1 p1 p hh2
            rw [hh2, R.bind_ok] at h
            split at h
            · cases h
            · cases h
              rcases hl with ⟨hn, hl⟩ | hl
              · omega
              · rcases hl2 with ⟨hn, hl2⟩ | hl2 <;> omega
        · cases h
theorem textGo_len : ∀ (f : Nat) (l : List UInt8) (p : Nat) (out : List UInt8) {l' : List UInt8} {q : Nat} {s : List UInt8}, textGo f l p out = .ok l' q s → s.length + l'.length + 1 ≤ out.length + l.length
  | 0, l, p, out, _, _, _, h => by cases h
  | f + 1, [], p, out, _, _, _, h => by cases h
  | f + 1, c :: r, p, out, _, _, _, h => by
    rw [textGo_cons] at h
    split at h
    · cases h; rw [List.length_cons]; omega
    · split at h
      · cases h
      · split at h
        · cases he : escape (c :: r) p with
          | no a b => rw [he] at h; cases h
          | ok l1 p1 n =>
            rw [he, R.bind_ok] at h
            have h1 := escape_len _ _ he
            have h2 := textGo_len f l1 p1 _ h
            rw [List.length_append] at h2
            omega
        · split at h
          · cases h
          · have h2 := textGo_len f _ _ _ h
            rw [List.length_append, List.length_take, List.length_drop] at h2
            omega
theorem text_len' (l : List UInt8) (p : Nat) {l' : List UInt8} {q : Nat} {s : List UInt8} (h : text l p = .ok l' q s) : s.length + l'.length + 1 ≤ l.length := by
  have := textGo_len _ l p [] h
  rw [List.length_nil] at this
  omega
theorem number_len {c : UInt8} {r : List UInt8} (hc : c = 45 ∨ (48 ≤ c.toNat ∧ c.toNat ≤ 57)) (p : Nat) {l' : List UInt8} {q : Nat} {n : Int} (h : number (c :: r) p = .ok l' q n) : l'.length + 1 ≤ (c :: r).length := by
  have hb : numByte c = true := by
    unfold numByte
    rcases hc with rfl | ⟨h1, h2⟩
    · rfl
    · rw [decide_eq_true h1, decide_eq_true h2]; simp
  have hn : 1 ≤ numLen (c :: r) := by rw [numLen, if_pos hb]; omega
  unfold number at h
  split at h
  · cases h
    have hle := numLen_le (c :: r)
    rw [List.length_drop]
    rw [List.length_cons] at hle ⊢
    omega
  · cases h
theorem put_len {t : List S39} {fr : Nat} {v : S39} {l : List UInt8} {p : Nat} {l' : List UInt8} {q : Nat} {x : List S39 × Int} (h : put t fr v l p = .ok l' q x) : l' = l ∧ C x.1 = C t + Rd.cost v := by
  unfold put at h
  split at h
  · cases h
  · cases h; exact ⟨rfl, C_snoc t v⟩
def CV (f : Nat) : Prop := ∀ deep l p t l' q x, value f deep l p t = .ok l' q x → C x.1 + l'.length ≤ C t + l.length
def CL (f : Nat) : Prop := ∀ deep fr kids l p t l' q x, list f deep fr kids l p t = .ok l' q x → C x.1 + l'.length ≤ C t + l.length + kids.length + 1
def CO (f : Nat) : Prop := ∀ deep fr names kids l p t l' q x, object f deep fr names kids l p t = .ok l' q x → C x.1 + l'.length ≤ C t + l.length + kids.length + NC names + 1
theorem cost_leaf (f0 : Int) (f1 : Bool) (f2 : Int) (s : ByteArray) : Rd.cost ⟨f0, f1, f2, s, [], []⟩ = 1 + s.size := by unfold Rd.cost; simp
theorem cost_node (f0 : Int) (ns : List ByteArray) (ks : List Int) : Rd.cost ⟨f0, false, 0, ⟨#[]⟩, ns, ks⟩ = 1 + NC ns + ks.length := by
  unfold Rd.cost NC
  show 1 + 0 + (ns.map fun s => s.size + 1).sum + ks.length = 1 + (ns.map fun s => s.size + 1).sum + ks.length
  omega
theorem str_len (s : List UInt8) : (str s).size = s.length := by
  show s.toArray.size = _
  simp
theorem cost_value (f : Nat) (hl : CL f) (ho : CO f) : CV (f + 1) := by
  intro deep l0 p0 t l' q x h
  rw [value_succ] at h
  cases h0 : here l0 p0 with
  | no a b => rw [h0] at h; cases h
  | ok l p c =>
    rw [h0, R.bind_ok] at h
    obtain ⟨hle, r, rfl⟩ := here_len h0
    clear h0
    unfold valueOn at h
    split at h
    · cases hw : word [110, 117, 108, 108] (c :: r) p with
      | no a b => rw [hw] at h; cases h
      | ok l1 p1 u =>
        rw [hw, R.bind_ok] at h
        have := word_len _ _ _ hw
        obtain ⟨rfl, e⟩ := put_len h
        rw [cost_leaf] at e
        have : (⟨#[]⟩ : ByteArray).size = 0 := rfl
        simp only [List.length_cons, List.length_nil] at *
        omega
    split at h
    · cases hw : word [116, 114, 117, 101] (c :: r) p with
      | no a b => rw [hw] at h; cases h
      | ok l1 p1 u =>
        rw [hw, R.bind_ok] at h
        have := word_len _ _ _ hw
        obtain ⟨rfl, e⟩ := put_len h
        rw [cost_leaf] at e
        have : (⟨#[]⟩ : ByteArray).size = 0 := rfl
        simp only [List.length_cons, List.length_nil] at *
        omega
    split at h
    · cases hw : word [102, 97, 108, 115, 101] (c :: r) p with
      | no a b => rw [hw] at h; cases h
      | ok l1 p1 u =>
        rw [hw, R.bind_ok] at h
        have := word_len _ _ _ hw
        obtain ⟨rfl, e⟩ := put_len h
        rw [cost_leaf] at e
        have : (⟨#[]⟩ : ByteArray).size = 0 := rfl
        simp only [List.length_cons, List.length_nil] at *
        omega
    split at h
    · rw [List.tail_cons] at h
      cases hw : text r (p + 1) with
      | no a b => rw [hw] at h; cases h
      | ok l1 p1 s =>
        rw [hw, R.bind_ok] at h
        have := text_len' _ _ hw
        obtain ⟨rfl, e⟩ := put_len h
        rw [cost_leaf, str_len] at e
        rw [List.length_cons] at hle
        omega
    split at h
    · rename_i hc
      cases hw : number (c :: r) p with
      | no a b => rw [hw] at h; cases h
      | ok l1 p1 n =>
        rw [hw, R.bind_ok] at h
        have := number_len hc _ hw
        obtain ⟨rfl, e⟩ := put_len h
        rw [cost_leaf] at e
        have : (⟨#[]⟩ : ByteArray).size = 0 := rfl
        omega
    split at h
    case isFalse => cases h
    split at h
    · cases h
    rw [List.length_cons] at hle
    split at h
    · unfold listF at h
      rw [List.tail_cons] at h
      cases h1 : here r (p + 1) with
      | no a b => rw [h1] at h; cases h
      | ok k q1 c1 =>
        rw [h1, R.bind_ok] at h
        obtain ⟨hk, r1, rfl⟩ := here_len h1
        split at h
        · obtain ⟨e1, e⟩ := put_len h
          rw [List.tail_cons] at e1
          subst e1
          rw [cost_leaf] at e
          have : (⟨#[]⟩ : ByteArray).size = 0 := rfl
          rw [List.length_cons] at hk
          omega
        · have := hl _ _ _ _ _ _ _ _ _ h
          rw [List.length_nil] at this
          omega
    · unfold objectF at h
      rw [List.tail_cons] at h
      cases h1 : here r (p + 1) with
      | no a b => rw [h1] at h; cases h
      | ok k q1 c1 =>
        rw [h1, R.bind_ok] at h
        obtain ⟨hk, r1, rfl⟩ := here_len h1
        split at h
        · obtain ⟨e1, e⟩ := put_len h
          rw [List.tail_cons] at e1
          subst e1
          rw [cost_leaf] at e
          have : (⟨#[]⟩ : ByteArray).size = 0 := rfl
          rw [List.length_cons] at hk
          omega
        · have := ho _ _ _ _ _ _ _ _ _ _ h
          have hz : NC [] = 0 := rfl
          rw [List.length_nil, hz] at this
          omega
theorem cost_list (f : Nat) (hv : CV f) (hl : CL f) : CL (f + 1) := by
  intro deep fr kids l p t l' q x h
  rw [list_succ] at h
  cases he : value f (deep + 1) l p t with
  | no a b => rw [he] at h; cases h
  | ok l1 p1 v =>
    rw [he, R.bind_ok] at h
    have h1 := hv _ _ _ _ _ _ _ he
    cases hm : more 93 l1 p1 with
    | no a b => rw [hm] at h; cases h
    | ok l2 p2 d =>
      rw [hm, R.bind_ok] at h
      have h2 := more_adv _ _ _ hm
      cases d with
      | true =>
        rw [if_pos rfl] at h
        obtain ⟨rfl, e⟩ := put_len h
        have hz : NC [] = 0 := rfl
        rw [cost_node, hz, List.length_append, List.length_singleton] at e
        omega
      | false =>
        rw [if_neg (by decide)] at h
        have := hl _ _ _ _ _ _ _ _ _ h
        rw [List.length_append, List.length_singleton] at this
        omega
theorem cost_object (f : Nat) (hv : CV f) (ho : CO f) : CO (f + 1) := by
  intro deep fr names kids l p t l' q x h
  rw [object_succ] at h
  cases h0 : here l p with
  | no a b => rw [h0] at h; cases h
  | ok k0 q0 c0 =>
    rw [h0, R.bind_ok] at h
    obtain ⟨hk0, r0, rfl⟩ := here_len h0
    rw [List.length_cons] at hk0
    split at h
    case isFalse => cases h
    case isTrue =>
      rw [List.tail_cons] at h
      cases h1 : text r0 (q0 + 1) with
      | no a b => rw [h1] at h; cases h
      | ok k1 q1 s =>
        rw [h1, R.bind_ok] at h
        have hs := text_len' _ _ h1
        split at h
        case isTrue => cases h
        case isFalse =>
          cases h2 : here k1 q1 with
          | no a b => rw [h2] at h; cases h
          | ok k2 q2 c2 =>
            rw [h2, R.bind_ok] at h
            obtain ⟨hk2, r2, rfl⟩ := here_len h2
            rw [List.length_cons] at hk2
            split at h
            case isFalse => cases h
            case isTrue =>
              rw [List.tail_cons] at h
              cases he : value f (deep + 1) r2 (q2 + 1) t with
              | no a b => rw [he] at h; cases h
              | ok l1 p1 v =>
                rw [he, R.bind_ok] at h
                have hv1 := hv _ _ _ _ _ _ _ he
                cases hm : more 125 l1 p1 with
                | no a b => rw [hm] at h; cases h
                | ok l2 p2 d =>
                  rw [hm, R.bind_ok] at h
                  have hm1 := more_adv _ _ _ hm
                  cases d with
                  | true =>
                    rw [if_pos rfl] at h
                    obtain ⟨rfl, e⟩ := put_len h
                    rw [cost_node, NC_snoc, str_len, List.length_append, List.length_singleton] at e
                    omega
                  | false =>
                    rw [if_neg (by decide)] at h
                    have := ho _ _ _ _ _ _ _ _ _ _ h
                    rw [NC_snoc, str_len, List.length_append, List.length_singleton] at this
                    omega
theorem cost_all : ∀ f, CV f ∧ CL f ∧ CO f
  | 0 => ⟨fun _ _ _ _ _ _ _ h => by rw [value] at h; (cases h), fun _ _ _ _ _ _ _ _ _ h => by rw [list] at h; (cases h), fun _ _ _ _ _ _ _ _ _ _ h => by rw [object] at h; (cases h)⟩
  | f + 1 => by
    obtain ⟨hv, hl, ho⟩ := cost_all f
    exact ⟨cost_value f hl ho, cost_list f hv hl, cost_object f hv ho⟩
/-- What is read costs no more than its text. -/
theorem parse_cost (b : List UInt8) {l : List UInt8} {p : Nat} {t : List S39} (h : parse b = .ok l p t) : (t.map Rd.cost).sum ≤ b.length := by
  unfold parse at h
  split at h
  · cases h
  · cases hv : value (2 * b.length + 2) 0 b 0 [] with
    | no a c => rw [hv] at h; cases h
    | ok l1 q v =>
      rw [hv, R.bind_ok] at h
      have := (cost_all _).1 _ _ _ _ _ _ _ hv
      split at h
      · cases h
        have hz : C [] = 0 := rfl
        rw [hz] at this
        show C v.1 ≤ _
        omega
      · cases h
end Go.Proofs.YtldlkoncndlbhaaDoor.Js
set_option linter.unusedVariables false
set_option linter.unusedSimpArgs false
namespace Go.Proofs.YtldlkoncndlbhaaDoor.Js
open Go.RowKit Go.Lib Go.Proofs.YtldlkoncndlbhaaDoor.PSh Go.Proofs.YtldlkoncndlbhaaDoor.Np
section
variable {α β : Type} {x : List UInt8}
/-- What is read is read with more bytes behind too. -/
def Ext (x : List UInt8) (r r' : R α) : Prop := ∀ l q v, r = .ok l q v → r' = .ok (l ++ x) q v
/-- The same, where something is left. -/
def Exl (x : List UInt8) (r r' : R α) : Prop := ∀ l q v, l ≠ [] → r = .ok l q v → r' = .ok (l ++ x) q v
end
section
variable (x : List UInt8)
end
end Go.Proofs.YtldlkoncndlbhaaDoor.Js
set_option linter.unusedVariables false
set_option linter.unusedSimpArgs false
namespace Go.Proofs.YtldlkoncndlbhaaDoor.Js
open Go.RowKit Go.Lib Go.Proofs.YtldlkoncndlbhaaDoor.PSh Go.Proofs.YtldlkoncndlbhaaDoor.Np
/-- What is left is an end of what was given. -/
def Sfx {α : Type} (l : List UInt8) (r : R α) : Prop := ∀ l' q v, r = .ok l' q v → l' <:+ l
section
variable {α β : Type} {l : List UInt8}
end
/-! The bracket behind -/
/-- Behind a bracket that closes. -/
def Closed {α : Type} (l : List UInt8) (r : R α) : Prop := ∀ l' q v, r = .ok l' q v → ∃ c, (c = 93 ∨ c = 125) ∧ c :: l' <:+ l
/-- What 'parse' answers: nothing is left; or a fault within, with a number. -/
theorem parse_shape (b : List UInt8) : (∃ t, parse b = .ok [] 0 t) ∨ (∃ p e, parse b = .no p e ∧ e ≠ 0 ∧ p ≤ 65536) := by
  unfold parse
  split
  · exact .inr ⟨_, _, rfl, by decide, by decide⟩
  · rename_i hb
    have hg := (good_all (2 * b.length + 2)).1 b.length 0 b 0 [] (by omega)
    cases hv : value (2 * b.length + 2) 0 b 0 [] with
    | no p e =>
      rw [hv] at hg
      exact .inr ⟨p, e, rfl, hg.2, by have := hg.1; omega⟩
    | ok l q v =>
      rw [hv] at hg
      have hq : q + l.length = b.length := hg
      have := gap_len_le l
      rw [R.bind_ok]
      split
      · exact .inl ⟨_, rfl⟩
      · exact .inr ⟨_, _, rfl, by decide, by omega⟩
end Go.Proofs.YtldlkoncndlbhaaDoor.Js
