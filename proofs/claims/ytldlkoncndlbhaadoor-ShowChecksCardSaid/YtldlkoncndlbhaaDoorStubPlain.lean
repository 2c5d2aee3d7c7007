/- The contracts of show.plain and of the document's UTF, walked by hand, in the printed texts' form. -/
import Derived.Test.YtldlkoncndlbhaaDoorPShx0
import Derived.Test.YtldlkoncndlbhaaDoorPlain
import Derived.Test.YtldlkoncndlbhaaDoorUtf
import Derived.Test.YtldlkoncndlbhaaDoorGlob
set_option linter.unusedVariables false
namespace Go.Proofs.YtldlkoncndlbhaaDoor.PSh
open Go.RowKit Go.Proofs.YtldlkoncndlbhaaDoor.Utf Go.Proofs.YtldlkoncndlbhaaDoor.Pl Go.Proofs.YtldlkoncndlbhaaDoorW.PrintWords

def haulierref03_UTF.f (a0 : ByteArray) : Option Bool := if a0.size ≤ 140737488351232 then some (utf a0.data.toList) else none
theorem haulierref03_UTF.calls (a0 : ByteArray) (r : Bool) (w : World) (hG : Aside0 (Glob w)) (h : haulierref03_UTF.f a0 = some r) :
    Calls Tryd.prog 20 #[.string a0] w fun e w' => e = .returned (.bool r) ∧ Below w.heap.size w w' := by
  unfold haulierref03_UTF.f at h
  split at h
  · rename_i hs
    obtain rfl := Option.some.inj h
    exact PRa.utf_walk a0 w hG hs
  · cases h

/-- The sizes at which 'plain' is walked. -/
def plainOk (a3 : ByteArray) (l4 : List ByteArray) : Prop := (∀ s ∈ l4, s.size ≤ 140737488355328) ∧ a3.size ≤ 140737488355328 ∧ l4.length ≤ 140737488355328
instance (a3 : ByteArray) (l4 : List ByteArray) : Decidable (plainOk a3 l4) := by unfold plainOk; infer_instance
def show_plain.f (a0_0 : Int) (a0_1 : Bool) (a0_2 : Int) (a0_3 : ByteArray) (l0_4 : List ByteArray) (l0_5 : List Int) : Option Bool := if plainOk a0_3 l0_4 then some (plainB a0_0 a0_1 a0_2 a0_3 l0_4 l0_5) else none
theorem show_plain.calls (a0_0 : Int) (a0_1 : Bool) (a0_2 : Int) (a0_3 : ByteArray) (A0_4 : Option Addr) (c0_4 : Nat) (l0_4 : List ByteArray) (A0_5 : Option Addr) (c0_5 : Nat) (l0_5 : List Int) (r : Bool) (w : World) (hG : Aside0 (Glob w))
    (hr0_4 : Kd.string.C w A0_4 l0_4.length l0_4) (hc0_4 : l0_4.length ≤ c0_4) (hr0_5 : (Kd.int .i64).C w A0_5 l0_5.length l0_5) (hc0_5 : l0_5.length ≤ c0_5) (h : show_plain.f a0_0 a0_1 a0_2 a0_3 l0_4 l0_5 = some r) :
    Calls Tryd.prog 22 #[.agg #[.int .i64 a0_0, .bool a0_1, .int .i64 a0_2, .string a0_3, .slice A0_4 l0_4.length c0_4, .slice A0_5 l0_5.length c0_5]] w fun e w' => e = .returned (.bool r) ∧ Below w.heap.size w w' := by
  unfold show_plain.f at h
  split at h
  · rename_i hs
    obtain rfl := Option.some.inj h
    exact plain_walk _ _ _ _ _ _ _ _ _ _ w hr0_4 hc0_4 hs.1 hs.2.1 hs.2.2 hG.out.2
  · cases h

end Go.Proofs.YtldlkoncndlbhaaDoor.PSh
