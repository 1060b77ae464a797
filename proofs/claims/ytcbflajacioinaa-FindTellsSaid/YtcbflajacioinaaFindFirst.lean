/- find: the first way. -/
import Derived.Test.YtcbflajacioinaaFindWay
namespace Go.Proofs.Ytcbflajacioinaa
open Go.RowKit Go.Shelf Go.Proofs.YtcbflajacioinaaW.PrintWords Go.Proofs.YtcbflajacioinaaW.PrintLast

set_option maxRecDepth 100000 in
set_option maxHeartbeats 1000000 in
theorem first_bad (m : List Node) (s : ByteArray) (A : Option Addr) (c : Nat) (hN : ∀ x ∈ m, NodeOk x) (hs : s.size ≤ 9223372036854775807) (hfew : m.length * (s.size + 1) < maxLen) (hk : ¬ wayOk m s 0) (w : World) (hC : kNode.C w A m.length m) :
    Calls Try.prog 15 #[.slice A m.length c, .string s] w fun e w' => e = .returned (.tuple #[.slice none 0 0, .bool false]) ∧ RowKit.Below w.heap.size w w' := by
  go_enter Try.func15, Try.ntmps15
  go_wp2_with (go_at_call 12; refine (way_bad m s A c 0 hN hs hfew hk _ hC).mono ?_; rintro e w2 ⟨rfl, hb2⟩)
  go_ret2
  exact ⟨rfl, hb2⟩

set_option maxRecDepth 100000 in
set_option maxHeartbeats 1000000 in
theorem first_good (m : List Node) (s : ByteArray) (A : Option Addr) (c : Nat) (hN : ∀ x ∈ m, NodeOk x) (hs : s.size ≤ 9223372036854775807) (hfew : m.length * (s.size + 1) < maxLen) (hmu : muP m s ⟨0, 0⟩ ≤ 1000000000) (hk : wayOk m s 0) (w : World) (hC : kNode.C w A m.length m) :
    Calls Try.prog 15 #[.slice A m.length c, .string s] w fun e w' => ∃ v, e = .returned (.tuple #[v, .bool true]) ∧ w'.ownsRow w.heap.size 31 2 v (wayP m s ⟨0, 0⟩ 0).length ((wayP m s ⟨0, 0⟩ 0).flatMap encHit) ∧ RowKit.Below w.heap.size w w' := by
  go_enter Try.func15, Try.ntmps15
  go_wp2_with (go_at_call 12; refine (way_good m s A c 0 hN hs hfew hmu hk _ hC).mono ?_; rintro e w2 ⟨v, rfl, hown, hb2⟩)
  go_ret2
  exact ⟨_, rfl, hown, hb2⟩

end Go.Proofs.Ytcbflajacioinaa
