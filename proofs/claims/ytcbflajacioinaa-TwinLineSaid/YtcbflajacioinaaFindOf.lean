/- find: a machine's finder. -/
import Derived.Test.YtcbflajacioinaaFindMany
namespace Go.Proofs.Ytcbflajacioinaa
open Go.RowKit Go.Shelf Go.Proofs.YtcbflajacioinaaW.PrintWords Go.Proofs.YtcbflajacioinaaW.PrintLast

/-- A finder that was made behind a world: its block, its map's. -/
def MadeAt (w w' : World) (A : Option Addr) (n c : Nat) (s : ByteArray) (g gm : Nat) : Prop := FndAt w' g A n c s gm ∧ MapAt w' gm 0 (.map []) ∧ w.heap.size ≤ gm ∧ w.heap.size ≤ g ∧ g ≠ gm

set_option maxRecDepth 100000 in
set_option maxHeartbeats 1000000 in
theorem of_none (m : List Node) (s : ByteArray) (A : Option Addr) (c : Nat) (hN : ∀ x ∈ m, NodeOk x) (hM : mayB m = false) (w : World) (hC : kNode.C w A m.length m) :
    Calls Try.prog 29 #[.slice A m.length c, .string s] w fun e w' => e = .returned (.pointer none) ∧ RowKit.Below w.heap.size w w' := by
  have hm : m.length ≤ 9223372036854775807 := hC.2.1
  go_enter Try.func29, Try.ntmps29
  go_wp2_with (go_at_call 39; refine (may_calls A c m hN _ hC hm).mono ?_; rintro e w2 ⟨rfl, hb2⟩)
  go_ret
  exact ⟨rfl, hb2⟩

set_option maxRecDepth 100000 in
set_option maxHeartbeats 1000000 in
theorem of_some (m : List Node) (s : ByteArray) (A : Option Addr) (c : Nat) (hN : ∀ x ∈ m, NodeOk x) (hM : mayB m = true) (w : World) (hC : kNode.C w A m.length m) :
    Calls Try.prog 29 #[.slice A m.length c, .string s] w fun e w' => ∃ g gm, e = .returned (.pointer (some ⟨g, 0, none⟩)) ∧ MadeAt w w' A m.length c s g gm ∧ RowKit.Below w.heap.size w w' := by
  have hm : m.length ≤ 9223372036854775807 := hC.2.1
  have hmm := @run_makeMap Try.prog
  go_enter Try.func29, Try.ntmps29
  go_wp2_with (go_at_call 39; refine (may_calls A c m hN _ hC hm).mono ?_; rintro e w2 ⟨rfl, hb2⟩)
  go_ret
  have h1 := World.ownsMap_made w2 Try.prog 68 (plainElem (H := Value) Try.prog 3)
  have hb3 := hb2.alloc hb2.size (.map #[] 0)
  have hb4 := hb3.alloc (by rw [World.size_alloc]; have := hb2.size; omega) (.cells #[.slice A m.length c, .string s, .map (some w2.heap.size)] 85)
  refine ⟨w2.heap.size + 1, w2.heap.size, rfl, ⟨?_, World.ownsMap.alloc h1 _, hb2.size, Nat.le_succ_of_le hb2.size, by omega⟩, hb4⟩
  have := Blk.new (w2.alloc (.map #[] 0)) 85 #[.slice A m.length c, .string s, .map (some w2.heap.size)]
  rw [World.size_alloc] at this
  exact this

def manyOut (m : List Node) (s : ByteArray) (k : Int) : Int := if mayB m = true ∧ 1 ≤ k then min k (manyP m s ⟨0, 0⟩) else 0

set_option maxRecDepth 100000 in
set_option maxHeartbeats 1000000 in
theorem findMany_calls (m : List Node) (s : ByteArray) (A : Option Addr) (c : Nat) (k : Int) (hN : ∀ x ∈ m, NodeOk x) (hs : s.size ≤ 9223372036854775807) (hfew : m.length * (s.size + 1) < maxLen) (w : World) (hC : kNode.C w A m.length m) :
    Calls Try.prog 18 #[.slice A m.length c, .string s, .int .i64 k] w fun e w' => e = .returned (.int .i64 (manyOut m s k)) ∧ RowKit.Below w.heap.size w w' := by
  cases hM : mayB m
  · have hr : manyOut m s k = 0 := by unfold manyOut; rw [if_neg (by rw [hM]; simp)]
    rw [hr]
    go_enter Try.func18, Try.ntmps18
    go_wp2_with (go_at_call 29; refine (of_none m s A c hN hM _ hC).mono ?_; rintro e w2 ⟨rfl, hb2⟩)
    go_ret
    exact ⟨rfl, hb2⟩
  · by_cases hk : 1 ≤ k
    · have hr : manyOut m s k = min k (manyP m s ⟨0, 0⟩) := by unfold manyOut; rw [if_pos ⟨hM, hk⟩]
      rw [hr]
      have d1 : decide (k < 1) = false := decide_eq_false (by omega)
      have hin : InP m s ⟨0, 0⟩ := ⟨Int.le_refl _, by have := mayB_len hM; dsimp only; omega, Int.le_refl _, by dsimp only; omega⟩
      go_enter Try.func18, Try.ntmps18
      go_wp2_with (first
        | (go_at_call 29; refine (of_some m s A c hN hM _ hC).mono ?_; rintro e w2 ⟨g, gm, rfl, hmade, hb2⟩)
        | (go_at_call 30; refine (many_calls m s A c g gm hN hM hs hfew hmade.2.2.2.2 w hmade.2.2.1 hC _ ⟨0, 0⟩ (Nat.lt_succ_self _) hin _ 0 _ hb2 hmade.1 hmade.2.1 ⟨fun q _ h => by simp [Maps.has] at h, Nat.zero_le _⟩).mono ?_; rintro e w3 ⟨rfl, hg3, _⟩))
      go_ret
      exact ⟨rfl, hb2.grown hg3 hb2.size (fun j hj => by cases hj; exact hmade.2.2.1)⟩
    · have hr : manyOut m s k = 0 := by unfold manyOut; rw [if_neg (by omega)]
      rw [hr]
      have d1 : decide (k < 1) = true := decide_eq_true (by omega)
      go_enter Try.func18, Try.ntmps18
      go_wp2_with (go_at_call 29; refine (of_some m s A c hN hM _ hC).mono ?_; rintro e w2 ⟨g, gm, rfl, hmade, hb2⟩)
      go_ret
      exact ⟨rfl, hb2⟩

end Go.Proofs.Ytcbflajacioinaa
