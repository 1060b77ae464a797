/- The map of a finder: its keys. -/
import Derived.DeepKeys5
import Derived.Maps.Keyed
import Derived.Maps.OwnSet
import Derived.Maps.AppendAt
import Derived.Test.YtcbflajacioinaaMachMay
namespace Go.Proofs.Ytcbflajacioinaa
open Go.RowKit Go.Proofs.YtcbflajacioinaaW.PrintWords Go.Proofs.YtcbflajacioinaaW.PrintLast

theorem laidOut : laidOutB Try.prog = true := by kernel_rfl
theorem placeLaw : Maps.Keyed Try.prog 68 := Maps.Keyed.of_law (deep_law_gate laidOut (of_decide_eq_true (by kernel_rfl)) (of_decide_eq_true (by kernel_rfl)) (by kernel_rfl) (by kernel_rfl))
def placeKey (a b : Int) : Lit := .string (keyBytes [.int .i64 a, .int .i64 b])
theorem key_place (a b : Int) (ha : (Lit.int .i64 a).wf = true) (hb : (Lit.int .i64 b).wf = true) : keyOf Try.prog 68 (.agg #[.int .i64 a, .int .i64 b]) = some (placeKey a b) := by
  have c2 : Try.prog.cellsOf 68 = 2 := by kernel_rfl
  have c1 : Try.prog.cellsOf 3 = 1 := by kernel_rfl
  have hf : Value.formed Try.prog 68 (.agg #[.int .i64 a, .int .i64 b]) = true := by simp [Value.formed, Try.underlying68, c2]
  have hl : ∀ d, Try.prog.keyLits (d + 2) 68 [.int .i64 a, .int .i64 b] = some [.int .i64 a, .int .i64 b] := fun d => by
    simp [Program.keyLits, Try.underlying68, Try.underlying3, c2, c1, ha, hb]
  obtain ⟨d, hd⟩ : ∃ d, Try.prog.types.size + 1 = d + 2 := ⟨Try.prog.types.size - 1, by have : 1 ≤ Try.prog.types.size := of_decide_eq_true (by kernel_rfl); omega⟩
  unfold keyOf
  rw [Try.underlying68]
  dsimp only
  rw [show Try.prog.keyType 68 = true from by kernel_rfl, hf, hd]
  simp only [Value.cells, hl, Bool.and_self, if_true, Option.map_some]
  rfl
theorem placeKey_inj {a b c d : Int} (ha : (Lit.int .i64 a).wf = true) (hb : (Lit.int .i64 b).wf = true) (hc : (Lit.int .i64 c).wf = true) (hd : (Lit.int .i64 d).wf = true) (h : placeKey a b = placeKey c d) : a = c ∧ b = d := by
  have h1 := key_place a b ha hb
  have h2 := key_place c d hc hd
  rw [← h] at h2
  have h3 := placeLaw.inj h1 h2
  injection h3 with h3
  simp at h3
  exact h3
theorem zeroInt (w : World) : (zeroValue 3).run Try.prog w = .ok (.int .i64 0) w := by kernel_rfl

end Go.Proofs.Ytcbflajacioinaa
