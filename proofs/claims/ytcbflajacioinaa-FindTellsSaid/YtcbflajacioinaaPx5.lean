-- Written by wip/hyprint.sh over the kit's printer, then by wip/own_print.py; Lean checks it.
import Derived.Test.YtcbflajacioinaaPx0
import Derived.Test.YtcbflajacioinaaPx3
import Derived.Test.YtcbflajacioinaaPx4
namespace Go.Proofs.Ytcbflajacioinaa.P
open Go.RowKit Go.Proofs.YtcbflajacioinaaW.PrintWords Go.Proofs.YtcbflajacioinaaW.PrintLast Go.Proofs.YtcbflajacioinaaW.PrintMore
attribute [local go_sem] max2_int min2_int max_two min_two max_three min_three max_four min_four   -- for this text's walks alone
set_option linter.unusedVariables false
set_option linter.unusedSimpArgs false

/-! ### phalaroperef17_Way: function 14 -/
mutual
def phalaroperef17_Way.j0 : Nat → List (S35) → ByteArray → Int → Bool → Option ((List (S75)) × Bool)
  | 0, _, _, _, _ => none
  | k + 1, x0, x1, x2, x25 => if x25 = true then (some (([] : List (S75)), false)) else ((phalaroperef17_Table.f k x0 x1).bind fun t140 => (if 0 < (t140.length : Int) then (if 0 < ((rd_L4 t140 0).length : Int) then (if x2 ≥ (rd (rd_L4 t140 0) 0) then (some (([] : List (S75)), false)) else (phalaroperef17_Way.l0 k x0 x1 x2 t140 ([] : List (S75)) 0 0)) else (none)) else (none)))
def phalaroperef17_Way.l0 : Nat → List (S35) → ByteArray → Int → List (List Int) → List (S75) → Int → Int → Option ((List (S75)) × Bool)
  | 0, _, _, _, _, _, _, _ => none
  | k + 1, x0, x1, x2, x8, x9, x10, x11 => if 0 ≤ x11 then (if x11 < (x0.length : Int) then (if ((rd_T35 x0 x11).f0) = 4 then (some (x9, true)) else (if ((rd_T35 x0 x11).f0) = 3 then (if x9.length < 8796093022208 then (phalaroperef17_Way.j2 k x0 x1 x2 x8 (x9 ++ [(⟨(rd_T35 x0 x11).f3, x10⟩ : S75)]) x10 ((rd_T35 x0 x11).f4) ((rd_T35 x0 x11).f0) ((rd_T35 x0 x11).f1) ((rd_T35 x0 x11).f2) ((rd_T35 x0 x11).f3) ((rd_T35 x0 x11).f4)) else (none)) else (phalaroperef17_Way.j2 k x0 x1 x2 x8 x9 x10 x11 ((rd_T35 x0 x11).f0) ((rd_T35 x0 x11).f1) ((rd_T35 x0 x11).f2) ((rd_T35 x0 x11).f3) ((rd_T35 x0 x11).f4)))) else (none)) else (none)
def phalaroperef17_Way.j2 : Nat → List (S35) → ByteArray → Int → List (List Int) → List (S75) → Int → Int → Int → List (S72) → List Int → Int → Int → Option ((List (S75)) × Bool)
  | 0, _, _, _, _, _, _, _, _, _, _, _, _ => none
  | k + 1, x0, x1, x2, x8, x9, x10, x11, x148000, x148001, x148002, x148003, x148004 => if x148000 = 2 then (phalaroperef17_Way.l1 k x0 x1 x2 x8 x9 x10 0 x148000 x148001 x148002 x148003 x148004) else (phalaroperef17_Way.j4 k x0 x1 x2 x8 x9 x10 x11 x148000 x148001 x148002 x148003 x148004)
def phalaroperef17_Way.j4 : Nat → List (S35) → ByteArray → Int → List (List Int) → List (S75) → Int → Int → Int → List (S72) → List Int → Int → Int → Option ((List (S75)) × Bool)
  | 0, _, _, _, _, _, _, _, _, _, _, _, _ => none
  | k + 1, x0, x1, x2, x8, x9, x10, x11, x148000, x148001, x148002, x148003, x148004 => if x148000 = 1 then (phalaroperef17_Way.l2 k x0 x1 x2 x8 x9 x10 x11 0 x148000 x148001 x148002 x148003 x148004) else (phalaroperef17_Way.l0 k x0 x1 x2 x8 x9 x10 x11)
def phalaroperef17_Way.l2 : Nat → List (S35) → ByteArray → Int → List (List Int) → List (S75) → Int → Int → Int → Int → List (S72) → List Int → Int → Int → Option ((List (S75)) × Bool)
  | 0, _, _, _, _, _, _, _, _, _, _, _, _, _ => none
  | k + 1, x0, x1, x2, x8, x9, x10, x11, x14, x148000, x148001, x148002, x148003, x148004 => if x14 < (x148001.length : Int) then (if 0 ≤ x10 then (if x10 < (x1.size : Int) then (if 0 ≤ x14 then (if (bt x1 x10) ≥ ((rd_T72 x148001 x14).f0) then (if (bt x1 x10) ≤ ((rd_T72 x148001 x14).f1) then (phalaroperef17_Way.l2 k x0 x1 x2 x8 x9 x10 ((rd_T72 x148001 x14).f2) (wrap64 (x14 + 1)) x148000 x148001 x148002 x148003 x148004) else (phalaroperef17_Way.l2 k x0 x1 x2 x8 x9 x10 x11 (wrap64 (x14 + 1)) x148000 x148001 x148002 x148003 x148004)) else (phalaroperef17_Way.l2 k x0 x1 x2 x8 x9 x10 x11 (wrap64 (x14 + 1)) x148000 x148001 x148002 x148003 x148004)) else (none)) else (none)) else (none)) else (phalaroperef17_Way.l0 k x0 x1 x2 x8 x9 (wrap64 (x10 + 1)) x11)
def phalaroperef17_Way.l1 : Nat → List (S35) → ByteArray → Int → List (List Int) → List (S75) → Int → Int → Int → List (S72) → List Int → Int → Int → Option ((List (S75)) × Bool)
  | 0, _, _, _, _, _, _, _, _, _, _, _, _ => none
  | k + 1, x0, x1, x2, x8, x9, x10, x13, x148000, x148001, x148002, x148003, x148004 => if 0 ≤ x10 then (if x10 < (x8.length : Int) then (if 0 ≤ x13 then (if x13 < (x148002.length : Int) then (if 0 ≤ (rd x148002 x13) then (if (rd x148002 x13) < ((rd_L4 x8 x10).length : Int) then (if x2 ≥ (rd (rd_L4 x8 x10) (rd x148002 x13)) then (phalaroperef17_Way.l1 k x0 x1 (wrap64 (x2 - (rd (rd_L4 x8 x10) (rd x148002 x13)))) x8 x9 x10 (wrap64 (x13 + 1)) x148000 x148001 x148002 x148003 x148004) else (phalaroperef17_Way.j4 k x0 x1 x2 x8 x9 x10 (rd x148002 x13) x148000 x148001 x148002 x148003 x148004)) else (none)) else (none)) else (none)) else (none)) else (none)) else (none)
end
def phalaroperef17_Way.f (k : Nat) (l0 : List (S35)) (a1 : ByteArray) (a2 : Int) : Option ((List (S75)) × Bool) := (phalaroperef16_May.f k l0).bind fun t139 => (if t139 = true then (if a2 < 0 then (phalaroperef17_Way.j0 k l0 a1 a2 true) else (phalaroperef17_Way.j0 k l0 a1 a2 (decide (a2 ≥ 1000)))) else (phalaroperef17_Way.j0 k l0 a1 a2 true))
theorem phalaroperef17_Way.mono_l : ∀ k, (∀ y0 y1 y2 y3, LeO (phalaroperef17_Way.j0 k y0 y1 y2 y3) (phalaroperef17_Way.j0 (k + 1) y0 y1 y2 y3)) ∧ (∀ y0 y1 y2 y3 y4 y5 y6, LeO (phalaroperef17_Way.l0 k y0 y1 y2 y3 y4 y5 y6) (phalaroperef17_Way.l0 (k + 1) y0 y1 y2 y3 y4 y5 y6)) ∧ (∀ y0 y1 y2 y3 y4 y5 y6 y7 y8 y9 y10 y11, LeO (phalaroperef17_Way.j2 k y0 y1 y2 y3 y4 y5 y6 y7 y8 y9 y10 y11) (phalaroperef17_Way.j2 (k + 1) y0 y1 y2 y3 y4 y5 y6 y7 y8 y9 y10 y11)) ∧ (∀ y0 y1 y2 y3 y4 y5 y6 y7 y8 y9 y10 y11, LeO (phalaroperef17_Way.j4 k y0 y1 y2 y3 y4 y5 y6 y7 y8 y9 y10 y11) (phalaroperef17_Way.j4 (k + 1) y0 y1 y2 y3 y4 y5 y6 y7 y8 y9 y10 y11)) ∧ (∀ y0 y1 y2 y3 y4 y5 y6 y7 y8 y9 y10 y11 y12, LeO (phalaroperef17_Way.l2 k y0 y1 y2 y3 y4 y5 y6 y7 y8 y9 y10 y11 y12) (phalaroperef17_Way.l2 (k + 1) y0 y1 y2 y3 y4 y5 y6 y7 y8 y9 y10 y11 y12)) ∧ (∀ y0 y1 y2 y3 y4 y5 y6 y7 y8 y9 y10 y11, LeO (phalaroperef17_Way.l1 k y0 y1 y2 y3 y4 y5 y6 y7 y8 y9 y10 y11) (phalaroperef17_Way.l1 (k + 1) y0 y1 y2 y3 y4 y5 y6 y7 y8 y9 y10 y11))
  | 0 => ⟨fun _ _ _ _ r h => by simp [phalaroperef17_Way.j0] at h, fun _ _ _ _ _ _ _ r h => by simp [phalaroperef17_Way.l0] at h, fun _ _ _ _ _ _ _ _ _ _ _ _ r h => by simp [phalaroperef17_Way.j2] at h, fun _ _ _ _ _ _ _ _ _ _ _ _ r h => by simp [phalaroperef17_Way.j4] at h, fun _ _ _ _ _ _ _ _ _ _ _ _ _ r h => by simp [phalaroperef17_Way.l2] at h, fun _ _ _ _ _ _ _ _ _ _ _ _ r h => by simp [phalaroperef17_Way.l1] at h⟩
  | k + 1 => by
    obtain ⟨ih0, ih1, ih2, ih3, ih4, ih5⟩ := phalaroperef17_Way.mono_l k
    refine ⟨?_, ?_, ?_, ?_, ?_, ?_⟩
    · intro y0 y1 y2 y3
      unfold phalaroperef17_Way.j0
      repeat' first
      | (with_reducible exact ih0 _ _ _ _)
      | (with_reducible exact ih1 _ _ _ _ _ _ _)
      | (with_reducible exact ih2 _ _ _ _ _ _ _ _ _ _ _ _)
      | (with_reducible exact ih3 _ _ _ _ _ _ _ _ _ _ _ _)
      | (with_reducible exact ih4 _ _ _ _ _ _ _ _ _ _ _ _ _)
      | (with_reducible exact ih5 _ _ _ _ _ _ _ _ _ _ _ _)
      | (with_reducible exact phalaroperef16_May.mono _ _)
      | (with_reducible exact phalaroperef17_Table.mono _ _ _)
      | (with_reducible exact LeO.refl _)
      | (with_reducible exact LeO.none _)
      | (with_reducible refine LeO.ite ?_ ?_)
      | (with_reducible refine LeO.bind ?_ (fun _ => ?_))
      | exact ih0 _ _ _ _
      | exact ih1 _ _ _ _ _ _ _
      | exact ih2 _ _ _ _ _ _ _ _ _ _ _ _
      | exact ih3 _ _ _ _ _ _ _ _ _ _ _ _
      | exact ih4 _ _ _ _ _ _ _ _ _ _ _ _ _
      | exact ih5 _ _ _ _ _ _ _ _ _ _ _ _
      | exact phalaroperef16_May.mono _ _
      | exact phalaroperef17_Table.mono _ _ _
      | exact LeO.none _
      | refine LeO.ite ?_ ?_
      | refine LeO.bind ?_ (fun _ => ?_)
    · intro y0 y1 y2 y3 y4 y5 y6
      unfold phalaroperef17_Way.l0
      repeat' first
      | (with_reducible exact ih0 _ _ _ _)
      | (with_reducible exact ih1 _ _ _ _ _ _ _)
      | (with_reducible exact ih2 _ _ _ _ _ _ _ _ _ _ _ _)
      | (with_reducible exact ih3 _ _ _ _ _ _ _ _ _ _ _ _)
      | (with_reducible exact ih4 _ _ _ _ _ _ _ _ _ _ _ _ _)
      | (with_reducible exact ih5 _ _ _ _ _ _ _ _ _ _ _ _)
      | (with_reducible exact phalaroperef16_May.mono _ _)
      | (with_reducible exact phalaroperef17_Table.mono _ _ _)
      | (with_reducible exact LeO.refl _)
      | (with_reducible exact LeO.none _)
      | (with_reducible refine LeO.ite ?_ ?_)
      | (with_reducible refine LeO.bind ?_ (fun _ => ?_))
      | exact ih0 _ _ _ _
      | exact ih1 _ _ _ _ _ _ _
      | exact ih2 _ _ _ _ _ _ _ _ _ _ _ _
      | exact ih3 _ _ _ _ _ _ _ _ _ _ _ _
      | exact ih4 _ _ _ _ _ _ _ _ _ _ _ _ _
      | exact ih5 _ _ _ _ _ _ _ _ _ _ _ _
      | exact phalaroperef16_May.mono _ _
      | exact phalaroperef17_Table.mono _ _ _
      | exact LeO.none _
      | refine LeO.ite ?_ ?_
      | refine LeO.bind ?_ (fun _ => ?_)
    · intro y0 y1 y2 y3 y4 y5 y6 y7 y8 y9 y10 y11
      unfold phalaroperef17_Way.j2
      repeat' first
      | (with_reducible exact ih0 _ _ _ _)
      | (with_reducible exact ih1 _ _ _ _ _ _ _)
      | (with_reducible exact ih2 _ _ _ _ _ _ _ _ _ _ _ _)
      | (with_reducible exact ih3 _ _ _ _ _ _ _ _ _ _ _ _)
      | (with_reducible exact ih4 _ _ _ _ _ _ _ _ _ _ _ _ _)
      | (with_reducible exact ih5 _ _ _ _ _ _ _ _ _ _ _ _)
      | (with_reducible exact phalaroperef16_May.mono _ _)
      | (with_reducible exact phalaroperef17_Table.mono _ _ _)
      | (with_reducible exact LeO.refl _)
      | (with_reducible exact LeO.none _)
      | (with_reducible refine LeO.ite ?_ ?_)
      | (with_reducible refine LeO.bind ?_ (fun _ => ?_))
      | exact ih0 _ _ _ _
      | exact ih1 _ _ _ _ _ _ _
      | exact ih2 _ _ _ _ _ _ _ _ _ _ _ _
      | exact ih3 _ _ _ _ _ _ _ _ _ _ _ _
      | exact ih4 _ _ _ _ _ _ _ _ _ _ _ _ _
      | exact ih5 _ _ _ _ _ _ _ _ _ _ _ _
      | exact phalaroperef16_May.mono _ _
      | exact phalaroperef17_Table.mono _ _ _
      | exact LeO.none _
      | refine LeO.ite ?_ ?_
      | refine LeO.bind ?_ (fun _ => ?_)
    · intro y0 y1 y2 y3 y4 y5 y6 y7 y8 y9 y10 y11
      unfold phalaroperef17_Way.j4
      repeat' first
      | (with_reducible exact ih0 _ _ _ _)
      | (with_reducible exact ih1 _ _ _ _ _ _ _)
      | (with_reducible exact ih2 _ _ _ _ _ _ _ _ _ _ _ _)
      | (with_reducible exact ih3 _ _ _ _ _ _ _ _ _ _ _ _)
      | (with_reducible exact ih4 _ _ _ _ _ _ _ _ _ _ _ _ _)
      | (with_reducible exact ih5 _ _ _ _ _ _ _ _ _ _ _ _)
      | (with_reducible exact phalaroperef16_May.mono _ _)
      | (with_reducible exact phalaroperef17_Table.mono _ _ _)
      | (with_reducible exact LeO.refl _)
      | (with_reducible exact LeO.none _)
      | (with_reducible refine LeO.ite ?_ ?_)
      | (with_reducible refine LeO.bind ?_ (fun _ => ?_))
      | exact ih0 _ _ _ _
      | exact ih1 _ _ _ _ _ _ _
      | exact ih2 _ _ _ _ _ _ _ _ _ _ _ _
      | exact ih3 _ _ _ _ _ _ _ _ _ _ _ _
      | exact ih4 _ _ _ _ _ _ _ _ _ _ _ _ _
      | exact ih5 _ _ _ _ _ _ _ _ _ _ _ _
      | exact phalaroperef16_May.mono _ _
      | exact phalaroperef17_Table.mono _ _ _
      | exact LeO.none _
      | refine LeO.ite ?_ ?_
      | refine LeO.bind ?_ (fun _ => ?_)
    · intro y0 y1 y2 y3 y4 y5 y6 y7 y8 y9 y10 y11 y12
      unfold phalaroperef17_Way.l2
      repeat' first
      | (with_reducible exact ih0 _ _ _ _)
      | (with_reducible exact ih1 _ _ _ _ _ _ _)
      | (with_reducible exact ih2 _ _ _ _ _ _ _ _ _ _ _ _)
      | (with_reducible exact ih3 _ _ _ _ _ _ _ _ _ _ _ _)
      | (with_reducible exact ih4 _ _ _ _ _ _ _ _ _ _ _ _ _)
      | (with_reducible exact ih5 _ _ _ _ _ _ _ _ _ _ _ _)
      | (with_reducible exact phalaroperef16_May.mono _ _)
      | (with_reducible exact phalaroperef17_Table.mono _ _ _)
      | (with_reducible exact LeO.refl _)
      | (with_reducible exact LeO.none _)
      | (with_reducible refine LeO.ite ?_ ?_)
      | (with_reducible refine LeO.bind ?_ (fun _ => ?_))
      | exact ih0 _ _ _ _
      | exact ih1 _ _ _ _ _ _ _
      | exact ih2 _ _ _ _ _ _ _ _ _ _ _ _
      | exact ih3 _ _ _ _ _ _ _ _ _ _ _ _
      | exact ih4 _ _ _ _ _ _ _ _ _ _ _ _ _
      | exact ih5 _ _ _ _ _ _ _ _ _ _ _ _
      | exact phalaroperef16_May.mono _ _
      | exact phalaroperef17_Table.mono _ _ _
      | exact LeO.none _
      | refine LeO.ite ?_ ?_
      | refine LeO.bind ?_ (fun _ => ?_)
    · intro y0 y1 y2 y3 y4 y5 y6 y7 y8 y9 y10 y11
      unfold phalaroperef17_Way.l1
      repeat' first
      | (with_reducible exact ih0 _ _ _ _)
      | (with_reducible exact ih1 _ _ _ _ _ _ _)
      | (with_reducible exact ih2 _ _ _ _ _ _ _ _ _ _ _ _)
      | (with_reducible exact ih3 _ _ _ _ _ _ _ _ _ _ _ _)
      | (with_reducible exact ih4 _ _ _ _ _ _ _ _ _ _ _ _ _)
      | (with_reducible exact ih5 _ _ _ _ _ _ _ _ _ _ _ _)
      | (with_reducible exact phalaroperef16_May.mono _ _)
      | (with_reducible exact phalaroperef17_Table.mono _ _ _)
      | (with_reducible exact LeO.refl _)
      | (with_reducible exact LeO.none _)
      | (with_reducible refine LeO.ite ?_ ?_)
      | (with_reducible refine LeO.bind ?_ (fun _ => ?_))
      | exact ih0 _ _ _ _
      | exact ih1 _ _ _ _ _ _ _
      | exact ih2 _ _ _ _ _ _ _ _ _ _ _ _
      | exact ih3 _ _ _ _ _ _ _ _ _ _ _ _
      | exact ih4 _ _ _ _ _ _ _ _ _ _ _ _ _
      | exact ih5 _ _ _ _ _ _ _ _ _ _ _ _
      | exact phalaroperef16_May.mono _ _
      | exact phalaroperef17_Table.mono _ _ _
      | exact LeO.none _
      | refine LeO.ite ?_ ?_
      | refine LeO.bind ?_ (fun _ => ?_)
theorem phalaroperef17_Way.mono : ∀ a0 a1 a2 k, LeO (phalaroperef17_Way.f k a0 a1 a2) (phalaroperef17_Way.f (k + 1) a0 a1 a2) := by
  intro a0 a1 a2 k
  obtain ⟨ih0, ih1, ih2, ih3, ih4, ih5⟩ := phalaroperef17_Way.mono_l k
  unfold phalaroperef17_Way.f
  repeat' first
      | (with_reducible exact ih0 _ _ _ _)
      | (with_reducible exact ih1 _ _ _ _ _ _ _)
      | (with_reducible exact ih2 _ _ _ _ _ _ _ _ _ _ _ _)
      | (with_reducible exact ih3 _ _ _ _ _ _ _ _ _ _ _ _)
      | (with_reducible exact ih4 _ _ _ _ _ _ _ _ _ _ _ _ _)
      | (with_reducible exact ih5 _ _ _ _ _ _ _ _ _ _ _ _)
      | (with_reducible exact phalaroperef16_May.mono _ _)
      | (with_reducible exact phalaroperef17_Table.mono _ _ _)
      | (with_reducible exact LeO.refl _)
      | (with_reducible exact LeO.none _)
      | (with_reducible refine LeO.ite ?_ ?_)
      | (with_reducible refine LeO.bind ?_ (fun _ => ?_))
      | exact ih0 _ _ _ _
      | exact ih1 _ _ _ _ _ _ _
      | exact ih2 _ _ _ _ _ _ _ _ _ _ _ _
      | exact ih3 _ _ _ _ _ _ _ _ _ _ _ _
      | exact ih4 _ _ _ _ _ _ _ _ _ _ _ _ _
      | exact ih5 _ _ _ _ _ _ _ _ _ _ _ _
      | exact phalaroperef16_May.mono _ _
      | exact phalaroperef17_Table.mono _ _ _
      | exact LeO.none _
      | refine LeO.ite ?_ ?_
      | refine LeO.bind ?_ (fun _ => ?_)
set_option maxHeartbeats 8000000 in
set_option maxRecDepth 100000 in
theorem phalaroperef17_Way.calls (k : Nat) (A0 : Option Addr) (c0 : Nat) (l0 : List (S35)) (a1 : ByteArray) (a2 : Int) (r1 : List (S75)) (r2 : Bool) (w : World) (hr0 : Kd.C k35 w A0 l0.length l0) (hc0 : l0.length ≤ c0) (h : phalaroperef17_Way.f k l0 a1 a2 = some (r1, r2)) :
    Calls Try.prog 14 #[.slice A0 l0.length c0, .string a1, .int .i64 a2] w fun e w' => ∃ v0_ : Value, e = .returned (.tuple #[v0_, .bool r2]) ∧ Kd.R k75 75 w' w.heap.size (fun _ => True) v0_ r1 ∧ Below w.heap.size w w' := by
  have hu35 := Try.underlying35
  have hu75 := Try.underlying75
  have HR0 := Aside0.mk hr0
  have HC0 := Aside0.mk hc0
  clear hr0 hc0
  have HB := Aside0.mk (Below.refl w.heap.size w)
  have H : ((phalaroperef16_May.f k l0).bind fun t139 => (if t139 = true then (if a2 < 0 then (phalaroperef17_Way.j0 k l0 a1 a2 true) else (phalaroperef17_Way.j0 k l0 a1 a2 (decide (a2 ≥ 1000)))) else (phalaroperef17_Way.j0 k l0 a1 a2 true))) = some (r1, r2) := h
  clear h
  have HC4 := Aside0.mk H
  clear H
  go_enter Try.func14, Try.ntmps14
  go_upto_region 1 with (fail)
  repeat (go_quiet (fail); go_upto_region 1 with (fail))
  go_cut [25] (fun v25 wc => ∃ (kq : Nat) (x25_3 : Bool), v25 = .bool x25_3 ∧ Aside0 (phalaroperef17_Way.j0 kq l0 a1 a2 x25_3 = some (r1, r2)) ∧ Aside0 (kq ≤ k) ∧ Aside0 (Below w.heap.size w wc))
  case first =>
    have H := HC4.out
    clear HC4
    replace H := Option.bind_eq_some_iff.mp H
    obtain ⟨t139, A50, H⟩ := H
    replace H : (if t139 = true then (if a2 < 0 then (phalaroperef17_Way.j0 k l0 a1 a2 true) else (phalaroperef17_Way.j0 k l0 a1 a2 (decide (a2 ≥ 1000)))) else (phalaroperef17_Way.j0 k l0 a1 a2 true)) = some (r1, r2) := H
    have A5 := Aside0.mk A50
    clear A50
    by_cases c6 : t139 = true
    · subst c6
      have H1 : (if a2 < 0 then (phalaroperef17_Way.j0 k l0 a1 a2 true) else (phalaroperef17_Way.j0 k l0 a1 a2 (decide (a2 ≥ 1000)))) = some (r1, r2) := by rw [if_pos rfl] at H; exact H
      clear H
      have H := H1
      clear H1
      by_cases c7 : a2 < 0
      · rw [if_pos c7] at H
        have c7b0 : decide (a2 < 0) = true := decide_eq_true c7
        clear c7
        (first | rw [c7b0] | (simp only [i64_w, i32_w]; rw [c7b0]) | skip)
        have H' := Aside0.mk H
        clear H
        go_wp2_with (first | (go_at_call 22; (with_reducible refine (phalaroperef16_May.calls k _ _ l0 true _ ?side1 ?side2 A5.out).mono ?_); (case side1 => repeat (first | exact (Kd.C_below HR0.out HB.out) | (with_reducible refine Kd.C_alloc ?_ _) | (with_reducible refine Kd.C_drewN ?_ _) | (with_reducible refine Kd.C_drew ?_))); (case side2 => exact HC0.out); rintro e w8 ⟨rfl, hb⟩; have n0_ := Aside0.mk (below_step (by repeat (first | (with_reducible first | exact HB.out | apply below_alloc | apply pw_below_drewN | apply below_drew1) | exact HB.out)) hb); clear HB; have HB := n0_; clear n0_; (try clear hb); (try clear hb2); (try clear hk); (try clear hi)))
        repeat (go_quiet (first | (go_at_call 22; (with_reducible refine (phalaroperef16_May.calls k _ _ l0 true _ ?side1 ?side2 A5.out).mono ?_); (case side1 => repeat (first | exact (Kd.C_below HR0.out HB.out) | (with_reducible refine Kd.C_alloc ?_ _) | (with_reducible refine Kd.C_drewN ?_ _) | (with_reducible refine Kd.C_drew ?_))); (case side2 => exact HC0.out); rintro e w8 ⟨rfl, hb⟩; have n0_ := Aside0.mk (below_step (by repeat (first | (with_reducible first | exact HB.out | apply below_alloc | apply pw_below_drewN | apply below_drew1) | exact HB.out)) hb); clear HB; have HB := n0_; clear n0_; (try clear hb); (try clear hb2); (try clear hk); (try clear hi))); try go_wp2_with (first | (go_at_call 22; (with_reducible refine (phalaroperef16_May.calls k _ _ l0 true _ ?side1 ?side2 A5.out).mono ?_); (case side1 => repeat (first | exact (Kd.C_below HR0.out HB.out) | (with_reducible refine Kd.C_alloc ?_ _) | (with_reducible refine Kd.C_drewN ?_ _) | (with_reducible refine Kd.C_drew ?_))); (case side2 => exact HC0.out); rintro e w8 ⟨rfl, hb⟩; have n0_ := Aside0.mk (below_step (by repeat (first | (with_reducible first | exact HB.out | apply below_alloc | apply pw_below_drewN | apply below_drew1) | exact HB.out)) hb); clear HB; have HB := n0_; clear n0_; (try clear hb); (try clear hb2); (try clear hk); (try clear hi))))
        go_meet
        case rel => exact ⟨_, (true), (by first | rfl | (simp; done) | (simp [*]; done)), H', ⟨by first | omega | exact Nat.le_refl _⟩, ⟨by repeat (first | (with_reducible first | exact HB.out | apply below_alloc | apply pw_below_drewN | apply below_drew1) | exact HB.out)⟩⟩
      · rw [if_neg c7] at H
        have c7b0 : decide (a2 < 0) = false := decide_eq_false c7
        clear c7
        (first | rw [c7b0] | (simp only [i64_w, i32_w]; rw [c7b0]) | skip)
        have H' := Aside0.mk H
        clear H
        go_wp2_with (first | (go_at_call 22; (with_reducible refine (phalaroperef16_May.calls k _ _ l0 true _ ?side1 ?side2 A5.out).mono ?_); (case side1 => repeat (first | exact (Kd.C_below HR0.out HB.out) | (with_reducible refine Kd.C_alloc ?_ _) | (with_reducible refine Kd.C_drewN ?_ _) | (with_reducible refine Kd.C_drew ?_))); (case side2 => exact HC0.out); rintro e w9 ⟨rfl, hb⟩; have n0_ := Aside0.mk (below_step (by repeat (first | (with_reducible first | exact HB.out | apply below_alloc | apply pw_below_drewN | apply below_drew1) | exact HB.out)) hb); clear HB; have HB := n0_; clear n0_; (try clear hb); (try clear hb2); (try clear hk); (try clear hi)))
        repeat (go_quiet (first | (go_at_call 22; (with_reducible refine (phalaroperef16_May.calls k _ _ l0 true _ ?side1 ?side2 A5.out).mono ?_); (case side1 => repeat (first | exact (Kd.C_below HR0.out HB.out) | (with_reducible refine Kd.C_alloc ?_ _) | (with_reducible refine Kd.C_drewN ?_ _) | (with_reducible refine Kd.C_drew ?_))); (case side2 => exact HC0.out); rintro e w9 ⟨rfl, hb⟩; have n0_ := Aside0.mk (below_step (by repeat (first | (with_reducible first | exact HB.out | apply below_alloc | apply pw_below_drewN | apply below_drew1) | exact HB.out)) hb); clear HB; have HB := n0_; clear n0_; (try clear hb); (try clear hb2); (try clear hk); (try clear hi))); try go_wp2_with (first | (go_at_call 22; (with_reducible refine (phalaroperef16_May.calls k _ _ l0 true _ ?side1 ?side2 A5.out).mono ?_); (case side1 => repeat (first | exact (Kd.C_below HR0.out HB.out) | (with_reducible refine Kd.C_alloc ?_ _) | (with_reducible refine Kd.C_drewN ?_ _) | (with_reducible refine Kd.C_drew ?_))); (case side2 => exact HC0.out); rintro e w9 ⟨rfl, hb⟩; have n0_ := Aside0.mk (below_step (by repeat (first | (with_reducible first | exact HB.out | apply below_alloc | apply pw_below_drewN | apply below_drew1) | exact HB.out)) hb); clear HB; have HB := n0_; clear n0_; (try clear hb); (try clear hb2); (try clear hk); (try clear hi))))
        go_meet
        case rel => exact ⟨_, (decide (a2 ≥ 1000)), (by first | rfl | (simp; done) | (simp [*]; done)), H', ⟨by first | omega | exact Nat.le_refl _⟩, ⟨by repeat (first | (with_reducible first | exact HB.out | apply below_alloc | apply pw_below_drewN | apply below_drew1) | exact HB.out)⟩⟩
    · replace c6 := Bool.eq_false_iff.mpr c6
      subst c6
      have H1 : (phalaroperef17_Way.j0 k l0 a1 a2 true) = some (r1, r2) := by rw [if_neg (show ¬ (false = true) by decide)] at H; exact H
      clear H
      have H := H1
      clear H1
      have H' := Aside0.mk H
      clear H
      go_wp2_with (first | (go_at_call 22; (with_reducible refine (phalaroperef16_May.calls k _ _ l0 false _ ?side1 ?side2 A5.out).mono ?_); (case side1 => repeat (first | exact (Kd.C_below HR0.out HB.out) | (with_reducible refine Kd.C_alloc ?_ _) | (with_reducible refine Kd.C_drewN ?_ _) | (with_reducible refine Kd.C_drew ?_))); (case side2 => exact HC0.out); rintro e w10 ⟨rfl, hb⟩; have n0_ := Aside0.mk (below_step (by repeat (first | (with_reducible first | exact HB.out | apply below_alloc | apply pw_below_drewN | apply below_drew1) | exact HB.out)) hb); clear HB; have HB := n0_; clear n0_; (try clear hb); (try clear hb2); (try clear hk); (try clear hi)))
      repeat (go_quiet (first | (go_at_call 22; (with_reducible refine (phalaroperef16_May.calls k _ _ l0 false _ ?side1 ?side2 A5.out).mono ?_); (case side1 => repeat (first | exact (Kd.C_below HR0.out HB.out) | (with_reducible refine Kd.C_alloc ?_ _) | (with_reducible refine Kd.C_drewN ?_ _) | (with_reducible refine Kd.C_drew ?_))); (case side2 => exact HC0.out); rintro e w10 ⟨rfl, hb⟩; have n0_ := Aside0.mk (below_step (by repeat (first | (with_reducible first | exact HB.out | apply below_alloc | apply pw_below_drewN | apply below_drew1) | exact HB.out)) hb); clear HB; have HB := n0_; clear n0_; (try clear hb); (try clear hb2); (try clear hk); (try clear hi))); try go_wp2_with (first | (go_at_call 22; (with_reducible refine (phalaroperef16_May.calls k _ _ l0 false _ ?side1 ?side2 A5.out).mono ?_); (case side1 => repeat (first | exact (Kd.C_below HR0.out HB.out) | (with_reducible refine Kd.C_alloc ?_ _) | (with_reducible refine Kd.C_drewN ?_ _) | (with_reducible refine Kd.C_drew ?_))); (case side2 => exact HC0.out); rintro e w10 ⟨rfl, hb⟩; have n0_ := Aside0.mk (below_step (by repeat (first | (with_reducible first | exact HB.out | apply below_alloc | apply pw_below_drewN | apply below_drew1) | exact HB.out)) hb); clear HB; have HB := n0_; clear n0_; (try clear hb); (try clear hb2); (try clear hk); (try clear hi))))
      go_meet
      case rel => exact ⟨_, (true), (by first | rfl | (simp; done) | (simp [*]; done)), H', ⟨by first | omega | exact Nat.le_refl _⟩, ⟨by repeat (first | (with_reducible first | exact HB.out | apply below_alloc | apply pw_below_drewN | apply below_drew1) | exact HB.out)⟩⟩
  case rest =>
    clear HC4
    try clear c1
    try clear p2
    try clear c6
    try clear c7
    try clear c7b0
    obtain ⟨kq, x25_3, rfl, HA, HJ3, HB⟩ := hcut
    cases kq with
    | zero => exact absurd HA.out (by simp [phalaroperef17_Way.j0])
    | succ kj3 =>
      have H := HA.out
      clear HA
      simp only [phalaroperef17_Way.j0] at H
      by_cases c11 : x25_3 = true
      · subst c11
        have H1 : (some (([] : List (S75)), false)) = some (r1, r2) := by rw [if_pos rfl] at H; exact H
        clear H
        have H := H1
        clear H1
        simp only [Option.some.injEq, Prod.mk.injEq] at H
        obtain ⟨rfl, rfl⟩ := H
        go_wp2
        repeat (go_quiet (fail); try go_wp2)
        go_ret2
        exact ⟨_, by first | rfl | (simp [errW_none, errW_some] <;> rfl) | (simp [*, errW_none, errW_some] <;> rfl), by first | exact Kd.R_nil _ _ _ _ _ | exact Kd.N_nil _ _ _ _ _ | exact Kd.V_nil _ _ _ _ _ | exact Kd.Q_nil _ _ _ _ _ | exact Kd.S_nil _ _ _ _ _, by repeat (first | (with_reducible first | exact HB.out | apply below_alloc | apply pw_below_drewN | apply below_drew1) | exact HB.out)⟩
      · replace c11 := Bool.eq_false_iff.mpr c11
        subst c11
        have H1 : ((phalaroperef17_Table.f kj3 l0 a1).bind fun t140 => (if 0 < (t140.length : Int) then (if 0 < ((rd_L4 t140 0).length : Int) then (if a2 ≥ (rd (rd_L4 t140 0) 0) then (some (([] : List (S75)), false)) else (phalaroperef17_Way.l0 kj3 l0 a1 a2 t140 ([] : List (S75)) 0 0)) else (none)) else (none))) = some (r1, r2) := by rw [if_neg (show ¬ (false = true) by decide)] at H; exact H
        clear H
        have H := H1
        clear H1
        replace H := Option.bind_eq_some_iff.mp H
        obtain ⟨t140, A120, H⟩ := H
        replace H : (if 0 < (t140.length : Int) then (if 0 < ((rd_L4 t140 0).length : Int) then (if a2 ≥ (rd (rd_L4 t140 0) 0) then (some (([] : List (S75)), false)) else (phalaroperef17_Way.l0 kj3 l0 a1 a2 t140 ([] : List (S75)) 0 0)) else (none)) else (none)) = some (r1, r2) := H
        have A12 := Aside0.mk A120
        clear A120
        by_cases c13 : 0 < (t140.length : Int)
        · rw [if_pos c13] at H
          have c13b0 : decide (0 < (t140.length : Int)) = true := decide_eq_true c13
          have c13b1 : decide (0 < t140.length) = true := decide_eq_true (by omega)
          clear c13
          by_cases c14 : 0 < ((rd_L4 t140 0).length : Int)
          · rw [if_pos c14] at H
            have c14b0 : decide (0 < ((rd_L4 t140 0).length : Int)) = true := decide_eq_true c14
            have c14b1 : decide (0 < (rd_L4 t140 0).length) = true := decide_eq_true (by omega)
            clear c14
            by_cases c15 : a2 ≥ (rd (rd_L4 t140 0) 0)
            · rw [if_pos c15] at H
              have c15b0 : decide ((rd (rd_L4 t140 0) 0) ≤ a2) = true := decide_eq_true c15
              clear c15
              simp only [Option.some.injEq, Prod.mk.injEq] at H
              obtain ⟨rfl, rfl⟩ := H
              go_wp2_with (first | (go_at_call 33; (with_reducible refine (phalaroperef17_Table.calls kj3 _ _ l0 a1 t140 _ ?side1 ?side2 A12.out).mono ?_); (case side1 => repeat (first | exact (Kd.C_below HR0.out HB.out) | (with_reducible refine Kd.C_alloc ?_ _) | (with_reducible refine Kd.C_drewN ?_ _) | (with_reducible refine Kd.C_drew ?_))); (case side2 => exact HC0.out); rintro e w16 ⟨v141, rfl, ho0, hb⟩; have n0_ := Aside0.mk (Kd.S_lower ho0 (below_size (by repeat (first | (with_reducible first | exact HB.out | apply below_alloc | apply pw_below_drewN | apply below_drew1) | exact HB.out)))); have n1_ := Aside0.mk (below_step (by repeat (first | (with_reducible first | exact HB.out | apply below_alloc | apply pw_below_drewN | apply below_drew1) | exact HB.out)) hb); clear HB; have HO142 := n0_; have HB := n1_; clear n0_ n1_; (try clear hb); (try clear hb2); (try clear hk); (try clear hi); (try clear ho0); obtain ⟨Ao17, co17, eo17⟩ := Kd.S_slice HO142.out; subst eo17; have p143 : 0 ≤ (0 : Int) := (by omega); have q143 : 0 < (t140.length : Int) := of_decide_eq_true (by first | (with_reducible assumption) | assumption); obtain ⟨ad143, A143_0, c143_0, e143, hx143_0, hl143_0, hi143_0⟩ := at_L4 (Kd.S_reads' HO142.out).2.2 0 p143 q143; cases e143; obtain ⟨ce143, hce143, hMe143, hcc143⟩ := Kd.S_get HO142.out [] 0 p143 (by first | exact q143 | exact of_decide_eq_true (by first | (with_reducible assumption) | assumption) | (have e_ := (Kd.S_reads' HO142.out).1; omega)); obtain ⟨ve143_0, rfl, ge143_0⟩ := hMe143; have hv143_0 := hcc143 0 _ rfl; rw [Nat.add_zero, show ((Kd.slice 3 (Kd.int .i64))).sz = 1 from rfl, Nat.mul_one] at hv143_0; replace hv143_0 := Option.some.inj (hv143_0.symm.trans hx143_0); rw [hv143_0] at ge143_0; have HL143_0 := Aside0.mk (show Kd.R (Kd.int .i64) 3 _ _ _ _ (rd_L4 t140 0) from ge143_0); clear hv143_0 ge143_0; clear hcc143 hce143; have qi143 : (0 < t140.length) = True := eq_true (by omega); (try rw [show ((0 : Int)).toNat = 0 from rfl] at hx143_0); (try rw [Addr.add_zero'] at hx143_0); have HR143_0 := Aside0.mk hi143_0; have HC143_0 := Aside0.mk hl143_0; clear hi143_0 hl143_0; replace p143 := eq_true p143; replace q143 := eq_true q143; have p144 : 0 ≤ (0 : Int) := (by omega); have q144 : 0 < ((rd_L4 t140 0).length : Int) := of_decide_eq_true (by first | (with_reducible assumption) | assumption); obtain ⟨ad144, e144, hx144_0⟩ := Kd.at_int (by repeat (first | (with_reducible exact HR143_0.out) | (with_reducible refine Kd.C_alloc ?_ _) | (with_reducible refine Kd.C_drewN ?_ _) | (with_reducible refine Kd.C_drew ?_) | exact HR143_0.out)) 0 p144 q144; cases e144; have qi144 : (0 < (rd_L4 t140 0).length) = True := eq_true (by omega); (try rw [show ((0 : Int)).toNat = 0 from rfl] at hx144_0); (try rw [Addr.add_zero'] at hx144_0); replace p144 := eq_true p144; replace q144 := eq_true q144))
              repeat (go_quiet (first | (go_at_call 33; (with_reducible refine (phalaroperef17_Table.calls kj3 _ _ l0 a1 t140 _ ?side1 ?side2 A12.out).mono ?_); (case side1 => repeat (first | exact (Kd.C_below HR0.out HB.out) | (with_reducible refine Kd.C_alloc ?_ _) | (with_reducible refine Kd.C_drewN ?_ _) | (with_reducible refine Kd.C_drew ?_))); (case side2 => exact HC0.out); rintro e w16 ⟨v141, rfl, ho0, hb⟩; have n0_ := Aside0.mk (Kd.S_lower ho0 (below_size (by repeat (first | (with_reducible first | exact HB.out | apply below_alloc | apply pw_below_drewN | apply below_drew1) | exact HB.out)))); have n1_ := Aside0.mk (below_step (by repeat (first | (with_reducible first | exact HB.out | apply below_alloc | apply pw_below_drewN | apply below_drew1) | exact HB.out)) hb); clear HB; have HO142 := n0_; have HB := n1_; clear n0_ n1_; (try clear hb); (try clear hb2); (try clear hk); (try clear hi); (try clear ho0); obtain ⟨Ao17, co17, eo17⟩ := Kd.S_slice HO142.out; subst eo17; have p143 : 0 ≤ (0 : Int) := (by omega); have q143 : 0 < (t140.length : Int) := of_decide_eq_true (by first | (with_reducible assumption) | assumption); obtain ⟨ad143, A143_0, c143_0, e143, hx143_0, hl143_0, hi143_0⟩ := at_L4 (Kd.S_reads' HO142.out).2.2 0 p143 q143; cases e143; obtain ⟨ce143, hce143, hMe143, hcc143⟩ := Kd.S_get HO142.out [] 0 p143 (by first | exact q143 | exact of_decide_eq_true (by first | (with_reducible assumption) | assumption) | (have e_ := (Kd.S_reads' HO142.out).1; omega)); obtain ⟨ve143_0, rfl, ge143_0⟩ := hMe143; have hv143_0 := hcc143 0 _ rfl; rw [Nat.add_zero, show ((Kd.slice 3 (Kd.int .i64))).sz = 1 from rfl, Nat.mul_one] at hv143_0; replace hv143_0 := Option.some.inj (hv143_0.symm.trans hx143_0); rw [hv143_0] at ge143_0; have HL143_0 := Aside0.mk (show Kd.R (Kd.int .i64) 3 _ _ _ _ (rd_L4 t140 0) from ge143_0); clear hv143_0 ge143_0; clear hcc143 hce143; have qi143 : (0 < t140.length) = True := eq_true (by omega); (try rw [show ((0 : Int)).toNat = 0 from rfl] at hx143_0); (try rw [Addr.add_zero'] at hx143_0); have HR143_0 := Aside0.mk hi143_0; have HC143_0 := Aside0.mk hl143_0; clear hi143_0 hl143_0; replace p143 := eq_true p143; replace q143 := eq_true q143; have p144 : 0 ≤ (0 : Int) := (by omega); have q144 : 0 < ((rd_L4 t140 0).length : Int) := of_decide_eq_true (by first | (with_reducible assumption) | assumption); obtain ⟨ad144, e144, hx144_0⟩ := Kd.at_int (by repeat (first | (with_reducible exact HR143_0.out) | (with_reducible refine Kd.C_alloc ?_ _) | (with_reducible refine Kd.C_drewN ?_ _) | (with_reducible refine Kd.C_drew ?_) | exact HR143_0.out)) 0 p144 q144; cases e144; have qi144 : (0 < (rd_L4 t140 0).length) = True := eq_true (by omega); (try rw [show ((0 : Int)).toNat = 0 from rfl] at hx144_0); (try rw [Addr.add_zero'] at hx144_0); replace p144 := eq_true p144; replace q144 := eq_true q144)); try go_wp2_with (first | (go_at_call 33; (with_reducible refine (phalaroperef17_Table.calls kj3 _ _ l0 a1 t140 _ ?side1 ?side2 A12.out).mono ?_); (case side1 => repeat (first | exact (Kd.C_below HR0.out HB.out) | (with_reducible refine Kd.C_alloc ?_ _) | (with_reducible refine Kd.C_drewN ?_ _) | (with_reducible refine Kd.C_drew ?_))); (case side2 => exact HC0.out); rintro e w16 ⟨v141, rfl, ho0, hb⟩; have n0_ := Aside0.mk (Kd.S_lower ho0 (below_size (by repeat (first | (with_reducible first | exact HB.out | apply below_alloc | apply pw_below_drewN | apply below_drew1) | exact HB.out)))); have n1_ := Aside0.mk (below_step (by repeat (first | (with_reducible first | exact HB.out | apply below_alloc | apply pw_below_drewN | apply below_drew1) | exact HB.out)) hb); clear HB; have HO142 := n0_; have HB := n1_; clear n0_ n1_; (try clear hb); (try clear hb2); (try clear hk); (try clear hi); (try clear ho0); obtain ⟨Ao17, co17, eo17⟩ := Kd.S_slice HO142.out; subst eo17; have p143 : 0 ≤ (0 : Int) := (by omega); have q143 : 0 < (t140.length : Int) := of_decide_eq_true (by first | (with_reducible assumption) | assumption); obtain ⟨ad143, A143_0, c143_0, e143, hx143_0, hl143_0, hi143_0⟩ := at_L4 (Kd.S_reads' HO142.out).2.2 0 p143 q143; cases e143; obtain ⟨ce143, hce143, hMe143, hcc143⟩ := Kd.S_get HO142.out [] 0 p143 (by first | exact q143 | exact of_decide_eq_true (by first | (with_reducible assumption) | assumption) | (have e_ := (Kd.S_reads' HO142.out).1; omega)); obtain ⟨ve143_0, rfl, ge143_0⟩ := hMe143; have hv143_0 := hcc143 0 _ rfl; rw [Nat.add_zero, show ((Kd.slice 3 (Kd.int .i64))).sz = 1 from rfl, Nat.mul_one] at hv143_0; replace hv143_0 := Option.some.inj (hv143_0.symm.trans hx143_0); rw [hv143_0] at ge143_0; have HL143_0 := Aside0.mk (show Kd.R (Kd.int .i64) 3 _ _ _ _ (rd_L4 t140 0) from ge143_0); clear hv143_0 ge143_0; clear hcc143 hce143; have qi143 : (0 < t140.length) = True := eq_true (by omega); (try rw [show ((0 : Int)).toNat = 0 from rfl] at hx143_0); (try rw [Addr.add_zero'] at hx143_0); have HR143_0 := Aside0.mk hi143_0; have HC143_0 := Aside0.mk hl143_0; clear hi143_0 hl143_0; replace p143 := eq_true p143; replace q143 := eq_true q143; have p144 : 0 ≤ (0 : Int) := (by omega); have q144 : 0 < ((rd_L4 t140 0).length : Int) := of_decide_eq_true (by first | (with_reducible assumption) | assumption); obtain ⟨ad144, e144, hx144_0⟩ := Kd.at_int (by repeat (first | (with_reducible exact HR143_0.out) | (with_reducible refine Kd.C_alloc ?_ _) | (with_reducible refine Kd.C_drewN ?_ _) | (with_reducible refine Kd.C_drew ?_) | exact HR143_0.out)) 0 p144 q144; cases e144; have qi144 : (0 < (rd_L4 t140 0).length) = True := eq_true (by omega); (try rw [show ((0 : Int)).toNat = 0 from rfl] at hx144_0); (try rw [Addr.add_zero'] at hx144_0); replace p144 := eq_true p144; replace q144 := eq_true q144)))
              go_ret2
              exact ⟨_, by first | rfl | (simp [errW_none, errW_some] <;> rfl) | (simp [*, errW_none, errW_some] <;> rfl), by first | exact Kd.R_nil _ _ _ _ _ | exact Kd.N_nil _ _ _ _ _ | exact Kd.V_nil _ _ _ _ _ | exact Kd.Q_nil _ _ _ _ _ | exact Kd.S_nil _ _ _ _ _, by repeat (first | (with_reducible first | exact HB.out | apply below_alloc | apply pw_below_drewN | apply below_drew1) | exact HB.out)⟩
            · rw [if_neg c15] at H
              have c15b0 : decide ((rd (rd_L4 t140 0) 0) ≤ a2) = false := decide_eq_false c15
              clear c15
              have H' := Aside0.mk H
              clear H
              go_wp2_with (first | (go_at_call 33; (with_reducible refine (phalaroperef17_Table.calls kj3 _ _ l0 a1 t140 _ ?side1 ?side2 A12.out).mono ?_); (case side1 => repeat (first | exact (Kd.C_below HR0.out HB.out) | (with_reducible refine Kd.C_alloc ?_ _) | (with_reducible refine Kd.C_drewN ?_ _) | (with_reducible refine Kd.C_drew ?_))); (case side2 => exact HC0.out); rintro e w18 ⟨v141, rfl, ho0, hb⟩; have n0_ := Aside0.mk (Kd.S_lower ho0 (below_size (by repeat (first | (with_reducible first | exact HB.out | apply below_alloc | apply pw_below_drewN | apply below_drew1) | exact HB.out)))); have n1_ := Aside0.mk (below_step (by repeat (first | (with_reducible first | exact HB.out | apply below_alloc | apply pw_below_drewN | apply below_drew1) | exact HB.out)) hb); clear HB; have HO142 := n0_; have HB := n1_; clear n0_ n1_; (try clear hb); (try clear hb2); (try clear hk); (try clear hi); (try clear ho0); obtain ⟨Ao19, co19, eo19⟩ := Kd.S_slice HO142.out; subst eo19; have p143 : 0 ≤ (0 : Int) := (by omega); have q143 : 0 < (t140.length : Int) := of_decide_eq_true (by first | (with_reducible assumption) | assumption); obtain ⟨ad143, A143_0, c143_0, e143, hx143_0, hl143_0, hi143_0⟩ := at_L4 (Kd.S_reads' HO142.out).2.2 0 p143 q143; cases e143; obtain ⟨ce143, hce143, hMe143, hcc143⟩ := Kd.S_get HO142.out [] 0 p143 (by first | exact q143 | exact of_decide_eq_true (by first | (with_reducible assumption) | assumption) | (have e_ := (Kd.S_reads' HO142.out).1; omega)); obtain ⟨ve143_0, rfl, ge143_0⟩ := hMe143; have hv143_0 := hcc143 0 _ rfl; rw [Nat.add_zero, show ((Kd.slice 3 (Kd.int .i64))).sz = 1 from rfl, Nat.mul_one] at hv143_0; replace hv143_0 := Option.some.inj (hv143_0.symm.trans hx143_0); rw [hv143_0] at ge143_0; have HL143_0 := Aside0.mk (show Kd.R (Kd.int .i64) 3 _ _ _ _ (rd_L4 t140 0) from ge143_0); clear hv143_0 ge143_0; clear hcc143 hce143; have qi143 : (0 < t140.length) = True := eq_true (by omega); (try rw [show ((0 : Int)).toNat = 0 from rfl] at hx143_0); (try rw [Addr.add_zero'] at hx143_0); have HR143_0 := Aside0.mk hi143_0; have HC143_0 := Aside0.mk hl143_0; clear hi143_0 hl143_0; replace p143 := eq_true p143; replace q143 := eq_true q143; have p144 : 0 ≤ (0 : Int) := (by omega); have q144 : 0 < ((rd_L4 t140 0).length : Int) := of_decide_eq_true (by first | (with_reducible assumption) | assumption); obtain ⟨ad144, e144, hx144_0⟩ := Kd.at_int (by repeat (first | (with_reducible exact HR143_0.out) | (with_reducible refine Kd.C_alloc ?_ _) | (with_reducible refine Kd.C_drewN ?_ _) | (with_reducible refine Kd.C_drew ?_) | exact HR143_0.out)) 0 p144 q144; cases e144; have qi144 : (0 < (rd_L4 t140 0).length) = True := eq_true (by omega); (try rw [show ((0 : Int)).toNat = 0 from rfl] at hx144_0); (try rw [Addr.add_zero'] at hx144_0); replace p144 := eq_true p144; replace q144 := eq_true q144))
              repeat (go_quiet (first | (go_at_call 33; (with_reducible refine (phalaroperef17_Table.calls kj3 _ _ l0 a1 t140 _ ?side1 ?side2 A12.out).mono ?_); (case side1 => repeat (first | exact (Kd.C_below HR0.out HB.out) | (with_reducible refine Kd.C_alloc ?_ _) | (with_reducible refine Kd.C_drewN ?_ _) | (with_reducible refine Kd.C_drew ?_))); (case side2 => exact HC0.out); rintro e w18 ⟨v141, rfl, ho0, hb⟩; have n0_ := Aside0.mk (Kd.S_lower ho0 (below_size (by repeat (first | (with_reducible first | exact HB.out | apply below_alloc | apply pw_below_drewN | apply below_drew1) | exact HB.out)))); have n1_ := Aside0.mk (below_step (by repeat (first | (with_reducible first | exact HB.out | apply below_alloc | apply pw_below_drewN | apply below_drew1) | exact HB.out)) hb); clear HB; have HO142 := n0_; have HB := n1_; clear n0_ n1_; (try clear hb); (try clear hb2); (try clear hk); (try clear hi); (try clear ho0); obtain ⟨Ao19, co19, eo19⟩ := Kd.S_slice HO142.out; subst eo19; have p143 : 0 ≤ (0 : Int) := (by omega); have q143 : 0 < (t140.length : Int) := of_decide_eq_true (by first | (with_reducible assumption) | assumption); obtain ⟨ad143, A143_0, c143_0, e143, hx143_0, hl143_0, hi143_0⟩ := at_L4 (Kd.S_reads' HO142.out).2.2 0 p143 q143; cases e143; obtain ⟨ce143, hce143, hMe143, hcc143⟩ := Kd.S_get HO142.out [] 0 p143 (by first | exact q143 | exact of_decide_eq_true (by first | (with_reducible assumption) | assumption) | (have e_ := (Kd.S_reads' HO142.out).1; omega)); obtain ⟨ve143_0, rfl, ge143_0⟩ := hMe143; have hv143_0 := hcc143 0 _ rfl; rw [Nat.add_zero, show ((Kd.slice 3 (Kd.int .i64))).sz = 1 from rfl, Nat.mul_one] at hv143_0; replace hv143_0 := Option.some.inj (hv143_0.symm.trans hx143_0); rw [hv143_0] at ge143_0; have HL143_0 := Aside0.mk (show Kd.R (Kd.int .i64) 3 _ _ _ _ (rd_L4 t140 0) from ge143_0); clear hv143_0 ge143_0; clear hcc143 hce143; have qi143 : (0 < t140.length) = True := eq_true (by omega); (try rw [show ((0 : Int)).toNat = 0 from rfl] at hx143_0); (try rw [Addr.add_zero'] at hx143_0); have HR143_0 := Aside0.mk hi143_0; have HC143_0 := Aside0.mk hl143_0; clear hi143_0 hl143_0; replace p143 := eq_true p143; replace q143 := eq_true q143; have p144 : 0 ≤ (0 : Int) := (by omega); have q144 : 0 < ((rd_L4 t140 0).length : Int) := of_decide_eq_true (by first | (with_reducible assumption) | assumption); obtain ⟨ad144, e144, hx144_0⟩ := Kd.at_int (by repeat (first | (with_reducible exact HR143_0.out) | (with_reducible refine Kd.C_alloc ?_ _) | (with_reducible refine Kd.C_drewN ?_ _) | (with_reducible refine Kd.C_drew ?_) | exact HR143_0.out)) 0 p144 q144; cases e144; have qi144 : (0 < (rd_L4 t140 0).length) = True := eq_true (by omega); (try rw [show ((0 : Int)).toNat = 0 from rfl] at hx144_0); (try rw [Addr.add_zero'] at hx144_0); replace p144 := eq_true p144; replace q144 := eq_true q144)); try go_wp2_with (first | (go_at_call 33; (with_reducible refine (phalaroperef17_Table.calls kj3 _ _ l0 a1 t140 _ ?side1 ?side2 A12.out).mono ?_); (case side1 => repeat (first | exact (Kd.C_below HR0.out HB.out) | (with_reducible refine Kd.C_alloc ?_ _) | (with_reducible refine Kd.C_drewN ?_ _) | (with_reducible refine Kd.C_drew ?_))); (case side2 => exact HC0.out); rintro e w18 ⟨v141, rfl, ho0, hb⟩; have n0_ := Aside0.mk (Kd.S_lower ho0 (below_size (by repeat (first | (with_reducible first | exact HB.out | apply below_alloc | apply pw_below_drewN | apply below_drew1) | exact HB.out)))); have n1_ := Aside0.mk (below_step (by repeat (first | (with_reducible first | exact HB.out | apply below_alloc | apply pw_below_drewN | apply below_drew1) | exact HB.out)) hb); clear HB; have HO142 := n0_; have HB := n1_; clear n0_ n1_; (try clear hb); (try clear hb2); (try clear hk); (try clear hi); (try clear ho0); obtain ⟨Ao19, co19, eo19⟩ := Kd.S_slice HO142.out; subst eo19; have p143 : 0 ≤ (0 : Int) := (by omega); have q143 : 0 < (t140.length : Int) := of_decide_eq_true (by first | (with_reducible assumption) | assumption); obtain ⟨ad143, A143_0, c143_0, e143, hx143_0, hl143_0, hi143_0⟩ := at_L4 (Kd.S_reads' HO142.out).2.2 0 p143 q143; cases e143; obtain ⟨ce143, hce143, hMe143, hcc143⟩ := Kd.S_get HO142.out [] 0 p143 (by first | exact q143 | exact of_decide_eq_true (by first | (with_reducible assumption) | assumption) | (have e_ := (Kd.S_reads' HO142.out).1; omega)); obtain ⟨ve143_0, rfl, ge143_0⟩ := hMe143; have hv143_0 := hcc143 0 _ rfl; rw [Nat.add_zero, show ((Kd.slice 3 (Kd.int .i64))).sz = 1 from rfl, Nat.mul_one] at hv143_0; replace hv143_0 := Option.some.inj (hv143_0.symm.trans hx143_0); rw [hv143_0] at ge143_0; have HL143_0 := Aside0.mk (show Kd.R (Kd.int .i64) 3 _ _ _ _ (rd_L4 t140 0) from ge143_0); clear hv143_0 ge143_0; clear hcc143 hce143; have qi143 : (0 < t140.length) = True := eq_true (by omega); (try rw [show ((0 : Int)).toNat = 0 from rfl] at hx143_0); (try rw [Addr.add_zero'] at hx143_0); have HR143_0 := Aside0.mk hi143_0; have HC143_0 := Aside0.mk hl143_0; clear hi143_0 hl143_0; replace p143 := eq_true p143; replace q143 := eq_true q143; have p144 : 0 ≤ (0 : Int) := (by omega); have q144 : 0 < ((rd_L4 t140 0).length : Int) := of_decide_eq_true (by first | (with_reducible assumption) | assumption); obtain ⟨ad144, e144, hx144_0⟩ := Kd.at_int (by repeat (first | (with_reducible exact HR143_0.out) | (with_reducible refine Kd.C_alloc ?_ _) | (with_reducible refine Kd.C_drewN ?_ _) | (with_reducible refine Kd.C_drew ?_) | exact HR143_0.out)) 0 p144 q144; cases e144; have qi144 : (0 < (rd_L4 t140 0).length) = True := eq_true (by omega); (try rw [show ((0 : Int)).toNat = 0 from rfl] at hx144_0); (try rw [Addr.add_zero'] at hx144_0); replace p144 := eq_true p144; replace q144 := eq_true q144)))
              go_loopg [2, 9, 10, 11] kj3 (fun kq v2 v9 v10 v11 w' => ∃ (x2_2 : Int) (x9_2 : List (S75)) (x10_2 : Int) (x11_2 : Int), v2 = .int .i64 x2_2 ∧ v10 = .int .i64 x10_2 ∧ v11 = .int .i64 x11_2 ∧ Aside0 (phalaroperef17_Way.l0 kq l0 a1 x2_2 t140 x9_2 x10_2 x11_2 = some (r1, r2)) ∧ Aside0 (kq ≤ kj3) ∧ Aside0 (Kd.S (Kd.slice 3 (Kd.int .i64)) 33 w' w.heap.size (fun _ => True) (.slice (some ad143) t140.length co19) t140) ∧ Aside0 (Kd.R k75 75 w' w.heap.size (fun _ => True) v9 x9_2) ∧ Aside0 (Below w.heap.size w w'))
              case atStart => exact ⟨(a2), (([] : List (S75))), (0), (0), (by first | rfl | (simp; done) | (simp [*]; done)), (by first | rfl | (simp; done) | (simp [*]; done)), (by first | rfl | (simp; done) | (simp [*]; done)), H', ⟨Nat.le_refl _⟩, ⟨by (with_reducible repeat (first | apply Kd.S_alloc | apply Kd.S_drewN | apply Kd.S_drew)); exact HO142.out⟩, ⟨by first | exact Kd.R_nil _ _ _ _ _ | exact Kd.N_nil _ _ _ _ _ | exact Kd.V_nil _ _ _ _ _ | exact Kd.Q_nil _ _ _ _ _ | exact Kd.S_nil _ _ _ _ _⟩, ⟨by repeat (first | (with_reducible first | exact HB.out | apply below_alloc | apply pw_below_drewN | apply below_drew1) | exact HB.out)⟩⟩
              case round =>
                clear H'
                try clear c1
                try clear p1
                try clear q1
                try clear hx1
                try clear qi1
                try clear p2
                try clear c6
                try clear c7
                try clear c7b0
                try clear c11
                try clear c13
                try clear c13b0
                try clear c13b1
                try clear c14
                try clear c14b0
                try clear c14b1
                try clear p14
                try clear q14
                try clear hx14
                try clear qi14
                try clear c15
                try clear c15b0
                try clear hx143_0
                try clear hx144_0
                try clear p143
                try clear p144
                try clear p2
                try clear q143
                try clear q144
                obtain ⟨x2_2, x9_2, x10_2, x11_2, rfl, rfl, rfl, HA, HK2, HO_8, HO_9, HB⟩ := hrel
                cases gk with
                | zero => exact absurd HA.out (by simp [phalaroperef17_Way.l0])
                | succ k2 =>
                  have H := HA.out
                  clear HA
                  simp only [phalaroperef17_Way.l0] at H
                  by_cases c20 : 0 ≤ x11_2
                  · rw [if_pos c20] at H
                    have c20b0 : decide (0 ≤ x11_2) = true := decide_eq_true c20
                    clear c20
                    by_cases c21 : x11_2 < (l0.length : Int)
                    · rw [if_pos c21] at H
                      have c21b0 : decide (x11_2 < (l0.length : Int)) = true := decide_eq_true c21
                      clear c21
                      by_cases c22 : ((rd_T35 l0 x11_2).f0) = 4
                      · rw [if_pos c22] at H
                        have c22b0 : (((rd_T35 l0 x11_2).f0) == 4) = true := beq_iff_eq.mpr c22
                        have c22b1 : (((rd_T35 l0 x11_2).f0) != 4) = false := bne_eq_false_iff_eq.mpr c22
                        clear c22
                        simp only [Option.some.injEq, Prod.mk.injEq] at H
                        obtain ⟨rfl, rfl⟩ := H
                        have p145 : 0 ≤ (x11_2 : Int) := of_decide_eq_true (by first | (with_reducible assumption) | assumption)
                        have q145 : x11_2 < (l0.length : Int) := of_decide_eq_true (by first | (with_reducible assumption) | assumption)
                        obtain ⟨ad145, A145_1, c145_1, A145_2, c145_2, e145, hx145_0, hx145_1, hx145_2, hx145_3, hx145_4, hl145_1, hi145_1, hl145_2, hi145_2⟩ := at_T35 HR0.out x11_2 p145 q145
                        cases e145
                        replace hx145_0 := (HB.out.cell (World.block_lt_of_cell? w _ hx145_0)).trans hx145_0
                        replace hx145_1 := (HB.out.cell (World.block_lt_of_cell? w _ hx145_1)).trans hx145_1
                        replace hx145_2 := (HB.out.cell (World.block_lt_of_cell? w _ hx145_2)).trans hx145_2
                        replace hx145_3 := (HB.out.cell (World.block_lt_of_cell? w _ hx145_3)).trans hx145_3
                        replace hx145_4 := (HB.out.cell (World.block_lt_of_cell? w _ hx145_4)).trans hx145_4
                        have HR145_1 := Aside0.mk hi145_1
                        have HC145_1 := Aside0.mk hl145_1
                        clear hi145_1 hl145_1
                        have HR145_2 := Aside0.mk hi145_2
                        have HC145_2 := Aside0.mk hl145_2
                        clear hi145_2 hl145_2
                        replace p145 := eq_true p145
                        replace q145 := eq_true q145
                        go_wp2
                        repeat (go_quiet (fail); try go_wp2)
                        go_ret2
                        exact ⟨_, by first | rfl | (simp [errW_none, errW_some] <;> rfl) | (simp [*, errW_none, errW_some] <;> rfl), by (with_reducible repeat (first | apply Kd.R_alloc | apply Kd.R_drewN | apply Kd.R_drew)); exact HO_9.out, by repeat (first | (with_reducible first | exact HB.out | apply below_alloc | apply pw_below_drewN | apply below_drew1) | exact HB.out)⟩
                      · rw [if_neg c22] at H
                        have c22b0 : (((rd_T35 l0 x11_2).f0) == 4) = false := beq_eq_false_iff_ne.mpr c22
                        have c22b1 : (((rd_T35 l0 x11_2).f0) != 4) = true := bne_iff_ne.mpr c22
                        have HC23 := Aside0.mk H
                        clear H
                        have p145 : 0 ≤ (x11_2 : Int) := of_decide_eq_true (by first | (with_reducible assumption) | assumption)
                        have q145 : x11_2 < (l0.length : Int) := of_decide_eq_true (by first | (with_reducible assumption) | assumption)
                        obtain ⟨ad145, A145_1, c145_1, A145_2, c145_2, e145, hx145_0, hx145_1, hx145_2, hx145_3, hx145_4, hl145_1, hi145_1, hl145_2, hi145_2⟩ := at_T35 HR0.out x11_2 p145 q145
                        cases e145
                        replace hx145_0 := (HB.out.cell (World.block_lt_of_cell? w _ hx145_0)).trans hx145_0
                        replace hx145_1 := (HB.out.cell (World.block_lt_of_cell? w _ hx145_1)).trans hx145_1
                        replace hx145_2 := (HB.out.cell (World.block_lt_of_cell? w _ hx145_2)).trans hx145_2
                        replace hx145_3 := (HB.out.cell (World.block_lt_of_cell? w _ hx145_3)).trans hx145_3
                        replace hx145_4 := (HB.out.cell (World.block_lt_of_cell? w _ hx145_4)).trans hx145_4
                        have HR145_1 := Aside0.mk hi145_1
                        have HC145_1 := Aside0.mk hl145_1
                        clear hi145_1 hl145_1
                        have HR145_2 := Aside0.mk hi145_2
                        have HC145_2 := Aside0.mk hl145_2
                        clear hi145_2 hl145_2
                        replace p145 := eq_true p145
                        replace q145 := eq_true q145
                        have p146 : 0 ≤ (x11_2 : Int) := of_decide_eq_true (by first | (with_reducible assumption) | assumption)
                        have q146 : x11_2 < (l0.length : Int) := of_decide_eq_true (by first | (with_reducible assumption) | assumption)
                        obtain ⟨ad146, A146_1, c146_1, A146_2, c146_2, e146, hx146_0, hx146_1, hx146_2, hx146_3, hx146_4, hl146_1, hi146_1, hl146_2, hi146_2⟩ := at_T35 HR0.out x11_2 p146 q146
                        obtain rfl : ad145 = ad146 := (by injection e146)
                        replace hx146_0 := (HB.out.cell (World.block_lt_of_cell? w _ hx146_0)).trans hx146_0
                        replace hx146_1 := (HB.out.cell (World.block_lt_of_cell? w _ hx146_1)).trans hx146_1
                        replace hx146_2 := (HB.out.cell (World.block_lt_of_cell? w _ hx146_2)).trans hx146_2
                        replace hx146_3 := (HB.out.cell (World.block_lt_of_cell? w _ hx146_3)).trans hx146_3
                        replace hx146_4 := (HB.out.cell (World.block_lt_of_cell? w _ hx146_4)).trans hx146_4
                        have HR146_1 := Aside0.mk hi146_1
                        have HC146_1 := Aside0.mk hl146_1
                        clear hi146_1 hl146_1
                        have HR146_2 := Aside0.mk hi146_2
                        have HC146_2 := Aside0.mk hl146_2
                        clear hi146_2 hl146_2
                        replace p146 := eq_true p146
                        replace q146 := eq_true q146
                        have ea_ := Option.some.inj (hx145_1.symm.trans hx146_1)
                        injection ea_ with ea_ en_ ec_
                        subst ea_
                        subst ec_
                        clear en_
                        have ea_ := Option.some.inj (hx145_2.symm.trans hx146_2)
                        injection ea_ with ea_ en_ ec_
                        subst ea_
                        subst ec_
                        clear en_
                        go_upto_if 48 with (first | ((with_reducible refine gate_dst (N := 12) rfl ?_); refine box_event ?hg (N := 12) ?hd (cs := #[.int .i64 0, .slice none 0 0, .slice none 0 0, .int .i64 0, .int .i64 0]) (t := 35) ?hr ?_; (case hd => rfl); (case hg => rfl); (case hr => first | (go_simp; done) | (go_simp; rfl)); intro gb147 hg w24 hbox hb; have n0_ := Aside0.mk (Kd.S_below (by (with_reducible repeat (first | apply Kd.S_alloc | apply Kd.S_drewN | apply Kd.S_drew)); exact HO_8.out) hb); have n1_ := Aside0.mk (Kd.R_below (by (with_reducible repeat (first | apply Kd.R_alloc | apply Kd.R_drewN | apply Kd.R_drew)); exact HO_9.out) hb); have n2_ := Aside0.mk (below_step (by repeat (first | (with_reducible first | exact HB.out | apply below_alloc | apply pw_below_drewN | apply below_drew1) | exact HB.out)) hb); have n3_ := Aside0.mk (hbox); have n4_ := Aside0.mk ((by rw [hg]; exact (below_size (by repeat (first | (with_reducible first | exact HB.out | apply below_alloc | apply pw_below_drewN | apply below_drew1) | exact HB.out))) : w.heap.size ≤ gb147)); have n5_ := Aside0.mk ((by rw [hg]; exact (below_size (by repeat (first | (with_reducible first | exact HB.out | apply below_alloc | apply pw_below_drewN | apply below_drew1) | exact HB.out))) : w.heap.size ≤ gb147)); clear HO_8; clear HO_9; clear HB; have HO_8 := n0_; have HO_9 := n1_; have HB := n2_; have BK147 := n3_; have GW147 := n4_; have GE147 := n5_; clear n0_ n1_ n2_ n3_ n4_ n5_; clear hb hbox hg; have hcz25_0 : w24.cell? ⟨gb147, 0, none⟩ = some (.int .i64 0) := (blk_cell BK147.out 0).trans rfl; have hcz25_1 : w24.cell? ⟨gb147, 1, none⟩ = some (.slice none 0 0) := (blk_cell BK147.out 1).trans rfl; have hcz25_2 : w24.cell? ⟨gb147, 2, none⟩ = some (.slice none 0 0) := (blk_cell BK147.out 2).trans rfl; have hcz25_3 : w24.cell? ⟨gb147, 3, none⟩ = some (.int .i64 0) := (blk_cell BK147.out 3).trans rfl; have hcz25_4 : w24.cell? ⟨gb147, 4, none⟩ = some (.int .i64 0) := (blk_cell BK147.out 4).trans rfl; have hfz25_0 := blk_frozen BK147.out 0; have hfz25_1 := blk_frozen BK147.out 1; have hfz25_2 := blk_frozen BK147.out 2; have hfz25_3 := blk_frozen BK147.out 3; have hfz25_4 := blk_frozen BK147.out 4))
                        repeat (go_quiet (first | ((with_reducible refine gate_dst (N := 12) rfl ?_); refine box_event ?hg (N := 12) ?hd (cs := #[.int .i64 0, .slice none 0 0, .slice none 0 0, .int .i64 0, .int .i64 0]) (t := 35) ?hr ?_; (case hd => rfl); (case hg => rfl); (case hr => first | (go_simp; done) | (go_simp; rfl)); intro gb147 hg w24 hbox hb; have n0_ := Aside0.mk (Kd.S_below (by (with_reducible repeat (first | apply Kd.S_alloc | apply Kd.S_drewN | apply Kd.S_drew)); exact HO_8.out) hb); have n1_ := Aside0.mk (Kd.R_below (by (with_reducible repeat (first | apply Kd.R_alloc | apply Kd.R_drewN | apply Kd.R_drew)); exact HO_9.out) hb); have n2_ := Aside0.mk (below_step (by repeat (first | (with_reducible first | exact HB.out | apply below_alloc | apply pw_below_drewN | apply below_drew1) | exact HB.out)) hb); have n3_ := Aside0.mk (hbox); have n4_ := Aside0.mk ((by rw [hg]; exact (below_size (by repeat (first | (with_reducible first | exact HB.out | apply below_alloc | apply pw_below_drewN | apply below_drew1) | exact HB.out))) : w.heap.size ≤ gb147)); have n5_ := Aside0.mk ((by rw [hg]; exact (below_size (by repeat (first | (with_reducible first | exact HB.out | apply below_alloc | apply pw_below_drewN | apply below_drew1) | exact HB.out))) : w.heap.size ≤ gb147)); clear HO_8; clear HO_9; clear HB; have HO_8 := n0_; have HO_9 := n1_; have HB := n2_; have BK147 := n3_; have GW147 := n4_; have GE147 := n5_; clear n0_ n1_ n2_ n3_ n4_ n5_; clear hb hbox hg; have hcz25_0 : w24.cell? ⟨gb147, 0, none⟩ = some (.int .i64 0) := (blk_cell BK147.out 0).trans rfl; have hcz25_1 : w24.cell? ⟨gb147, 1, none⟩ = some (.slice none 0 0) := (blk_cell BK147.out 1).trans rfl; have hcz25_2 : w24.cell? ⟨gb147, 2, none⟩ = some (.slice none 0 0) := (blk_cell BK147.out 2).trans rfl; have hcz25_3 : w24.cell? ⟨gb147, 3, none⟩ = some (.int .i64 0) := (blk_cell BK147.out 3).trans rfl; have hcz25_4 : w24.cell? ⟨gb147, 4, none⟩ = some (.int .i64 0) := (blk_cell BK147.out 4).trans rfl; have hfz25_0 := blk_frozen BK147.out 0; have hfz25_1 := blk_frozen BK147.out 1; have hfz25_2 := blk_frozen BK147.out 2; have hfz25_3 := blk_frozen BK147.out 3; have hfz25_4 := blk_frozen BK147.out 4)); go_upto_if 48 with (first | ((with_reducible refine gate_dst (N := 12) rfl ?_); refine box_event ?hg (N := 12) ?hd (cs := #[.int .i64 0, .slice none 0 0, .slice none 0 0, .int .i64 0, .int .i64 0]) (t := 35) ?hr ?_; (case hd => rfl); (case hg => rfl); (case hr => first | (go_simp; done) | (go_simp; rfl)); intro gb147 hg w24 hbox hb; have n0_ := Aside0.mk (Kd.S_below (by (with_reducible repeat (first | apply Kd.S_alloc | apply Kd.S_drewN | apply Kd.S_drew)); exact HO_8.out) hb); have n1_ := Aside0.mk (Kd.R_below (by (with_reducible repeat (first | apply Kd.R_alloc | apply Kd.R_drewN | apply Kd.R_drew)); exact HO_9.out) hb); have n2_ := Aside0.mk (below_step (by repeat (first | (with_reducible first | exact HB.out | apply below_alloc | apply pw_below_drewN | apply below_drew1) | exact HB.out)) hb); have n3_ := Aside0.mk (hbox); have n4_ := Aside0.mk ((by rw [hg]; exact (below_size (by repeat (first | (with_reducible first | exact HB.out | apply below_alloc | apply pw_below_drewN | apply below_drew1) | exact HB.out))) : w.heap.size ≤ gb147)); have n5_ := Aside0.mk ((by rw [hg]; exact (below_size (by repeat (first | (with_reducible first | exact HB.out | apply below_alloc | apply pw_below_drewN | apply below_drew1) | exact HB.out))) : w.heap.size ≤ gb147)); clear HO_8; clear HO_9; clear HB; have HO_8 := n0_; have HO_9 := n1_; have HB := n2_; have BK147 := n3_; have GW147 := n4_; have GE147 := n5_; clear n0_ n1_ n2_ n3_ n4_ n5_; clear hb hbox hg; have hcz25_0 : w24.cell? ⟨gb147, 0, none⟩ = some (.int .i64 0) := (blk_cell BK147.out 0).trans rfl; have hcz25_1 : w24.cell? ⟨gb147, 1, none⟩ = some (.slice none 0 0) := (blk_cell BK147.out 1).trans rfl; have hcz25_2 : w24.cell? ⟨gb147, 2, none⟩ = some (.slice none 0 0) := (blk_cell BK147.out 2).trans rfl; have hcz25_3 : w24.cell? ⟨gb147, 3, none⟩ = some (.int .i64 0) := (blk_cell BK147.out 3).trans rfl; have hcz25_4 : w24.cell? ⟨gb147, 4, none⟩ = some (.int .i64 0) := (blk_cell BK147.out 4).trans rfl; have hfz25_0 := blk_frozen BK147.out 0; have hfz25_1 := blk_frozen BK147.out 1; have hfz25_2 := blk_frozen BK147.out 2; have hfz25_3 := blk_frozen BK147.out 3; have hfz25_4 := blk_frozen BK147.out 4)))
                        (try simp only [Act.put, List.setIfInBounds_toArray, List.set_cons_zero, List.set_cons_succ])
                        go_cut [9, 11] (fun v9 v11 wc => ∃ (kq : Nat) (x9_22 : List (S75)) (x11_22 : Int), v11 = .int .i64 x11_22 ∧ Aside0 (phalaroperef17_Way.j2 kq l0 a1 x2_2 t140 x9_22 x10_2 x11_22 ((rd_T35 l0 x11_2).f0) ((rd_T35 l0 x11_2).f1) ((rd_T35 l0 x11_2).f2) ((rd_T35 l0 x11_2).f3) ((rd_T35 l0 x11_2).f4) = some (r1, r2)) ∧ Aside0 (kq ≤ k2) ∧ Aside0 (Kd.S (Kd.slice 3 (Kd.int .i64)) 33 wc w.heap.size (fun _ => True) (.slice (some ad143) t140.length co19) t140) ∧ Aside0 (Kd.R k75 75 wc w.heap.size (fun _ => True) v9 x9_22) ∧ Aside0 (wc.heap[gb147]? = some (.cells #[.int .i64 ((rd_T35 l0 x11_2).f0), (.slice A145_1 ((rd_T35 l0 x11_2).f1).length c145_1), (.slice A145_2 ((rd_T35 l0 x11_2).f2).length c145_2), .int .i64 ((rd_T35 l0 x11_2).f3), .int .i64 ((rd_T35 l0 x11_2).f4)] 35 (0, 0))) ∧ Aside0 (Below w.heap.size w wc))
                        case first =>
                          have H := HC23.out
                          clear HC23
                          by_cases c26 : ((rd_T35 l0 x11_2).f0) = 3
                          · rw [if_pos c26] at H
                            have c26b0 : (((rd_T35 l0 x11_2).f0) == 3) = true := beq_iff_eq.mpr c26
                            have c26b1 : (((rd_T35 l0 x11_2).f0) != 3) = false := bne_eq_false_iff_eq.mpr c26
                            clear c26
                            (first | rw [c26b0] | (simp only [i64_w, i32_w]; rw [c26b0]) | skip)
                            by_cases c27 : x9_2.length < 8796093022208
                            · rw [if_pos c27] at H
                              have LMc27 := Aside0.mk c27
                              clear c27
                              obtain ⟨y148, hy148⟩ : ∃ y_ : List (S75), y_ = (x9_2 ++ [(⟨(rd_T35 l0 x11_2).f3, x10_2⟩ : S75)]) := ⟨_, rfl⟩
                              replace H : (phalaroperef17_Way.j2 k2 l0 a1 x2_2 t140 y148 x10_2 ((rd_T35 l0 x11_2).f4) ((rd_T35 l0 x11_2).f0) ((rd_T35 l0 x11_2).f1) ((rd_T35 l0 x11_2).f2) ((rd_T35 l0 x11_2).f3) ((rd_T35 l0 x11_2).f4)) = some (r1, r2) := by first | (rw [hy148]; with_reducible exact H) | (have H2_ := (Option.bind_some _ _).symm.trans H; rw [hy148]; with_reducible exact H2_) | (have H2_ := (Option.bind_some _ _).symm.trans H; with_reducible exact H2_) | with_reducible exact H | (rw [hy148]; exact H) | exact H
                              have Ny148 := Aside0.mk hy148
                              clear hy148
                              have H' := Aside0.mk H
                              clear H
                              have hcz28_0 : w24.cell? ⟨gb147, 0, none⟩ = some (.int .i64 0) := (blk_cell BK147.out 0).trans rfl
                              have hcz28_1 : w24.cell? ⟨gb147, 1, none⟩ = some (.slice none 0 0) := (blk_cell BK147.out 1).trans rfl
                              have hcz28_2 : w24.cell? ⟨gb147, 2, none⟩ = some (.slice none 0 0) := (blk_cell BK147.out 2).trans rfl
                              have hcz28_3 : w24.cell? ⟨gb147, 3, none⟩ = some (.int .i64 0) := (blk_cell BK147.out 3).trans rfl
                              have hcz28_4 : w24.cell? ⟨gb147, 4, none⟩ = some (.int .i64 0) := (blk_cell BK147.out 4).trans rfl
                              have hfz28_0 := blk_frozen BK147.out 0
                              have hfz28_1 := blk_frozen BK147.out 1
                              have hfz28_2 := blk_frozen BK147.out 2
                              have hfz28_3 := blk_frozen BK147.out 3
                              have hfz28_4 := blk_frozen BK147.out 4
                              go_wp2_with (first | ((with_reducible refine gate_builtin (b := .append) (xs := #[.tmp 49, .tmp 54]) rfl ?_); at_builtin; refine Kd.R_append k75 (w0 := w) w.heap.size rfl (.tmp 49) (.tmp 54) 38 75 (.agg #[(.int .i64 0), (.int .i64 0)]) 16 rfl Try.underlying38 info75 rfl (by decide) (by omega) u9 x9_2 (⟨(rd_T35 l0 x11_2).f3, x10_2⟩ : S75) [.int .i64 ((rd_T35 l0 x11_2).f3), .int .i64 x10_2] (fun _ => True) (fun _ => False) rfl (by first | (go_simp; done) | (go_simp; rfl)) ?aP (fun _ hk => hk.elim) ?aF ?aO ?aB ?aS ?aL ?_; (case aP => exact k75_mkM _ _ _ (⟨(rd_T35 l0 x11_2).f3, x10_2⟩ : S75)); (case aB => exact (by repeat (first | (with_reducible first | exact HB.out | apply below_alloc | apply pw_below_drewN | apply below_drew1 | refine below_set ?_ GE147.out) | exact HB.out))); (case aF => exact (fun _ _ => trivial)); (case aO => exact (by (with_reducible repeat (first | apply Kd.R_alloc | apply Kd.R_drewN | apply Kd.R_drew)); exact Kd.R_mono (Kd.R_far (p := ⟨gb147, 4, none⟩) (Kd.R_far (p := ⟨gb147, 3, none⟩) (Kd.R_far (p := ⟨gb147, 2, none⟩) (Kd.R_far (p := ⟨gb147, 1, none⟩) (Kd.R_far (p := ⟨gb147, 0, none⟩) (Kd.R_types HO_9.out BK147.out (by decide)) (fun _ hk => hk.2) (.int .i64 ((rd_T35 l0 x11_2).f0))) (fun _ hk => hk.2) (.slice A145_1 ((rd_T35 l0 x11_2).f1).length c145_1)) (fun _ hk => hk.2) (.slice A145_2 ((rd_T35 l0 x11_2).f2).length c145_2)) (fun _ hk => hk.2) (.int .i64 ((rd_T35 l0 x11_2).f3))) (fun _ hk => hk.2) (.int .i64 ((rd_T35 l0 x11_2).f4))) (fun _ hk => trivial))); (case aS => exact (below_size (by repeat (first | (with_reducible first | exact HB.out | apply below_alloc | apply pw_below_drewN | apply below_drew1 | refine below_set ?_ GE147.out) | exact HB.out)))); (case aL => have := LMc27.out; omega); intro v149 w29 ho hb hg hat; rw [← Ny148.out] at ho; have n0_ := Aside0.mk (Kd.S_over' (by (with_reducible repeat (first | apply Kd.S_alloc | apply Kd.S_drewN | apply Kd.S_drew)); exact (Kd.S_mono (Kd.S_far (p := ⟨gb147, 4, none⟩) (Kd.S_far (p := ⟨gb147, 3, none⟩) (Kd.S_far (p := ⟨gb147, 2, none⟩) (Kd.S_far (p := ⟨gb147, 1, none⟩) (Kd.S_far (p := ⟨gb147, 0, none⟩) (Kd.S_types HO_8.out BK147.out (by decide)) (fun _ hk => hk.2) (.int .i64 ((rd_T35 l0 x11_2).f0))) (fun _ hk => hk.2) (.slice A145_1 ((rd_T35 l0 x11_2).f1).length c145_1)) (fun _ hk => hk.2) (.slice A145_2 ((rd_T35 l0 x11_2).f2).length c145_2)) (fun _ hk => hk.2) (.int .i64 ((rd_T35 l0 x11_2).f3))) (fun _ hk => hk.2) (.int .i64 ((rd_T35 l0 x11_2).f4))) (fun _ h_ => h_.1))) (Kd.R_typed (by (with_reducible repeat (first | apply Kd.R_alloc | apply Kd.R_drewN | apply Kd.R_drew)); exact (Kd.R_mono (Kd.R_far (p := ⟨gb147, 4, none⟩) (Kd.R_far (p := ⟨gb147, 3, none⟩) (Kd.R_far (p := ⟨gb147, 2, none⟩) (Kd.R_far (p := ⟨gb147, 1, none⟩) (Kd.R_far (p := ⟨gb147, 0, none⟩) (Kd.R_types HO_9.out BK147.out (by decide)) (fun _ hk => hk.2) (.int .i64 ((rd_T35 l0 x11_2).f0))) (fun _ hk => hk.2) (.slice A145_1 ((rd_T35 l0 x11_2).f1).length c145_1)) (fun _ hk => hk.2) (.slice A145_2 ((rd_T35 l0 x11_2).f2).length c145_2)) (fun _ hk => hk.2) (.int .i64 ((rd_T35 l0 x11_2).f3))) (fun _ hk => hk.2) (.int .i64 ((rd_T35 l0 x11_2).f4))) (fun _ h_ => h_.1)))) (by decide) hg); have n1_ := Aside0.mk (blk_grown (g := gb147) (o := .cells #[.int .i64 ((rd_T35 l0 x11_2).f0), .slice A145_1 ((rd_T35 l0 x11_2).f1).length c145_1, .slice A145_2 ((rd_T35 l0 x11_2).f2).length c145_2, .int .i64 ((rd_T35 l0 x11_2).f3), .int .i64 ((rd_T35 l0 x11_2).f4)] 35 (0, 0)) (by (with_reducible repeat (first | refine blk_drewN ?_ _ | refine blk_drew ?_ | refine blk_alloc ?_ _)); refine blk_put (cs := #[.int .i64 ((rd_T35 l0 x11_2).f0), .slice A145_1 ((rd_T35 l0 x11_2).f1).length c145_1, .slice A145_2 ((rd_T35 l0 x11_2).f2).length c145_2, .int .i64 ((rd_T35 l0 x11_2).f3), .int .i64 0]) ?_ 4 _ rfl; (with_reducible repeat (first | refine blk_drewN ?_ _ | refine blk_drew ?_ | refine blk_alloc ?_ _)); refine blk_put (cs := #[.int .i64 ((rd_T35 l0 x11_2).f0), .slice A145_1 ((rd_T35 l0 x11_2).f1).length c145_1, .slice A145_2 ((rd_T35 l0 x11_2).f2).length c145_2, .int .i64 0, .int .i64 0]) ?_ 3 _ rfl; (with_reducible repeat (first | refine blk_drewN ?_ _ | refine blk_drew ?_ | refine blk_alloc ?_ _)); refine blk_put (cs := #[.int .i64 ((rd_T35 l0 x11_2).f0), .slice A145_1 ((rd_T35 l0 x11_2).f1).length c145_1, .slice none 0 0, .int .i64 0, .int .i64 0]) ?_ 2 _ rfl; (with_reducible repeat (first | refine blk_drewN ?_ _ | refine blk_drew ?_ | refine blk_alloc ?_ _)); refine blk_put (cs := #[.int .i64 ((rd_T35 l0 x11_2).f0), .slice none 0 0, .slice none 0 0, .int .i64 0, .int .i64 0]) ?_ 1 _ rfl; (with_reducible repeat (first | refine blk_drewN ?_ _ | refine blk_drew ?_ | refine blk_alloc ?_ _)); refine blk_put (cs := #[.int .i64 0, .slice none 0 0, .slice none 0 0, .int .i64 0, .int .i64 0]) ?_ 0 _ rfl; (with_reducible repeat (first | refine blk_drewN ?_ _ | refine blk_drew ?_ | refine blk_alloc ?_ _)); exact BK147.out) hg (Kd.R_ne HO_9.out BK147.out (by decide))); have n2_ := Aside0.mk (hb); have n3_ := Aside0.mk (ho); clear HO_8; clear BK147; clear HB; clear HO_9; have HO_8 := n0_; have BK147 := n1_; have HB := n2_; have HO150 := n3_; clear n0_ n1_ n2_ n3_; clear ho hb hg hat; have hcz30_0 : w29.cell? ⟨gb147, 0, none⟩ = some (.int .i64 ((rd_T35 l0 x11_2).f0)) := (blk_cell BK147.out 0).trans rfl; have hcz30_1 : w29.cell? ⟨gb147, 1, none⟩ = some (.slice A145_1 ((rd_T35 l0 x11_2).f1).length c145_1) := (blk_cell BK147.out 1).trans rfl; have hcz30_2 : w29.cell? ⟨gb147, 2, none⟩ = some (.slice A145_2 ((rd_T35 l0 x11_2).f2).length c145_2) := (blk_cell BK147.out 2).trans rfl; have hcz30_3 : w29.cell? ⟨gb147, 3, none⟩ = some (.int .i64 ((rd_T35 l0 x11_2).f3)) := (blk_cell BK147.out 3).trans rfl; have hcz30_4 : w29.cell? ⟨gb147, 4, none⟩ = some (.int .i64 ((rd_T35 l0 x11_2).f4)) := (blk_cell BK147.out 4).trans rfl; have hfz30_0 := blk_frozen BK147.out 0; have hfz30_1 := blk_frozen BK147.out 1; have hfz30_2 := blk_frozen BK147.out 2; have hfz30_3 := blk_frozen BK147.out 3; have hfz30_4 := blk_frozen BK147.out 4))
                              repeat (go_quiet (first | ((with_reducible refine gate_builtin (b := .append) (xs := #[.tmp 49, .tmp 54]) rfl ?_); at_builtin; refine Kd.R_append k75 (w0 := w) w.heap.size rfl (.tmp 49) (.tmp 54) 38 75 (.agg #[(.int .i64 0), (.int .i64 0)]) 16 rfl Try.underlying38 info75 rfl (by decide) (by omega) u9 x9_2 (⟨(rd_T35 l0 x11_2).f3, x10_2⟩ : S75) [.int .i64 ((rd_T35 l0 x11_2).f3), .int .i64 x10_2] (fun _ => True) (fun _ => False) rfl (by first | (go_simp; done) | (go_simp; rfl)) ?aP (fun _ hk => hk.elim) ?aF ?aO ?aB ?aS ?aL ?_; (case aP => exact k75_mkM _ _ _ (⟨(rd_T35 l0 x11_2).f3, x10_2⟩ : S75)); (case aB => exact (by repeat (first | (with_reducible first | exact HB.out | apply below_alloc | apply pw_below_drewN | apply below_drew1 | refine below_set ?_ GE147.out) | exact HB.out))); (case aF => exact (fun _ _ => trivial)); (case aO => exact (by (with_reducible repeat (first | apply Kd.R_alloc | apply Kd.R_drewN | apply Kd.R_drew)); exact Kd.R_mono (Kd.R_far (p := ⟨gb147, 4, none⟩) (Kd.R_far (p := ⟨gb147, 3, none⟩) (Kd.R_far (p := ⟨gb147, 2, none⟩) (Kd.R_far (p := ⟨gb147, 1, none⟩) (Kd.R_far (p := ⟨gb147, 0, none⟩) (Kd.R_types HO_9.out BK147.out (by decide)) (fun _ hk => hk.2) (.int .i64 ((rd_T35 l0 x11_2).f0))) (fun _ hk => hk.2) (.slice A145_1 ((rd_T35 l0 x11_2).f1).length c145_1)) (fun _ hk => hk.2) (.slice A145_2 ((rd_T35 l0 x11_2).f2).length c145_2)) (fun _ hk => hk.2) (.int .i64 ((rd_T35 l0 x11_2).f3))) (fun _ hk => hk.2) (.int .i64 ((rd_T35 l0 x11_2).f4))) (fun _ hk => trivial))); (case aS => exact (below_size (by repeat (first | (with_reducible first | exact HB.out | apply below_alloc | apply pw_below_drewN | apply below_drew1 | refine below_set ?_ GE147.out) | exact HB.out)))); (case aL => have := LMc27.out; omega); intro v149 w29 ho hb hg hat; rw [← Ny148.out] at ho; have n0_ := Aside0.mk (Kd.S_over' (by (with_reducible repeat (first | apply Kd.S_alloc | apply Kd.S_drewN | apply Kd.S_drew)); exact (Kd.S_mono (Kd.S_far (p := ⟨gb147, 4, none⟩) (Kd.S_far (p := ⟨gb147, 3, none⟩) (Kd.S_far (p := ⟨gb147, 2, none⟩) (Kd.S_far (p := ⟨gb147, 1, none⟩) (Kd.S_far (p := ⟨gb147, 0, none⟩) (Kd.S_types HO_8.out BK147.out (by decide)) (fun _ hk => hk.2) (.int .i64 ((rd_T35 l0 x11_2).f0))) (fun _ hk => hk.2) (.slice A145_1 ((rd_T35 l0 x11_2).f1).length c145_1)) (fun _ hk => hk.2) (.slice A145_2 ((rd_T35 l0 x11_2).f2).length c145_2)) (fun _ hk => hk.2) (.int .i64 ((rd_T35 l0 x11_2).f3))) (fun _ hk => hk.2) (.int .i64 ((rd_T35 l0 x11_2).f4))) (fun _ h_ => h_.1))) (Kd.R_typed (by (with_reducible repeat (first | apply Kd.R_alloc | apply Kd.R_drewN | apply Kd.R_drew)); exact (Kd.R_mono (Kd.R_far (p := ⟨gb147, 4, none⟩) (Kd.R_far (p := ⟨gb147, 3, none⟩) (Kd.R_far (p := ⟨gb147, 2, none⟩) (Kd.R_far (p := ⟨gb147, 1, none⟩) (Kd.R_far (p := ⟨gb147, 0, none⟩) (Kd.R_types HO_9.out BK147.out (by decide)) (fun _ hk => hk.2) (.int .i64 ((rd_T35 l0 x11_2).f0))) (fun _ hk => hk.2) (.slice A145_1 ((rd_T35 l0 x11_2).f1).length c145_1)) (fun _ hk => hk.2) (.slice A145_2 ((rd_T35 l0 x11_2).f2).length c145_2)) (fun _ hk => hk.2) (.int .i64 ((rd_T35 l0 x11_2).f3))) (fun _ hk => hk.2) (.int .i64 ((rd_T35 l0 x11_2).f4))) (fun _ h_ => h_.1)))) (by decide) hg); have n1_ := Aside0.mk (blk_grown (g := gb147) (o := .cells #[.int .i64 ((rd_T35 l0 x11_2).f0), .slice A145_1 ((rd_T35 l0 x11_2).f1).length c145_1, .slice A145_2 ((rd_T35 l0 x11_2).f2).length c145_2, .int .i64 ((rd_T35 l0 x11_2).f3), .int .i64 ((rd_T35 l0 x11_2).f4)] 35 (0, 0)) (by (with_reducible repeat (first | refine blk_drewN ?_ _ | refine blk_drew ?_ | refine blk_alloc ?_ _)); refine blk_put (cs := #[.int .i64 ((rd_T35 l0 x11_2).f0), .slice A145_1 ((rd_T35 l0 x11_2).f1).length c145_1, .slice A145_2 ((rd_T35 l0 x11_2).f2).length c145_2, .int .i64 ((rd_T35 l0 x11_2).f3), .int .i64 0]) ?_ 4 _ rfl; (with_reducible repeat (first | refine blk_drewN ?_ _ | refine blk_drew ?_ | refine blk_alloc ?_ _)); refine blk_put (cs := #[.int .i64 ((rd_T35 l0 x11_2).f0), .slice A145_1 ((rd_T35 l0 x11_2).f1).length c145_1, .slice A145_2 ((rd_T35 l0 x11_2).f2).length c145_2, .int .i64 0, .int .i64 0]) ?_ 3 _ rfl; (with_reducible repeat (first | refine blk_drewN ?_ _ | refine blk_drew ?_ | refine blk_alloc ?_ _)); refine blk_put (cs := #[.int .i64 ((rd_T35 l0 x11_2).f0), .slice A145_1 ((rd_T35 l0 x11_2).f1).length c145_1, .slice none 0 0, .int .i64 0, .int .i64 0]) ?_ 2 _ rfl; (with_reducible repeat (first | refine blk_drewN ?_ _ | refine blk_drew ?_ | refine blk_alloc ?_ _)); refine blk_put (cs := #[.int .i64 ((rd_T35 l0 x11_2).f0), .slice none 0 0, .slice none 0 0, .int .i64 0, .int .i64 0]) ?_ 1 _ rfl; (with_reducible repeat (first | refine blk_drewN ?_ _ | refine blk_drew ?_ | refine blk_alloc ?_ _)); refine blk_put (cs := #[.int .i64 0, .slice none 0 0, .slice none 0 0, .int .i64 0, .int .i64 0]) ?_ 0 _ rfl; (with_reducible repeat (first | refine blk_drewN ?_ _ | refine blk_drew ?_ | refine blk_alloc ?_ _)); exact BK147.out) hg (Kd.R_ne HO_9.out BK147.out (by decide))); have n2_ := Aside0.mk (hb); have n3_ := Aside0.mk (ho); clear HO_8; clear BK147; clear HB; clear HO_9; have HO_8 := n0_; have BK147 := n1_; have HB := n2_; have HO150 := n3_; clear n0_ n1_ n2_ n3_; clear ho hb hg hat; have hcz30_0 : w29.cell? ⟨gb147, 0, none⟩ = some (.int .i64 ((rd_T35 l0 x11_2).f0)) := (blk_cell BK147.out 0).trans rfl; have hcz30_1 : w29.cell? ⟨gb147, 1, none⟩ = some (.slice A145_1 ((rd_T35 l0 x11_2).f1).length c145_1) := (blk_cell BK147.out 1).trans rfl; have hcz30_2 : w29.cell? ⟨gb147, 2, none⟩ = some (.slice A145_2 ((rd_T35 l0 x11_2).f2).length c145_2) := (blk_cell BK147.out 2).trans rfl; have hcz30_3 : w29.cell? ⟨gb147, 3, none⟩ = some (.int .i64 ((rd_T35 l0 x11_2).f3)) := (blk_cell BK147.out 3).trans rfl; have hcz30_4 : w29.cell? ⟨gb147, 4, none⟩ = some (.int .i64 ((rd_T35 l0 x11_2).f4)) := (blk_cell BK147.out 4).trans rfl; have hfz30_0 := blk_frozen BK147.out 0; have hfz30_1 := blk_frozen BK147.out 1; have hfz30_2 := blk_frozen BK147.out 2; have hfz30_3 := blk_frozen BK147.out 3; have hfz30_4 := blk_frozen BK147.out 4)); try go_wp2_with (first | ((with_reducible refine gate_builtin (b := .append) (xs := #[.tmp 49, .tmp 54]) rfl ?_); at_builtin; refine Kd.R_append k75 (w0 := w) w.heap.size rfl (.tmp 49) (.tmp 54) 38 75 (.agg #[(.int .i64 0), (.int .i64 0)]) 16 rfl Try.underlying38 info75 rfl (by decide) (by omega) u9 x9_2 (⟨(rd_T35 l0 x11_2).f3, x10_2⟩ : S75) [.int .i64 ((rd_T35 l0 x11_2).f3), .int .i64 x10_2] (fun _ => True) (fun _ => False) rfl (by first | (go_simp; done) | (go_simp; rfl)) ?aP (fun _ hk => hk.elim) ?aF ?aO ?aB ?aS ?aL ?_; (case aP => exact k75_mkM _ _ _ (⟨(rd_T35 l0 x11_2).f3, x10_2⟩ : S75)); (case aB => exact (by repeat (first | (with_reducible first | exact HB.out | apply below_alloc | apply pw_below_drewN | apply below_drew1 | refine below_set ?_ GE147.out) | exact HB.out))); (case aF => exact (fun _ _ => trivial)); (case aO => exact (by (with_reducible repeat (first | apply Kd.R_alloc | apply Kd.R_drewN | apply Kd.R_drew)); exact Kd.R_mono (Kd.R_far (p := ⟨gb147, 4, none⟩) (Kd.R_far (p := ⟨gb147, 3, none⟩) (Kd.R_far (p := ⟨gb147, 2, none⟩) (Kd.R_far (p := ⟨gb147, 1, none⟩) (Kd.R_far (p := ⟨gb147, 0, none⟩) (Kd.R_types HO_9.out BK147.out (by decide)) (fun _ hk => hk.2) (.int .i64 ((rd_T35 l0 x11_2).f0))) (fun _ hk => hk.2) (.slice A145_1 ((rd_T35 l0 x11_2).f1).length c145_1)) (fun _ hk => hk.2) (.slice A145_2 ((rd_T35 l0 x11_2).f2).length c145_2)) (fun _ hk => hk.2) (.int .i64 ((rd_T35 l0 x11_2).f3))) (fun _ hk => hk.2) (.int .i64 ((rd_T35 l0 x11_2).f4))) (fun _ hk => trivial))); (case aS => exact (below_size (by repeat (first | (with_reducible first | exact HB.out | apply below_alloc | apply pw_below_drewN | apply below_drew1 | refine below_set ?_ GE147.out) | exact HB.out)))); (case aL => have := LMc27.out; omega); intro v149 w29 ho hb hg hat; rw [← Ny148.out] at ho; have n0_ := Aside0.mk (Kd.S_over' (by (with_reducible repeat (first | apply Kd.S_alloc | apply Kd.S_drewN | apply Kd.S_drew)); exact (Kd.S_mono (Kd.S_far (p := ⟨gb147, 4, none⟩) (Kd.S_far (p := ⟨gb147, 3, none⟩) (Kd.S_far (p := ⟨gb147, 2, none⟩) (Kd.S_far (p := ⟨gb147, 1, none⟩) (Kd.S_far (p := ⟨gb147, 0, none⟩) (Kd.S_types HO_8.out BK147.out (by decide)) (fun _ hk => hk.2) (.int .i64 ((rd_T35 l0 x11_2).f0))) (fun _ hk => hk.2) (.slice A145_1 ((rd_T35 l0 x11_2).f1).length c145_1)) (fun _ hk => hk.2) (.slice A145_2 ((rd_T35 l0 x11_2).f2).length c145_2)) (fun _ hk => hk.2) (.int .i64 ((rd_T35 l0 x11_2).f3))) (fun _ hk => hk.2) (.int .i64 ((rd_T35 l0 x11_2).f4))) (fun _ h_ => h_.1))) (Kd.R_typed (by (with_reducible repeat (first | apply Kd.R_alloc | apply Kd.R_drewN | apply Kd.R_drew)); exact (Kd.R_mono (Kd.R_far (p := ⟨gb147, 4, none⟩) (Kd.R_far (p := ⟨gb147, 3, none⟩) (Kd.R_far (p := ⟨gb147, 2, none⟩) (Kd.R_far (p := ⟨gb147, 1, none⟩) (Kd.R_far (p := ⟨gb147, 0, none⟩) (Kd.R_types HO_9.out BK147.out (by decide)) (fun _ hk => hk.2) (.int .i64 ((rd_T35 l0 x11_2).f0))) (fun _ hk => hk.2) (.slice A145_1 ((rd_T35 l0 x11_2).f1).length c145_1)) (fun _ hk => hk.2) (.slice A145_2 ((rd_T35 l0 x11_2).f2).length c145_2)) (fun _ hk => hk.2) (.int .i64 ((rd_T35 l0 x11_2).f3))) (fun _ hk => hk.2) (.int .i64 ((rd_T35 l0 x11_2).f4))) (fun _ h_ => h_.1)))) (by decide) hg); have n1_ := Aside0.mk (blk_grown (g := gb147) (o := .cells #[.int .i64 ((rd_T35 l0 x11_2).f0), .slice A145_1 ((rd_T35 l0 x11_2).f1).length c145_1, .slice A145_2 ((rd_T35 l0 x11_2).f2).length c145_2, .int .i64 ((rd_T35 l0 x11_2).f3), .int .i64 ((rd_T35 l0 x11_2).f4)] 35 (0, 0)) (by (with_reducible repeat (first | refine blk_drewN ?_ _ | refine blk_drew ?_ | refine blk_alloc ?_ _)); refine blk_put (cs := #[.int .i64 ((rd_T35 l0 x11_2).f0), .slice A145_1 ((rd_T35 l0 x11_2).f1).length c145_1, .slice A145_2 ((rd_T35 l0 x11_2).f2).length c145_2, .int .i64 ((rd_T35 l0 x11_2).f3), .int .i64 0]) ?_ 4 _ rfl; (with_reducible repeat (first | refine blk_drewN ?_ _ | refine blk_drew ?_ | refine blk_alloc ?_ _)); refine blk_put (cs := #[.int .i64 ((rd_T35 l0 x11_2).f0), .slice A145_1 ((rd_T35 l0 x11_2).f1).length c145_1, .slice A145_2 ((rd_T35 l0 x11_2).f2).length c145_2, .int .i64 0, .int .i64 0]) ?_ 3 _ rfl; (with_reducible repeat (first | refine blk_drewN ?_ _ | refine blk_drew ?_ | refine blk_alloc ?_ _)); refine blk_put (cs := #[.int .i64 ((rd_T35 l0 x11_2).f0), .slice A145_1 ((rd_T35 l0 x11_2).f1).length c145_1, .slice none 0 0, .int .i64 0, .int .i64 0]) ?_ 2 _ rfl; (with_reducible repeat (first | refine blk_drewN ?_ _ | refine blk_drew ?_ | refine blk_alloc ?_ _)); refine blk_put (cs := #[.int .i64 ((rd_T35 l0 x11_2).f0), .slice none 0 0, .slice none 0 0, .int .i64 0, .int .i64 0]) ?_ 1 _ rfl; (with_reducible repeat (first | refine blk_drewN ?_ _ | refine blk_drew ?_ | refine blk_alloc ?_ _)); refine blk_put (cs := #[.int .i64 0, .slice none 0 0, .slice none 0 0, .int .i64 0, .int .i64 0]) ?_ 0 _ rfl; (with_reducible repeat (first | refine blk_drewN ?_ _ | refine blk_drew ?_ | refine blk_alloc ?_ _)); exact BK147.out) hg (Kd.R_ne HO_9.out BK147.out (by decide))); have n2_ := Aside0.mk (hb); have n3_ := Aside0.mk (ho); clear HO_8; clear BK147; clear HB; clear HO_9; have HO_8 := n0_; have BK147 := n1_; have HB := n2_; have HO150 := n3_; clear n0_ n1_ n2_ n3_; clear ho hb hg hat; have hcz30_0 : w29.cell? ⟨gb147, 0, none⟩ = some (.int .i64 ((rd_T35 l0 x11_2).f0)) := (blk_cell BK147.out 0).trans rfl; have hcz30_1 : w29.cell? ⟨gb147, 1, none⟩ = some (.slice A145_1 ((rd_T35 l0 x11_2).f1).length c145_1) := (blk_cell BK147.out 1).trans rfl; have hcz30_2 : w29.cell? ⟨gb147, 2, none⟩ = some (.slice A145_2 ((rd_T35 l0 x11_2).f2).length c145_2) := (blk_cell BK147.out 2).trans rfl; have hcz30_3 : w29.cell? ⟨gb147, 3, none⟩ = some (.int .i64 ((rd_T35 l0 x11_2).f3)) := (blk_cell BK147.out 3).trans rfl; have hcz30_4 : w29.cell? ⟨gb147, 4, none⟩ = some (.int .i64 ((rd_T35 l0 x11_2).f4)) := (blk_cell BK147.out 4).trans rfl; have hfz30_0 := blk_frozen BK147.out 0; have hfz30_1 := blk_frozen BK147.out 1; have hfz30_2 := blk_frozen BK147.out 2; have hfz30_3 := blk_frozen BK147.out 3; have hfz30_4 := blk_frozen BK147.out 4)))
                              go_meet
                              case rel => exact ⟨_, (y148), ((rd_T35 l0 x11_2).f4), (by first | rfl | (simp; done) | (simp [*]; done)), H', ⟨by have := HJ3.out; have := HK2.out; first | omega | exact Nat.le_refl _⟩, ⟨by (with_reducible repeat (first | apply Kd.S_alloc | apply Kd.S_drewN | apply Kd.S_drew)); exact HO_8.out⟩, ⟨by (with_reducible repeat (first | apply Kd.R_alloc | apply Kd.R_drewN | apply Kd.R_drew)); exact HO150.out⟩, ⟨by (with_reducible repeat (first | refine blk_drewN ?_ _ | refine blk_drew ?_ | refine blk_alloc ?_ _)); exact BK147.out⟩, ⟨by repeat (first | (with_reducible first | exact HB.out | apply below_alloc | apply pw_below_drewN | apply below_drew1 | refine below_set ?_ GE147.out) | exact HB.out)⟩⟩
                            · rw [if_neg c27] at H
                              exact absurd H (by simp)
                          · rw [if_neg c26] at H
                            have c26b0 : (((rd_T35 l0 x11_2).f0) == 3) = false := beq_eq_false_iff_ne.mpr c26
                            have c26b1 : (((rd_T35 l0 x11_2).f0) != 3) = true := bne_iff_ne.mpr c26
                            (first | rw [c26b0] | (simp only [i64_w, i32_w]; rw [c26b0]) | skip)
                            have H' := Aside0.mk H
                            clear H
                            go_wp2
                            repeat (go_quiet (fail); try go_wp2)
                            go_meet
                            case rel => exact ⟨_, (x9_2), (x11_2), (by first | rfl | (simp; done) | (simp [*]; done)), H', ⟨by have := HJ3.out; have := HK2.out; first | omega | exact Nat.le_refl _⟩, ⟨by (with_reducible repeat (first | apply Kd.S_alloc | apply Kd.S_drewN | apply Kd.S_drew)); exact Kd.S_mono (Kd.S_far (p := ⟨gb147, 4, none⟩) (Kd.S_far (p := ⟨gb147, 3, none⟩) (Kd.S_far (p := ⟨gb147, 2, none⟩) (Kd.S_far (p := ⟨gb147, 1, none⟩) (Kd.S_far (p := ⟨gb147, 0, none⟩) (Kd.S_types HO_8.out BK147.out (by decide)) (fun _ hk => hk.2) (.int .i64 ((rd_T35 l0 x11_2).f0))) (fun _ hk => hk.2) (.slice A145_1 ((rd_T35 l0 x11_2).f1).length c145_1)) (fun _ hk => hk.2) (.slice A145_2 ((rd_T35 l0 x11_2).f2).length c145_2)) (fun _ hk => hk.2) (.int .i64 ((rd_T35 l0 x11_2).f3))) (fun _ hk => hk.2) (.int .i64 ((rd_T35 l0 x11_2).f4))) (fun _ hk => trivial)⟩, ⟨by (with_reducible repeat (first | apply Kd.R_alloc | apply Kd.R_drewN | apply Kd.R_drew)); exact Kd.R_mono (Kd.R_far (p := ⟨gb147, 4, none⟩) (Kd.R_far (p := ⟨gb147, 3, none⟩) (Kd.R_far (p := ⟨gb147, 2, none⟩) (Kd.R_far (p := ⟨gb147, 1, none⟩) (Kd.R_far (p := ⟨gb147, 0, none⟩) (Kd.R_types HO_9.out BK147.out (by decide)) (fun _ hk => hk.2) (.int .i64 ((rd_T35 l0 x11_2).f0))) (fun _ hk => hk.2) (.slice A145_1 ((rd_T35 l0 x11_2).f1).length c145_1)) (fun _ hk => hk.2) (.slice A145_2 ((rd_T35 l0 x11_2).f2).length c145_2)) (fun _ hk => hk.2) (.int .i64 ((rd_T35 l0 x11_2).f3))) (fun _ hk => hk.2) (.int .i64 ((rd_T35 l0 x11_2).f4))) (fun _ hk => trivial)⟩, ⟨by (with_reducible repeat (first | refine blk_drewN ?_ _ | refine blk_drew ?_ | refine blk_alloc ?_ _)); refine blk_put (cs := #[.int .i64 ((rd_T35 l0 x11_2).f0), .slice A145_1 ((rd_T35 l0 x11_2).f1).length c145_1, .slice A145_2 ((rd_T35 l0 x11_2).f2).length c145_2, .int .i64 ((rd_T35 l0 x11_2).f3), .int .i64 0]) ?_ 4 _ rfl; (with_reducible repeat (first | refine blk_drewN ?_ _ | refine blk_drew ?_ | refine blk_alloc ?_ _)); refine blk_put (cs := #[.int .i64 ((rd_T35 l0 x11_2).f0), .slice A145_1 ((rd_T35 l0 x11_2).f1).length c145_1, .slice A145_2 ((rd_T35 l0 x11_2).f2).length c145_2, .int .i64 0, .int .i64 0]) ?_ 3 _ rfl; (with_reducible repeat (first | refine blk_drewN ?_ _ | refine blk_drew ?_ | refine blk_alloc ?_ _)); refine blk_put (cs := #[.int .i64 ((rd_T35 l0 x11_2).f0), .slice A145_1 ((rd_T35 l0 x11_2).f1).length c145_1, .slice none 0 0, .int .i64 0, .int .i64 0]) ?_ 2 _ rfl; (with_reducible repeat (first | refine blk_drewN ?_ _ | refine blk_drew ?_ | refine blk_alloc ?_ _)); refine blk_put (cs := #[.int .i64 ((rd_T35 l0 x11_2).f0), .slice none 0 0, .slice none 0 0, .int .i64 0, .int .i64 0]) ?_ 1 _ rfl; (with_reducible repeat (first | refine blk_drewN ?_ _ | refine blk_drew ?_ | refine blk_alloc ?_ _)); refine blk_put (cs := #[.int .i64 0, .slice none 0 0, .slice none 0 0, .int .i64 0, .int .i64 0]) ?_ 0 _ rfl; (with_reducible repeat (first | refine blk_drewN ?_ _ | refine blk_drew ?_ | refine blk_alloc ?_ _)); exact BK147.out⟩, ⟨by repeat (first | (with_reducible first | exact HB.out | apply below_alloc | apply pw_below_drewN | apply below_drew1 | refine below_set ?_ GE147.out) | exact HB.out)⟩⟩
                        case rest =>
                          clear HC23
                          try clear c1
                          try clear p1
                          try clear q1
                          try clear hx1
                          try clear qi1
                          try clear c2
                          try clear p2
                          try clear c6
                          try clear c7
                          try clear c7b0
                          try clear c11
                          try clear c13
                          try clear c13b0
                          try clear c13b1
                          try clear c14
                          try clear c14b0
                          try clear c14b1
                          try clear p14
                          try clear q14
                          try clear hx14
                          try clear qi14
                          try clear c15
                          try clear c15b0
                          try clear c20
                          try clear c20b0
                          try clear c21
                          try clear c21b0
                          try clear c22
                          try clear c22b0
                          try clear c22b1
                          try clear c26
                          try clear c26b0
                          try clear c26b1
                          try clear c27
                          try clear hcz25_0
                          try clear hcz25_1
                          try clear hcz25_2
                          try clear hcz25_3
                          try clear hcz25_4
                          try clear hcz28_0
                          try clear hcz28_1
                          try clear hcz28_2
                          try clear hcz28_3
                          try clear hcz28_4
                          try clear hcz30_0
                          try clear hcz30_1
                          try clear hcz30_2
                          try clear hcz30_3
                          try clear hcz30_4
                          try clear hfz25_0
                          try clear hfz25_1
                          try clear hfz25_2
                          try clear hfz25_3
                          try clear hfz25_4
                          try clear hfz28_0
                          try clear hfz28_1
                          try clear hfz28_2
                          try clear hfz28_3
                          try clear hfz28_4
                          try clear hfz30_0
                          try clear hfz30_1
                          try clear hfz30_2
                          try clear hfz30_3
                          try clear hfz30_4
                          try clear hx143_0
                          try clear hx144_0
                          try clear hx145_0
                          try clear hx145_1
                          try clear hx145_2
                          try clear hx145_3
                          try clear hx145_4
                          try clear hx146_0
                          try clear hx146_1
                          try clear hx146_2
                          try clear hx146_3
                          try clear hx146_4
                          try clear p1
                          try clear p14
                          try clear p143
                          try clear p144
                          try clear p145
                          try clear p146
                          try clear p2
                          try clear q1
                          try clear q14
                          try clear q143
                          try clear q144
                          try clear q145
                          try clear q146
                          obtain ⟨kq, x9_22, x11_22, rfl, HA, HJ22, HO_8, HO_9, BK147, HB⟩ := hcut
                          cases kq with
                          | zero => exact absurd HA.out (by simp [phalaroperef17_Way.j2])
                          | succ kj22 =>
                            have H := HA.out
                            clear HA
                            simp only [phalaroperef17_Way.j2] at H
                            have HC31 := Aside0.mk H
                            clear H
                            have hcz32_0 : wc.cell? ⟨gb147, 0, none⟩ = some (.int .i64 ((rd_T35 l0 x11_2).f0)) := (blk_cell BK147.out 0).trans rfl
                            have hcz32_1 : wc.cell? ⟨gb147, 1, none⟩ = some (.slice A145_1 ((rd_T35 l0 x11_2).f1).length c145_1) := (blk_cell BK147.out 1).trans rfl
                            have hcz32_2 : wc.cell? ⟨gb147, 2, none⟩ = some (.slice A145_2 ((rd_T35 l0 x11_2).f2).length c145_2) := (blk_cell BK147.out 2).trans rfl
                            have hcz32_3 : wc.cell? ⟨gb147, 3, none⟩ = some (.int .i64 ((rd_T35 l0 x11_2).f3)) := (blk_cell BK147.out 3).trans rfl
                            have hcz32_4 : wc.cell? ⟨gb147, 4, none⟩ = some (.int .i64 ((rd_T35 l0 x11_2).f4)) := (blk_cell BK147.out 4).trans rfl
                            have hfz32_0 := blk_frozen BK147.out 0
                            have hfz32_1 := blk_frozen BK147.out 1
                            have hfz32_2 := blk_frozen BK147.out 2
                            have hfz32_3 := blk_frozen BK147.out 3
                            have hfz32_4 := blk_frozen BK147.out 4
                            go_upto_if 60 with (fail)
                            repeat (go_quiet (fail); go_upto_if 60 with (fail))
                            go_cut [2, 11] (fun v2 v11 wc => ∃ (kq : Nat) (x2_30 : Int) (x11_30 : Int), v2 = .int .i64 x2_30 ∧ v11 = .int .i64 x11_30 ∧ Aside0 (phalaroperef17_Way.j4 kq l0 a1 x2_30 t140 x9_22 x10_2 x11_30 ((rd_T35 l0 x11_2).f0) ((rd_T35 l0 x11_2).f1) ((rd_T35 l0 x11_2).f2) ((rd_T35 l0 x11_2).f3) ((rd_T35 l0 x11_2).f4) = some (r1, r2)) ∧ Aside0 (kq ≤ kj22) ∧ Aside0 (Kd.S (Kd.slice 3 (Kd.int .i64)) 33 wc w.heap.size (fun _ => True) (.slice (some ad143) t140.length co19) t140) ∧ Aside0 (Kd.R k75 75 wc w.heap.size (fun _ => True) u9 x9_22) ∧ Aside0 (wc.heap[gb147]? = some (.cells #[.int .i64 ((rd_T35 l0 x11_2).f0), (.slice A145_1 ((rd_T35 l0 x11_2).f1).length c145_1), (.slice A145_2 ((rd_T35 l0 x11_2).f2).length c145_2), .int .i64 ((rd_T35 l0 x11_2).f3), .int .i64 ((rd_T35 l0 x11_2).f4)] 35 (0, 0))) ∧ Aside0 (Below w.heap.size w wc))
                            case first =>
                              have H := HC31.out
                              clear HC31
                              by_cases c33 : ((rd_T35 l0 x11_2).f0) = 2
                              · rw [if_pos c33] at H
                                have c33b0 : (((rd_T35 l0 x11_2).f0) == 2) = true := beq_iff_eq.mpr c33
                                have c33b1 : (((rd_T35 l0 x11_2).f0) != 2) = false := bne_eq_false_iff_eq.mpr c33
                                clear c33
                                (first | rw [c33b0] | (simp only [i64_w, i32_w]; rw [c33b0]) | skip)
                                have H' := Aside0.mk H
                                clear H
                                go_wp2
                                repeat (go_quiet (fail); try go_wp2)
                                go_loopg [2, 13] kj22 (fun kq v2 v13 w' => ∃ (x2_4 : Int) (x13_4 : Int), v2 = .int .i64 x2_4 ∧ v13 = .int .i64 x13_4 ∧ Aside0 (phalaroperef17_Way.l1 kq l0 a1 x2_4 t140 x9_22 x10_2 x13_4 ((rd_T35 l0 x11_2).f0) ((rd_T35 l0 x11_2).f1) ((rd_T35 l0 x11_2).f2) ((rd_T35 l0 x11_2).f3) ((rd_T35 l0 x11_2).f4) = some (r1, r2)) ∧ Aside0 (kq ≤ kj22) ∧ Aside0 (Kd.S (Kd.slice 3 (Kd.int .i64)) 33 w' w.heap.size (fun _ => True) (.slice (some ad143) t140.length co19) t140) ∧ Aside0 (Kd.R k75 75 w' w.heap.size (fun _ => True) u9 x9_22) ∧ Aside0 (w'.heap[gb147]? = some (.cells #[.int .i64 ((rd_T35 l0 x11_2).f0), (.slice A145_1 ((rd_T35 l0 x11_2).f1).length c145_1), (.slice A145_2 ((rd_T35 l0 x11_2).f2).length c145_2), .int .i64 ((rd_T35 l0 x11_2).f3), .int .i64 ((rd_T35 l0 x11_2).f4)] 35 (0, 0))) ∧ Aside0 (Below w.heap.size w w'))
                                case atStart => exact ⟨(x2_2), (0), (by first | rfl | (simp; done) | (simp [*]; done)), (by first | rfl | (simp; done) | (simp [*]; done)), H', ⟨Nat.le_refl _⟩, ⟨by (with_reducible repeat (first | apply Kd.S_alloc | apply Kd.S_drewN | apply Kd.S_drew)); exact HO_8.out⟩, ⟨by (with_reducible repeat (first | apply Kd.R_alloc | apply Kd.R_drewN | apply Kd.R_drew)); exact HO_9.out⟩, ⟨by (with_reducible repeat (first | refine blk_drewN ?_ _ | refine blk_drew ?_ | refine blk_alloc ?_ _)); exact BK147.out⟩, ⟨by repeat (first | (with_reducible first | exact HB.out | apply below_alloc | apply pw_below_drewN | apply below_drew1 | refine below_set ?_ GE147.out) | exact HB.out)⟩⟩
                                case round =>
                                  clear H'
                                  try clear c1
                                  try clear p1
                                  try clear q1
                                  try clear hx1
                                  try clear qi1
                                  try clear c2
                                  try clear p2
                                  try clear c3
                                  try clear c6
                                  try clear c7
                                  try clear c7b0
                                  try clear c11
                                  try clear c13
                                  try clear c13b0
                                  try clear c13b1
                                  try clear c14
                                  try clear c14b0
                                  try clear c14b1
                                  try clear p14
                                  try clear q14
                                  try clear hx14
                                  try clear qi14
                                  try clear c15
                                  try clear c15b0
                                  try clear c20
                                  try clear c20b0
                                  try clear c21
                                  try clear c21b0
                                  try clear c22
                                  try clear c22b0
                                  try clear c22b1
                                  try clear c26
                                  try clear c26b0
                                  try clear c26b1
                                  try clear c27
                                  try clear c33
                                  try clear c33b0
                                  try clear c33b1
                                  try clear hcz25_0
                                  try clear hcz25_1
                                  try clear hcz25_2
                                  try clear hcz25_3
                                  try clear hcz25_4
                                  try clear hcz28_0
                                  try clear hcz28_1
                                  try clear hcz28_2
                                  try clear hcz28_3
                                  try clear hcz28_4
                                  try clear hcz30_0
                                  try clear hcz30_1
                                  try clear hcz30_2
                                  try clear hcz30_3
                                  try clear hcz30_4
                                  try clear hcz32_0
                                  try clear hcz32_1
                                  try clear hcz32_2
                                  try clear hcz32_3
                                  try clear hcz32_4
                                  try clear hfz25_0
                                  try clear hfz25_1
                                  try clear hfz25_2
                                  try clear hfz25_3
                                  try clear hfz25_4
                                  try clear hfz28_0
                                  try clear hfz28_1
                                  try clear hfz28_2
                                  try clear hfz28_3
                                  try clear hfz28_4
                                  try clear hfz30_0
                                  try clear hfz30_1
                                  try clear hfz30_2
                                  try clear hfz30_3
                                  try clear hfz30_4
                                  try clear hfz32_0
                                  try clear hfz32_1
                                  try clear hfz32_2
                                  try clear hfz32_3
                                  try clear hfz32_4
                                  try clear hx143_0
                                  try clear hx144_0
                                  try clear hx145_0
                                  try clear hx145_1
                                  try clear hx145_2
                                  try clear hx145_3
                                  try clear hx145_4
                                  try clear hx146_0
                                  try clear hx146_1
                                  try clear hx146_2
                                  try clear hx146_3
                                  try clear hx146_4
                                  try clear p1
                                  try clear p14
                                  try clear p143
                                  try clear p144
                                  try clear p145
                                  try clear p146
                                  try clear p2
                                  try clear q1
                                  try clear q14
                                  try clear q143
                                  try clear q144
                                  try clear q145
                                  try clear q146
                                  obtain ⟨x2_4, x13_4, rfl, rfl, HA, HK4, HO_8, HO_9, BK147, HB⟩ := hrel
                                  cases gk with
                                  | zero => exact absurd HA.out (by simp [phalaroperef17_Way.l1])
                                  | succ k4 =>
                                    have H := HA.out
                                    clear HA
                                    simp only [phalaroperef17_Way.l1] at H
                                    by_cases c34 : 0 ≤ x10_2
                                    · rw [if_pos c34] at H
                                      have c34b0 : decide (0 ≤ x10_2) = true := decide_eq_true c34
                                      clear c34
                                      by_cases c35 : x10_2 < (t140.length : Int)
                                      · rw [if_pos c35] at H
                                        have c35b0 : decide (x10_2 < (t140.length : Int)) = true := decide_eq_true c35
                                        clear c35
                                        by_cases c36 : 0 ≤ x13_4
                                        · rw [if_pos c36] at H
                                          have c36b0 : decide (0 ≤ x13_4) = true := decide_eq_true c36
                                          clear c36
                                          by_cases c37 : x13_4 < (((rd_T35 l0 x11_2).f2).length : Int)
                                          · rw [if_pos c37] at H
                                            have c37b0 : decide (x13_4 < (((rd_T35 l0 x11_2).f2).length : Int)) = true := decide_eq_true c37
                                            clear c37
                                            by_cases c38 : 0 ≤ (rd ((rd_T35 l0 x11_2).f2) x13_4)
                                            · rw [if_pos c38] at H
                                              have c38b0 : decide (0 ≤ (rd ((rd_T35 l0 x11_2).f2) x13_4)) = true := decide_eq_true c38
                                              clear c38
                                              by_cases c39 : (rd ((rd_T35 l0 x11_2).f2) x13_4) < ((rd_L4 t140 x10_2).length : Int)
                                              · rw [if_pos c39] at H
                                                have c39b0 : decide ((rd ((rd_T35 l0 x11_2).f2) x13_4) < ((rd_L4 t140 x10_2).length : Int)) = true := decide_eq_true c39
                                                clear c39
                                                by_cases c40 : x2_4 ≥ (rd (rd_L4 t140 x10_2) (rd ((rd_T35 l0 x11_2).f2) x13_4))
                                                · rw [if_pos c40] at H
                                                  have c40b0 : decide ((rd (rd_L4 t140 x10_2) (rd ((rd_T35 l0 x11_2).f2) x13_4)) ≤ x2_4) = true := decide_eq_true c40
                                                  clear c40
                                                  have H' := Aside0.mk H
                                                  clear H
                                                  have p151 : 0 ≤ (x10_2 : Int) := of_decide_eq_true (by first | (with_reducible assumption) | assumption)
                                                  have q151 : x10_2 < (t140.length : Int) := of_decide_eq_true (by first | (with_reducible assumption) | assumption)
                                                  obtain ⟨ad151, A151_0, c151_0, e151, hx151_0, hl151_0, hi151_0⟩ := at_L4 (Kd.S_reads' HO_8.out).2.2 x10_2 p151 q151
                                                  obtain rfl : ad143 = ad151 := (by injection e151)
                                                  obtain ⟨ce151, hce151, hMe151, hcc151⟩ := Kd.S_get HO_8.out [] x10_2 p151 (by first | exact q151 | exact of_decide_eq_true (by first | (with_reducible assumption) | assumption) | (have e_ := (Kd.S_reads' HO_8.out).1; omega))
                                                  obtain ⟨ve151_0, rfl, ge151_0⟩ := hMe151
                                                  have hv151_0 := hcc151 0 _ rfl
                                                  rw [Nat.add_zero, show ((Kd.slice 3 (Kd.int .i64))).sz = 1 from rfl, Nat.mul_one] at hv151_0
                                                  replace hv151_0 := Option.some.inj (hv151_0.symm.trans hx151_0)
                                                  rw [hv151_0] at ge151_0
                                                  have HL151_0 := Aside0.mk (show Kd.R (Kd.int .i64) 3 _ _ _ _ (rd_L4 t140 x10_2) from ge151_0)
                                                  clear hv151_0 ge151_0
                                                  clear hcc151 hce151
                                                  have HR151_0 := Aside0.mk hi151_0
                                                  have HC151_0 := Aside0.mk hl151_0
                                                  clear hi151_0 hl151_0
                                                  replace p151 := eq_true p151
                                                  replace q151 := eq_true q151
                                                  have hcz41_0 : wr.cell? ⟨gb147, 0, none⟩ = some (.int .i64 ((rd_T35 l0 x11_2).f0)) := (blk_cell BK147.out 0).trans rfl
                                                  have hcz41_1 : wr.cell? ⟨gb147, 1, none⟩ = some (.slice A145_1 ((rd_T35 l0 x11_2).f1).length c145_1) := (blk_cell BK147.out 1).trans rfl
                                                  have hcz41_2 : wr.cell? ⟨gb147, 2, none⟩ = some (.slice A145_2 ((rd_T35 l0 x11_2).f2).length c145_2) := (blk_cell BK147.out 2).trans rfl
                                                  have hcz41_3 : wr.cell? ⟨gb147, 3, none⟩ = some (.int .i64 ((rd_T35 l0 x11_2).f3)) := (blk_cell BK147.out 3).trans rfl
                                                  have hcz41_4 : wr.cell? ⟨gb147, 4, none⟩ = some (.int .i64 ((rd_T35 l0 x11_2).f4)) := (blk_cell BK147.out 4).trans rfl
                                                  have hfz41_0 := blk_frozen BK147.out 0
                                                  have hfz41_1 := blk_frozen BK147.out 1
                                                  have hfz41_2 := blk_frozen BK147.out 2
                                                  have hfz41_3 := blk_frozen BK147.out 3
                                                  have hfz41_4 := blk_frozen BK147.out 4
                                                  have p152 : 0 ≤ (x13_4 : Int) := of_decide_eq_true (by first | (with_reducible assumption) | assumption)
                                                  have q152 : x13_4 < (((rd_T35 l0 x11_2).f2).length : Int) := of_decide_eq_true (by first | (with_reducible assumption) | assumption)
                                                  obtain ⟨ad152, e152, hx152_0⟩ := Kd.at_int HR146_2.out x13_4 p152 q152
                                                  cases e152
                                                  replace hx152_0 := (HB.out.cell (World.block_lt_of_cell? w _ hx152_0)).trans hx152_0
                                                  replace p152 := eq_true p152
                                                  replace q152 := eq_true q152
                                                  have p153 : 0 ≤ ((rd ((rd_T35 l0 x11_2).f2) x13_4) : Int) := of_decide_eq_true (by first | (with_reducible assumption) | assumption)
                                                  have q153 : (rd ((rd_T35 l0 x11_2).f2) x13_4) < ((rd_L4 t140 x10_2).length : Int) := of_decide_eq_true (by first | (with_reducible assumption) | assumption)
                                                  obtain ⟨ad153, e153, hx153_0⟩ := Kd.at_int (by repeat (first | (with_reducible exact HR151_0.out) | (with_reducible refine Kd.C_alloc ?_ _) | (with_reducible refine Kd.C_drewN ?_ _) | (with_reducible refine Kd.C_drew ?_) | exact HR151_0.out)) (rd ((rd_T35 l0 x11_2).f2) x13_4) p153 q153
                                                  cases e153
                                                  replace p153 := eq_true p153
                                                  replace q153 := eq_true q153
                                                  have p154 : 0 ≤ (x10_2 : Int) := of_decide_eq_true (by first | (with_reducible assumption) | assumption)
                                                  have q154 : x10_2 < (t140.length : Int) := of_decide_eq_true (by first | (with_reducible assumption) | assumption)
                                                  obtain ⟨ad154, A154_0, c154_0, e154, hx154_0, hl154_0, hi154_0⟩ := at_L4 (Kd.S_reads' HO_8.out).2.2 x10_2 p154 q154
                                                  obtain rfl : ad143 = ad154 := (by injection e154)
                                                  obtain ⟨ce154, hce154, hMe154, hcc154⟩ := Kd.S_get HO_8.out [] x10_2 p154 (by first | exact q154 | exact of_decide_eq_true (by first | (with_reducible assumption) | assumption) | (have e_ := (Kd.S_reads' HO_8.out).1; omega))
                                                  obtain ⟨ve154_0, rfl, ge154_0⟩ := hMe154
                                                  have hv154_0 := hcc154 0 _ rfl
                                                  rw [Nat.add_zero, show ((Kd.slice 3 (Kd.int .i64))).sz = 1 from rfl, Nat.mul_one] at hv154_0
                                                  replace hv154_0 := Option.some.inj (hv154_0.symm.trans hx154_0)
                                                  rw [hv154_0] at ge154_0
                                                  have HL154_0 := Aside0.mk (show Kd.R (Kd.int .i64) 3 _ _ _ _ (rd_L4 t140 x10_2) from ge154_0)
                                                  clear hv154_0 ge154_0
                                                  clear hcc154 hce154
                                                  have HR154_0 := Aside0.mk hi154_0
                                                  have HC154_0 := Aside0.mk hl154_0
                                                  clear hi154_0 hl154_0
                                                  replace p154 := eq_true p154
                                                  replace q154 := eq_true q154
                                                  have ea_ := Option.some.inj (hx151_0.symm.trans hx154_0)
                                                  injection ea_ with ea_ en_ ec_
                                                  subst ea_
                                                  subst ec_
                                                  clear en_
                                                  have p155 : 0 ≤ (x13_4 : Int) := of_decide_eq_true (by first | (with_reducible assumption) | assumption)
                                                  have q155 : x13_4 < (((rd_T35 l0 x11_2).f2).length : Int) := of_decide_eq_true (by first | (with_reducible assumption) | assumption)
                                                  obtain ⟨ad155, e155, hx155_0⟩ := Kd.at_int HR146_2.out x13_4 p155 q155
                                                  obtain rfl : ad152 = ad155 := (by injection e155)
                                                  replace hx155_0 := (HB.out.cell (World.block_lt_of_cell? w _ hx155_0)).trans hx155_0
                                                  replace p155 := eq_true p155
                                                  replace q155 := eq_true q155
                                                  have p156 : 0 ≤ ((rd ((rd_T35 l0 x11_2).f2) x13_4) : Int) := of_decide_eq_true (by first | (with_reducible assumption) | assumption)
                                                  have q156 : (rd ((rd_T35 l0 x11_2).f2) x13_4) < ((rd_L4 t140 x10_2).length : Int) := of_decide_eq_true (by first | (with_reducible assumption) | assumption)
                                                  obtain ⟨ad156, e156, hx156_0⟩ := Kd.at_int (by repeat (first | (with_reducible exact HR154_0.out) | (with_reducible refine Kd.C_alloc ?_ _) | (with_reducible refine Kd.C_drewN ?_ _) | (with_reducible refine Kd.C_drew ?_) | exact HR154_0.out)) (rd ((rd_T35 l0 x11_2).f2) x13_4) p156 q156
                                                  cases e156
                                                  replace p156 := eq_true p156
                                                  replace q156 := eq_true q156
                                                  go_wp2
                                                  repeat (go_quiet (fail); try go_wp2)
                                                  go_roundg k4
                                                  case measure => have := HJ3.out; have := HK2.out; have := HJ22.out; have := HK4.out; omega
                                                  case rel => exact ⟨(wrap64 (x2_4 - (rd (rd_L4 t140 x10_2) (rd ((rd_T35 l0 x11_2).f2) x13_4)))), (wrap64 (x13_4 + 1)), (by first | rfl | (simp; done) | (simp [*]; done)), (by first | rfl | (simp; done) | (simp [*]; done)), H', ⟨by have := HJ3.out; have := HK2.out; have := HJ22.out; have := HK4.out; omega⟩, ⟨by (with_reducible repeat (first | apply Kd.S_alloc | apply Kd.S_drewN | apply Kd.S_drew)); exact HO_8.out⟩, ⟨by (with_reducible repeat (first | apply Kd.R_alloc | apply Kd.R_drewN | apply Kd.R_drew)); exact HO_9.out⟩, ⟨by (with_reducible repeat (first | refine blk_drewN ?_ _ | refine blk_drew ?_ | refine blk_alloc ?_ _)); exact BK147.out⟩, ⟨by repeat (first | (with_reducible first | exact HB.out | apply below_alloc | apply pw_below_drewN | apply below_drew1 | refine below_set ?_ GE147.out) | exact HB.out)⟩⟩
                                                · rw [if_neg c40] at H
                                                  have c40b0 : decide ((rd (rd_L4 t140 x10_2) (rd ((rd_T35 l0 x11_2).f2) x13_4)) ≤ x2_4) = false := decide_eq_false c40
                                                  clear c40
                                                  have H' := Aside0.mk H
                                                  clear H
                                                  have p151 : 0 ≤ (x10_2 : Int) := of_decide_eq_true (by first | (with_reducible assumption) | assumption)
                                                  have q151 : x10_2 < (t140.length : Int) := of_decide_eq_true (by first | (with_reducible assumption) | assumption)
                                                  obtain ⟨ad151, A151_0, c151_0, e151, hx151_0, hl151_0, hi151_0⟩ := at_L4 (Kd.S_reads' HO_8.out).2.2 x10_2 p151 q151
                                                  obtain rfl : ad143 = ad151 := (by injection e151)
                                                  obtain ⟨ce151, hce151, hMe151, hcc151⟩ := Kd.S_get HO_8.out [] x10_2 p151 (by first | exact q151 | exact of_decide_eq_true (by first | (with_reducible assumption) | assumption) | (have e_ := (Kd.S_reads' HO_8.out).1; omega))
                                                  obtain ⟨ve151_0, rfl, ge151_0⟩ := hMe151
                                                  have hv151_0 := hcc151 0 _ rfl
                                                  rw [Nat.add_zero, show ((Kd.slice 3 (Kd.int .i64))).sz = 1 from rfl, Nat.mul_one] at hv151_0
                                                  replace hv151_0 := Option.some.inj (hv151_0.symm.trans hx151_0)
                                                  rw [hv151_0] at ge151_0
                                                  have HL151_0 := Aside0.mk (show Kd.R (Kd.int .i64) 3 _ _ _ _ (rd_L4 t140 x10_2) from ge151_0)
                                                  clear hv151_0 ge151_0
                                                  clear hcc151 hce151
                                                  have HR151_0 := Aside0.mk hi151_0
                                                  have HC151_0 := Aside0.mk hl151_0
                                                  clear hi151_0 hl151_0
                                                  replace p151 := eq_true p151
                                                  replace q151 := eq_true q151
                                                  have hcz42_0 : wr.cell? ⟨gb147, 0, none⟩ = some (.int .i64 ((rd_T35 l0 x11_2).f0)) := (blk_cell BK147.out 0).trans rfl
                                                  have hcz42_1 : wr.cell? ⟨gb147, 1, none⟩ = some (.slice A145_1 ((rd_T35 l0 x11_2).f1).length c145_1) := (blk_cell BK147.out 1).trans rfl
                                                  have hcz42_2 : wr.cell? ⟨gb147, 2, none⟩ = some (.slice A145_2 ((rd_T35 l0 x11_2).f2).length c145_2) := (blk_cell BK147.out 2).trans rfl
                                                  have hcz42_3 : wr.cell? ⟨gb147, 3, none⟩ = some (.int .i64 ((rd_T35 l0 x11_2).f3)) := (blk_cell BK147.out 3).trans rfl
                                                  have hcz42_4 : wr.cell? ⟨gb147, 4, none⟩ = some (.int .i64 ((rd_T35 l0 x11_2).f4)) := (blk_cell BK147.out 4).trans rfl
                                                  have hfz42_0 := blk_frozen BK147.out 0
                                                  have hfz42_1 := blk_frozen BK147.out 1
                                                  have hfz42_2 := blk_frozen BK147.out 2
                                                  have hfz42_3 := blk_frozen BK147.out 3
                                                  have hfz42_4 := blk_frozen BK147.out 4
                                                  have p152 : 0 ≤ (x13_4 : Int) := of_decide_eq_true (by first | (with_reducible assumption) | assumption)
                                                  have q152 : x13_4 < (((rd_T35 l0 x11_2).f2).length : Int) := of_decide_eq_true (by first | (with_reducible assumption) | assumption)
                                                  obtain ⟨ad152, e152, hx152_0⟩ := Kd.at_int HR146_2.out x13_4 p152 q152
                                                  cases e152
                                                  replace hx152_0 := (HB.out.cell (World.block_lt_of_cell? w _ hx152_0)).trans hx152_0
                                                  replace p152 := eq_true p152
                                                  replace q152 := eq_true q152
                                                  have p153 : 0 ≤ ((rd ((rd_T35 l0 x11_2).f2) x13_4) : Int) := of_decide_eq_true (by first | (with_reducible assumption) | assumption)
                                                  have q153 : (rd ((rd_T35 l0 x11_2).f2) x13_4) < ((rd_L4 t140 x10_2).length : Int) := of_decide_eq_true (by first | (with_reducible assumption) | assumption)
                                                  obtain ⟨ad153, e153, hx153_0⟩ := Kd.at_int (by repeat (first | (with_reducible exact HR151_0.out) | (with_reducible refine Kd.C_alloc ?_ _) | (with_reducible refine Kd.C_drewN ?_ _) | (with_reducible refine Kd.C_drew ?_) | exact HR151_0.out)) (rd ((rd_T35 l0 x11_2).f2) x13_4) p153 q153
                                                  cases e153
                                                  replace p153 := eq_true p153
                                                  replace q153 := eq_true q153
                                                  have p157 : 0 ≤ (x13_4 : Int) := of_decide_eq_true (by first | (with_reducible assumption) | assumption)
                                                  have q157 : x13_4 < (((rd_T35 l0 x11_2).f2).length : Int) := of_decide_eq_true (by first | (with_reducible assumption) | assumption)
                                                  obtain ⟨ad157, e157, hx157_0⟩ := Kd.at_int HR146_2.out x13_4 p157 q157
                                                  obtain rfl : ad152 = ad157 := (by injection e157)
                                                  replace hx157_0 := (HB.out.cell (World.block_lt_of_cell? w _ hx157_0)).trans hx157_0
                                                  replace p157 := eq_true p157
                                                  replace q157 := eq_true q157
                                                  go_wp2
                                                  repeat (go_quiet (fail); try go_wp2)
                                                  go_meet
                                                  case rel => exact ⟨_, (x2_4), (rd ((rd_T35 l0 x11_2).f2) x13_4), (by first | rfl | (simp; done) | (simp [*]; done)), (by first | rfl | (simp; done) | (simp [*]; done)), H', ⟨by have := HJ3.out; have := HK2.out; have := HJ22.out; have := HK4.out; first | omega | exact Nat.le_refl _⟩, ⟨by (with_reducible repeat (first | apply Kd.S_alloc | apply Kd.S_drewN | apply Kd.S_drew)); exact HO_8.out⟩, ⟨by (with_reducible repeat (first | apply Kd.R_alloc | apply Kd.R_drewN | apply Kd.R_drew)); exact HO_9.out⟩, ⟨by (with_reducible repeat (first | refine blk_drewN ?_ _ | refine blk_drew ?_ | refine blk_alloc ?_ _)); exact BK147.out⟩, ⟨by repeat (first | (with_reducible first | exact HB.out | apply below_alloc | apply pw_below_drewN | apply below_drew1 | refine below_set ?_ GE147.out) | exact HB.out)⟩⟩
                                              · rw [if_neg c39] at H
                                                exact absurd H (by simp)
                                            · rw [if_neg c38] at H
                                              exact absurd H (by simp)
                                          · rw [if_neg c37] at H
                                            exact absurd H (by simp)
                                        · rw [if_neg c36] at H
                                          exact absurd H (by simp)
                                      · rw [if_neg c35] at H
                                        exact absurd H (by simp)
                                    · rw [if_neg c34] at H
                                      exact absurd H (by simp)
                              · rw [if_neg c33] at H
                                have c33b0 : (((rd_T35 l0 x11_2).f0) == 2) = false := beq_eq_false_iff_ne.mpr c33
                                have c33b1 : (((rd_T35 l0 x11_2).f0) != 2) = true := bne_iff_ne.mpr c33
                                (first | rw [c33b0] | (simp only [i64_w, i32_w]; rw [c33b0]) | skip)
                                have H' := Aside0.mk H
                                clear H
                                go_wp2
                                repeat (go_quiet (fail); try go_wp2)
                                go_meet
                                case rel => exact ⟨_, (x2_2), (x11_22), (by first | rfl | (simp; done) | (simp [*]; done)), (by first | rfl | (simp; done) | (simp [*]; done)), H', ⟨by have := HJ3.out; have := HK2.out; have := HJ22.out; first | omega | exact Nat.le_refl _⟩, ⟨by (with_reducible repeat (first | apply Kd.S_alloc | apply Kd.S_drewN | apply Kd.S_drew)); exact HO_8.out⟩, ⟨by (with_reducible repeat (first | apply Kd.R_alloc | apply Kd.R_drewN | apply Kd.R_drew)); exact HO_9.out⟩, ⟨by (with_reducible repeat (first | refine blk_drewN ?_ _ | refine blk_drew ?_ | refine blk_alloc ?_ _)); exact BK147.out⟩, ⟨by repeat (first | (with_reducible first | exact HB.out | apply below_alloc | apply pw_below_drewN | apply below_drew1 | refine below_set ?_ GE147.out) | exact HB.out)⟩⟩
                            case rest =>
                              clear HC31
                              try clear c1
                              try clear p1
                              try clear q1
                              try clear hx1
                              try clear qi1
                              try clear c2
                              try clear p2
                              try clear c3
                              try clear c4
                              try clear c6
                              try clear p6
                              try clear c7
                              try clear c7b0
                              try clear c11
                              try clear c13
                              try clear c13b0
                              try clear c13b1
                              try clear c14
                              try clear c14b0
                              try clear c14b1
                              try clear p14
                              try clear q14
                              try clear hx14
                              try clear qi14
                              try clear c15
                              try clear c15b0
                              try clear p15
                              try clear q15
                              try clear hx15
                              try clear c20
                              try clear c20b0
                              try clear c21
                              try clear c21b0
                              try clear c22
                              try clear c22b0
                              try clear c22b1
                              try clear c26
                              try clear c26b0
                              try clear c26b1
                              try clear c27
                              try clear c33
                              try clear c33b0
                              try clear c33b1
                              try clear c34
                              try clear c34b0
                              try clear c35
                              try clear c35b0
                              try clear c36
                              try clear c36b0
                              try clear c37
                              try clear c37b0
                              try clear c38
                              try clear c38b0
                              try clear c39
                              try clear c39b0
                              try clear c40
                              try clear c40b0
                              try clear hcz25_0
                              try clear hcz25_1
                              try clear hcz25_2
                              try clear hcz25_3
                              try clear hcz25_4
                              try clear hcz28_0
                              try clear hcz28_1
                              try clear hcz28_2
                              try clear hcz28_3
                              try clear hcz28_4
                              try clear hcz30_0
                              try clear hcz30_1
                              try clear hcz30_2
                              try clear hcz30_3
                              try clear hcz30_4
                              try clear hcz32_0
                              try clear hcz32_1
                              try clear hcz32_2
                              try clear hcz32_3
                              try clear hcz32_4
                              try clear hcz41_0
                              try clear hcz41_1
                              try clear hcz41_2
                              try clear hcz41_3
                              try clear hcz41_4
                              try clear hcz42_0
                              try clear hcz42_1
                              try clear hcz42_2
                              try clear hcz42_3
                              try clear hcz42_4
                              try clear hfz25_0
                              try clear hfz25_1
                              try clear hfz25_2
                              try clear hfz25_3
                              try clear hfz25_4
                              try clear hfz28_0
                              try clear hfz28_1
                              try clear hfz28_2
                              try clear hfz28_3
                              try clear hfz28_4
                              try clear hfz30_0
                              try clear hfz30_1
                              try clear hfz30_2
                              try clear hfz30_3
                              try clear hfz30_4
                              try clear hfz32_0
                              try clear hfz32_1
                              try clear hfz32_2
                              try clear hfz32_3
                              try clear hfz32_4
                              try clear hfz41_0
                              try clear hfz41_1
                              try clear hfz41_2
                              try clear hfz41_3
                              try clear hfz41_4
                              try clear hfz42_0
                              try clear hfz42_1
                              try clear hfz42_2
                              try clear hfz42_3
                              try clear hfz42_4
                              try clear hx143_0
                              try clear hx144_0
                              try clear hx145_0
                              try clear hx145_1
                              try clear hx145_2
                              try clear hx145_3
                              try clear hx145_4
                              try clear hx146_0
                              try clear hx146_1
                              try clear hx146_2
                              try clear hx146_3
                              try clear hx146_4
                              try clear hx151_0
                              try clear hx152_0
                              try clear hx153_0
                              try clear hx154_0
                              try clear hx155_0
                              try clear hx156_0
                              try clear hx157_0
                              try clear p1
                              try clear p14
                              try clear p143
                              try clear p144
                              try clear p145
                              try clear p146
                              try clear p151
                              try clear p152
                              try clear p153
                              try clear p154
                              try clear p155
                              try clear p156
                              try clear p157
                              try clear p2
                              try clear q1
                              try clear q14
                              try clear q143
                              try clear q144
                              try clear q145
                              try clear q146
                              try clear q151
                              try clear q152
                              try clear q153
                              try clear q154
                              try clear q155
                              try clear q156
                              try clear q157
                              obtain ⟨kq, x2_30, x11_30, rfl, rfl, HA, HJ30, HO_8, HO_9, BK147, HB⟩ := hcut
                              cases kq with
                              | zero => exact absurd HA.out (by simp [phalaroperef17_Way.j4])
                              | succ kj30 =>
                                have H := HA.out
                                clear HA
                                simp only [phalaroperef17_Way.j4] at H
                                by_cases c43 : ((rd_T35 l0 x11_2).f0) = 1
                                · rw [if_pos c43] at H
                                  have c43b0 : (((rd_T35 l0 x11_2).f0) == 1) = true := beq_iff_eq.mpr c43
                                  have c43b1 : (((rd_T35 l0 x11_2).f0) != 1) = false := bne_eq_false_iff_eq.mpr c43
                                  clear c43
                                  have H' := Aside0.mk H
                                  clear H
                                  have hcz44_0 : wc.cell? ⟨gb147, 0, none⟩ = some (.int .i64 ((rd_T35 l0 x11_2).f0)) := (blk_cell BK147.out 0).trans rfl
                                  have hcz44_1 : wc.cell? ⟨gb147, 1, none⟩ = some (.slice A145_1 ((rd_T35 l0 x11_2).f1).length c145_1) := (blk_cell BK147.out 1).trans rfl
                                  have hcz44_2 : wc.cell? ⟨gb147, 2, none⟩ = some (.slice A145_2 ((rd_T35 l0 x11_2).f2).length c145_2) := (blk_cell BK147.out 2).trans rfl
                                  have hcz44_3 : wc.cell? ⟨gb147, 3, none⟩ = some (.int .i64 ((rd_T35 l0 x11_2).f3)) := (blk_cell BK147.out 3).trans rfl
                                  have hcz44_4 : wc.cell? ⟨gb147, 4, none⟩ = some (.int .i64 ((rd_T35 l0 x11_2).f4)) := (blk_cell BK147.out 4).trans rfl
                                  have hfz44_0 := blk_frozen BK147.out 0
                                  have hfz44_1 := blk_frozen BK147.out 1
                                  have hfz44_2 := blk_frozen BK147.out 2
                                  have hfz44_3 := blk_frozen BK147.out 3
                                  have hfz44_4 := blk_frozen BK147.out 4
                                  go_wp2
                                  repeat (go_quiet (fail); try go_wp2)
                                  go_loopg [11, 14] kj30 (fun kq v11 v14 w' => ∃ (x11_5 : Int) (x14_5 : Int), v11 = .int .i64 x11_5 ∧ v14 = .int .i64 x14_5 ∧ Aside0 (phalaroperef17_Way.l2 kq l0 a1 x2_30 t140 x9_22 x10_2 x11_5 x14_5 ((rd_T35 l0 x11_2).f0) ((rd_T35 l0 x11_2).f1) ((rd_T35 l0 x11_2).f2) ((rd_T35 l0 x11_2).f3) ((rd_T35 l0 x11_2).f4) = some (r1, r2)) ∧ Aside0 (kq ≤ kj30) ∧ Aside0 (Kd.S (Kd.slice 3 (Kd.int .i64)) 33 w' w.heap.size (fun _ => True) (.slice (some ad143) t140.length co19) t140) ∧ Aside0 (Kd.R k75 75 w' w.heap.size (fun _ => True) u9 x9_22) ∧ Aside0 (w'.heap[gb147]? = some (.cells #[.int .i64 ((rd_T35 l0 x11_2).f0), (.slice A145_1 ((rd_T35 l0 x11_2).f1).length c145_1), (.slice A145_2 ((rd_T35 l0 x11_2).f2).length c145_2), .int .i64 ((rd_T35 l0 x11_2).f3), .int .i64 ((rd_T35 l0 x11_2).f4)] 35 (0, 0))) ∧ Aside0 (Below w.heap.size w w'))
                                  case atStart => exact ⟨(x11_30), (0), (by first | rfl | (simp; done) | (simp [*]; done)), (by first | rfl | (simp; done) | (simp [*]; done)), H', ⟨Nat.le_refl _⟩, ⟨by (with_reducible repeat (first | apply Kd.S_alloc | apply Kd.S_drewN | apply Kd.S_drew)); exact HO_8.out⟩, ⟨by (with_reducible repeat (first | apply Kd.R_alloc | apply Kd.R_drewN | apply Kd.R_drew)); exact HO_9.out⟩, ⟨by (with_reducible repeat (first | refine blk_drewN ?_ _ | refine blk_drew ?_ | refine blk_alloc ?_ _)); exact BK147.out⟩, ⟨by repeat (first | (with_reducible first | exact HB.out | apply below_alloc | apply pw_below_drewN | apply below_drew1 | refine below_set ?_ GE147.out) | exact HB.out)⟩⟩
                                  case round =>
                                    clear H'
                                    try clear c1
                                    try clear p1
                                    try clear q1
                                    try clear hx1
                                    try clear qi1
                                    try clear c2
                                    try clear p2
                                    try clear c3
                                    try clear c4
                                    try clear c6
                                    try clear p6
                                    try clear c7
                                    try clear c7b0
                                    try clear c11
                                    try clear c13
                                    try clear c13b0
                                    try clear c13b1
                                    try clear c14
                                    try clear c14b0
                                    try clear c14b1
                                    try clear p14
                                    try clear q14
                                    try clear hx14
                                    try clear qi14
                                    try clear c15
                                    try clear c15b0
                                    try clear p15
                                    try clear q15
                                    try clear hx15
                                    try clear c20
                                    try clear c20b0
                                    try clear c21
                                    try clear c21b0
                                    try clear c22
                                    try clear c22b0
                                    try clear c22b1
                                    try clear c26
                                    try clear c26b0
                                    try clear c26b1
                                    try clear c27
                                    try clear c33
                                    try clear c33b0
                                    try clear c33b1
                                    try clear c34
                                    try clear c34b0
                                    try clear c35
                                    try clear c35b0
                                    try clear c36
                                    try clear c36b0
                                    try clear c37
                                    try clear c37b0
                                    try clear c38
                                    try clear c38b0
                                    try clear c39
                                    try clear c39b0
                                    try clear c40
                                    try clear c40b0
                                    try clear c43
                                    try clear c43b0
                                    try clear c43b1
                                    try clear hcz25_0
                                    try clear hcz25_1
                                    try clear hcz25_2
                                    try clear hcz25_3
                                    try clear hcz25_4
                                    try clear hcz28_0
                                    try clear hcz28_1
                                    try clear hcz28_2
                                    try clear hcz28_3
                                    try clear hcz28_4
                                    try clear hcz30_0
                                    try clear hcz30_1
                                    try clear hcz30_2
                                    try clear hcz30_3
                                    try clear hcz30_4
                                    try clear hcz32_0
                                    try clear hcz32_1
                                    try clear hcz32_2
                                    try clear hcz32_3
                                    try clear hcz32_4
                                    try clear hcz41_0
                                    try clear hcz41_1
                                    try clear hcz41_2
                                    try clear hcz41_3
                                    try clear hcz41_4
                                    try clear hcz42_0
                                    try clear hcz42_1
                                    try clear hcz42_2
                                    try clear hcz42_3
                                    try clear hcz42_4
                                    try clear hcz44_0
                                    try clear hcz44_1
                                    try clear hcz44_2
                                    try clear hcz44_3
                                    try clear hcz44_4
                                    try clear hfz25_0
                                    try clear hfz25_1
                                    try clear hfz25_2
                                    try clear hfz25_3
                                    try clear hfz25_4
                                    try clear hfz28_0
                                    try clear hfz28_1
                                    try clear hfz28_2
                                    try clear hfz28_3
                                    try clear hfz28_4
                                    try clear hfz30_0
                                    try clear hfz30_1
                                    try clear hfz30_2
                                    try clear hfz30_3
                                    try clear hfz30_4
                                    try clear hfz32_0
                                    try clear hfz32_1
                                    try clear hfz32_2
                                    try clear hfz32_3
                                    try clear hfz32_4
                                    try clear hfz41_0
                                    try clear hfz41_1
                                    try clear hfz41_2
                                    try clear hfz41_3
                                    try clear hfz41_4
                                    try clear hfz42_0
                                    try clear hfz42_1
                                    try clear hfz42_2
                                    try clear hfz42_3
                                    try clear hfz42_4
                                    try clear hfz44_0
                                    try clear hfz44_1
                                    try clear hfz44_2
                                    try clear hfz44_3
                                    try clear hfz44_4
                                    try clear hx143_0
                                    try clear hx144_0
                                    try clear hx145_0
                                    try clear hx145_1
                                    try clear hx145_2
                                    try clear hx145_3
                                    try clear hx145_4
                                    try clear hx146_0
                                    try clear hx146_1
                                    try clear hx146_2
                                    try clear hx146_3
                                    try clear hx146_4
                                    try clear hx151_0
                                    try clear hx152_0
                                    try clear hx153_0
                                    try clear hx154_0
                                    try clear hx155_0
                                    try clear hx156_0
                                    try clear hx157_0
                                    try clear p1
                                    try clear p14
                                    try clear p143
                                    try clear p144
                                    try clear p145
                                    try clear p146
                                    try clear p15
                                    try clear p151
                                    try clear p152
                                    try clear p153
                                    try clear p154
                                    try clear p155
                                    try clear p156
                                    try clear p157
                                    try clear p2
                                    try clear p6
                                    try clear q1
                                    try clear q14
                                    try clear q143
                                    try clear q144
                                    try clear q145
                                    try clear q146
                                    try clear q15
                                    try clear q151
                                    try clear q152
                                    try clear q153
                                    try clear q154
                                    try clear q155
                                    try clear q156
                                    try clear q157
                                    obtain ⟨x11_5, x14_5, rfl, rfl, HA, HK5, HO_8, HO_9, BK147, HB⟩ := hrel
                                    cases gk with
                                    | zero => exact absurd HA.out (by simp [phalaroperef17_Way.l2])
                                    | succ k5 =>
                                      have H := HA.out
                                      clear HA
                                      simp only [phalaroperef17_Way.l2] at H
                                      by_cases c45 : x14_5 < (((rd_T35 l0 x11_2).f1).length : Int)
                                      · rw [if_pos c45] at H
                                        have c45b0 : decide (x14_5 < (((rd_T35 l0 x11_2).f1).length : Int)) = true := decide_eq_true c45
                                        clear c45
                                        by_cases c46 : 0 ≤ x10_2
                                        · rw [if_pos c46] at H
                                          have c46b0 : decide (0 ≤ x10_2) = true := decide_eq_true c46
                                          clear c46
                                          by_cases c47 : x10_2 < (a1.size : Int)
                                          · rw [if_pos c47] at H
                                            have c47b0 : decide (x10_2 < (a1.size : Int)) = true := decide_eq_true c47
                                            clear c47
                                            by_cases c49 : 0 ≤ x14_5
                                            · rw [if_pos c49] at H
                                              have c49b0 : decide (0 ≤ x14_5) = true := decide_eq_true c49
                                              clear c49
                                              by_cases c50 : (bt a1 x10_2) ≥ ((rd_T72 ((rd_T35 l0 x11_2).f1) x14_5).f0)
                                              · rw [if_pos c50] at H
                                                have c50b0 : decide (((rd_T72 ((rd_T35 l0 x11_2).f1) x14_5).f0) ≤ (bt a1 x10_2)) = true := decide_eq_true c50
                                                clear c50
                                                by_cases c52 : (bt a1 x10_2) ≤ ((rd_T72 ((rd_T35 l0 x11_2).f1) x14_5).f1)
                                                · rw [if_pos c52] at H
                                                  have c52b0 : decide ((bt a1 x10_2) ≤ ((rd_T72 ((rd_T35 l0 x11_2).f1) x14_5).f1)) = true := decide_eq_true c52
                                                  clear c52
                                                  have H' := Aside0.mk H
                                                  clear H
                                                  have hcz53_0 : wr.cell? ⟨gb147, 0, none⟩ = some (.int .i64 ((rd_T35 l0 x11_2).f0)) := (blk_cell BK147.out 0).trans rfl
                                                  have hcz53_1 : wr.cell? ⟨gb147, 1, none⟩ = some (.slice A145_1 ((rd_T35 l0 x11_2).f1).length c145_1) := (blk_cell BK147.out 1).trans rfl
                                                  have hcz53_2 : wr.cell? ⟨gb147, 2, none⟩ = some (.slice A145_2 ((rd_T35 l0 x11_2).f2).length c145_2) := (blk_cell BK147.out 2).trans rfl
                                                  have hcz53_3 : wr.cell? ⟨gb147, 3, none⟩ = some (.int .i64 ((rd_T35 l0 x11_2).f3)) := (blk_cell BK147.out 3).trans rfl
                                                  have hcz53_4 : wr.cell? ⟨gb147, 4, none⟩ = some (.int .i64 ((rd_T35 l0 x11_2).f4)) := (blk_cell BK147.out 4).trans rfl
                                                  have hfz53_0 := blk_frozen BK147.out 0
                                                  have hfz53_1 := blk_frozen BK147.out 1
                                                  have hfz53_2 := blk_frozen BK147.out 2
                                                  have hfz53_3 := blk_frozen BK147.out 3
                                                  have hfz53_4 := blk_frozen BK147.out 4
                                                  have p48 : 0 ≤ (x10_2 : Int) := of_decide_eq_true (by first | (with_reducible assumption) | assumption)
                                                  have q48 : x10_2 < (a1.size : Int) := of_decide_eq_true (by first | (with_reducible assumption) | assumption)
                                                  have hx48 := bt_at a1 x10_2
                                                  replace p48 := eq_true p48
                                                  replace q48 := eq_true q48
                                                  have p158 : 0 ≤ (x14_5 : Int) := of_decide_eq_true (by first | (with_reducible assumption) | assumption)
                                                  have q158 : x14_5 < (((rd_T35 l0 x11_2).f1).length : Int) := of_decide_eq_true (by first | (with_reducible assumption) | assumption)
                                                  obtain ⟨ad158, e158, hx158_0, hx158_1, hx158_2⟩ := at_T72 HR146_1.out x14_5 p158 q158
                                                  cases e158
                                                  replace hx158_0 := (HB.out.cell (World.block_lt_of_cell? w _ hx158_0)).trans hx158_0
                                                  replace hx158_1 := (HB.out.cell (World.block_lt_of_cell? w _ hx158_1)).trans hx158_1
                                                  replace hx158_2 := (HB.out.cell (World.block_lt_of_cell? w _ hx158_2)).trans hx158_2
                                                  replace p158 := eq_true p158
                                                  replace q158 := eq_true q158
                                                  have p51 : 0 ≤ (x10_2 : Int) := of_decide_eq_true (by first | (with_reducible assumption) | assumption)
                                                  have q51 : x10_2 < (a1.size : Int) := of_decide_eq_true (by first | (with_reducible assumption) | assumption)
                                                  have hx51 := bt_at a1 x10_2
                                                  replace p51 := eq_true p51
                                                  replace q51 := eq_true q51
                                                  have p159 : 0 ≤ (x14_5 : Int) := of_decide_eq_true (by first | (with_reducible assumption) | assumption)
                                                  have q159 : x14_5 < (((rd_T35 l0 x11_2).f1).length : Int) := of_decide_eq_true (by first | (with_reducible assumption) | assumption)
                                                  obtain ⟨ad159, e159, hx159_0, hx159_1, hx159_2⟩ := at_T72 HR146_1.out x14_5 p159 q159
                                                  obtain rfl : ad158 = ad159 := (by injection e159)
                                                  replace hx159_0 := (HB.out.cell (World.block_lt_of_cell? w _ hx159_0)).trans hx159_0
                                                  replace hx159_1 := (HB.out.cell (World.block_lt_of_cell? w _ hx159_1)).trans hx159_1
                                                  replace hx159_2 := (HB.out.cell (World.block_lt_of_cell? w _ hx159_2)).trans hx159_2
                                                  replace p159 := eq_true p159
                                                  replace q159 := eq_true q159
                                                  have p160 : 0 ≤ (x14_5 : Int) := of_decide_eq_true (by first | (with_reducible assumption) | assumption)
                                                  have q160 : x14_5 < (((rd_T35 l0 x11_2).f1).length : Int) := of_decide_eq_true (by first | (with_reducible assumption) | assumption)
                                                  obtain ⟨ad160, e160, hx160_0, hx160_1, hx160_2⟩ := at_T72 HR146_1.out x14_5 p160 q160
                                                  obtain rfl : ad158 = ad160 := (by injection e160)
                                                  replace hx160_0 := (HB.out.cell (World.block_lt_of_cell? w _ hx160_0)).trans hx160_0
                                                  replace hx160_1 := (HB.out.cell (World.block_lt_of_cell? w _ hx160_1)).trans hx160_1
                                                  replace hx160_2 := (HB.out.cell (World.block_lt_of_cell? w _ hx160_2)).trans hx160_2
                                                  replace p160 := eq_true p160
                                                  replace q160 := eq_true q160
                                                  go_wp2
                                                  repeat (go_quiet (fail); try go_wp2)
                                                  go_roundg k5
                                                  case measure => have := HJ3.out; have := HK2.out; have := HJ22.out; have := HJ30.out; have := HK5.out; omega
                                                  case rel => exact ⟨((rd_T72 ((rd_T35 l0 x11_2).f1) x14_5).f2), (wrap64 (x14_5 + 1)), (by first | rfl | (simp; done) | (simp [*]; done)), (by first | rfl | (simp; done) | (simp [*]; done)), H', ⟨by have := HJ3.out; have := HK2.out; have := HJ22.out; have := HJ30.out; have := HK5.out; omega⟩, ⟨by (with_reducible repeat (first | apply Kd.S_alloc | apply Kd.S_drewN | apply Kd.S_drew)); exact HO_8.out⟩, ⟨by (with_reducible repeat (first | apply Kd.R_alloc | apply Kd.R_drewN | apply Kd.R_drew)); exact HO_9.out⟩, ⟨by (with_reducible repeat (first | refine blk_drewN ?_ _ | refine blk_drew ?_ | refine blk_alloc ?_ _)); exact BK147.out⟩, ⟨by repeat (first | (with_reducible first | exact HB.out | apply below_alloc | apply pw_below_drewN | apply below_drew1 | refine below_set ?_ GE147.out) | exact HB.out)⟩⟩
                                                · rw [if_neg c52] at H
                                                  have c52b0 : decide ((bt a1 x10_2) ≤ ((rd_T72 ((rd_T35 l0 x11_2).f1) x14_5).f1)) = false := decide_eq_false c52
                                                  clear c52
                                                  have H' := Aside0.mk H
                                                  clear H
                                                  have hcz54_0 : wr.cell? ⟨gb147, 0, none⟩ = some (.int .i64 ((rd_T35 l0 x11_2).f0)) := (blk_cell BK147.out 0).trans rfl
                                                  have hcz54_1 : wr.cell? ⟨gb147, 1, none⟩ = some (.slice A145_1 ((rd_T35 l0 x11_2).f1).length c145_1) := (blk_cell BK147.out 1).trans rfl
                                                  have hcz54_2 : wr.cell? ⟨gb147, 2, none⟩ = some (.slice A145_2 ((rd_T35 l0 x11_2).f2).length c145_2) := (blk_cell BK147.out 2).trans rfl
                                                  have hcz54_3 : wr.cell? ⟨gb147, 3, none⟩ = some (.int .i64 ((rd_T35 l0 x11_2).f3)) := (blk_cell BK147.out 3).trans rfl
                                                  have hcz54_4 : wr.cell? ⟨gb147, 4, none⟩ = some (.int .i64 ((rd_T35 l0 x11_2).f4)) := (blk_cell BK147.out 4).trans rfl
                                                  have hfz54_0 := blk_frozen BK147.out 0
                                                  have hfz54_1 := blk_frozen BK147.out 1
                                                  have hfz54_2 := blk_frozen BK147.out 2
                                                  have hfz54_3 := blk_frozen BK147.out 3
                                                  have hfz54_4 := blk_frozen BK147.out 4
                                                  have p48 : 0 ≤ (x10_2 : Int) := of_decide_eq_true (by first | (with_reducible assumption) | assumption)
                                                  have q48 : x10_2 < (a1.size : Int) := of_decide_eq_true (by first | (with_reducible assumption) | assumption)
                                                  have hx48 := bt_at a1 x10_2
                                                  replace p48 := eq_true p48
                                                  replace q48 := eq_true q48
                                                  have p158 : 0 ≤ (x14_5 : Int) := of_decide_eq_true (by first | (with_reducible assumption) | assumption)
                                                  have q158 : x14_5 < (((rd_T35 l0 x11_2).f1).length : Int) := of_decide_eq_true (by first | (with_reducible assumption) | assumption)
                                                  obtain ⟨ad158, e158, hx158_0, hx158_1, hx158_2⟩ := at_T72 HR146_1.out x14_5 p158 q158
                                                  cases e158
                                                  replace hx158_0 := (HB.out.cell (World.block_lt_of_cell? w _ hx158_0)).trans hx158_0
                                                  replace hx158_1 := (HB.out.cell (World.block_lt_of_cell? w _ hx158_1)).trans hx158_1
                                                  replace hx158_2 := (HB.out.cell (World.block_lt_of_cell? w _ hx158_2)).trans hx158_2
                                                  replace p158 := eq_true p158
                                                  replace q158 := eq_true q158
                                                  have p51 : 0 ≤ (x10_2 : Int) := of_decide_eq_true (by first | (with_reducible assumption) | assumption)
                                                  have q51 : x10_2 < (a1.size : Int) := of_decide_eq_true (by first | (with_reducible assumption) | assumption)
                                                  have hx51 := bt_at a1 x10_2
                                                  replace p51 := eq_true p51
                                                  replace q51 := eq_true q51
                                                  have p159 : 0 ≤ (x14_5 : Int) := of_decide_eq_true (by first | (with_reducible assumption) | assumption)
                                                  have q159 : x14_5 < (((rd_T35 l0 x11_2).f1).length : Int) := of_decide_eq_true (by first | (with_reducible assumption) | assumption)
                                                  obtain ⟨ad159, e159, hx159_0, hx159_1, hx159_2⟩ := at_T72 HR146_1.out x14_5 p159 q159
                                                  obtain rfl : ad158 = ad159 := (by injection e159)
                                                  replace hx159_0 := (HB.out.cell (World.block_lt_of_cell? w _ hx159_0)).trans hx159_0
                                                  replace hx159_1 := (HB.out.cell (World.block_lt_of_cell? w _ hx159_1)).trans hx159_1
                                                  replace hx159_2 := (HB.out.cell (World.block_lt_of_cell? w _ hx159_2)).trans hx159_2
                                                  replace p159 := eq_true p159
                                                  replace q159 := eq_true q159
                                                  go_wp2
                                                  repeat (go_quiet (fail); try go_wp2)
                                                  go_roundg k5
                                                  case measure => have := HJ3.out; have := HK2.out; have := HJ22.out; have := HJ30.out; have := HK5.out; omega
                                                  case rel => exact ⟨(x11_5), (wrap64 (x14_5 + 1)), (by first | rfl | (simp; done) | (simp [*]; done)), (by first | rfl | (simp; done) | (simp [*]; done)), H', ⟨by have := HJ3.out; have := HK2.out; have := HJ22.out; have := HJ30.out; have := HK5.out; omega⟩, ⟨by (with_reducible repeat (first | apply Kd.S_alloc | apply Kd.S_drewN | apply Kd.S_drew)); exact HO_8.out⟩, ⟨by (with_reducible repeat (first | apply Kd.R_alloc | apply Kd.R_drewN | apply Kd.R_drew)); exact HO_9.out⟩, ⟨by (with_reducible repeat (first | refine blk_drewN ?_ _ | refine blk_drew ?_ | refine blk_alloc ?_ _)); exact BK147.out⟩, ⟨by repeat (first | (with_reducible first | exact HB.out | apply below_alloc | apply pw_below_drewN | apply below_drew1 | refine below_set ?_ GE147.out) | exact HB.out)⟩⟩
                                              · rw [if_neg c50] at H
                                                have c50b0 : decide (((rd_T72 ((rd_T35 l0 x11_2).f1) x14_5).f0) ≤ (bt a1 x10_2)) = false := decide_eq_false c50
                                                clear c50
                                                have H' := Aside0.mk H
                                                clear H
                                                have hcz55_0 : wr.cell? ⟨gb147, 0, none⟩ = some (.int .i64 ((rd_T35 l0 x11_2).f0)) := (blk_cell BK147.out 0).trans rfl
                                                have hcz55_1 : wr.cell? ⟨gb147, 1, none⟩ = some (.slice A145_1 ((rd_T35 l0 x11_2).f1).length c145_1) := (blk_cell BK147.out 1).trans rfl
                                                have hcz55_2 : wr.cell? ⟨gb147, 2, none⟩ = some (.slice A145_2 ((rd_T35 l0 x11_2).f2).length c145_2) := (blk_cell BK147.out 2).trans rfl
                                                have hcz55_3 : wr.cell? ⟨gb147, 3, none⟩ = some (.int .i64 ((rd_T35 l0 x11_2).f3)) := (blk_cell BK147.out 3).trans rfl
                                                have hcz55_4 : wr.cell? ⟨gb147, 4, none⟩ = some (.int .i64 ((rd_T35 l0 x11_2).f4)) := (blk_cell BK147.out 4).trans rfl
                                                have hfz55_0 := blk_frozen BK147.out 0
                                                have hfz55_1 := blk_frozen BK147.out 1
                                                have hfz55_2 := blk_frozen BK147.out 2
                                                have hfz55_3 := blk_frozen BK147.out 3
                                                have hfz55_4 := blk_frozen BK147.out 4
                                                have p48 : 0 ≤ (x10_2 : Int) := of_decide_eq_true (by first | (with_reducible assumption) | assumption)
                                                have q48 : x10_2 < (a1.size : Int) := of_decide_eq_true (by first | (with_reducible assumption) | assumption)
                                                have hx48 := bt_at a1 x10_2
                                                replace p48 := eq_true p48
                                                replace q48 := eq_true q48
                                                have p158 : 0 ≤ (x14_5 : Int) := of_decide_eq_true (by first | (with_reducible assumption) | assumption)
                                                have q158 : x14_5 < (((rd_T35 l0 x11_2).f1).length : Int) := of_decide_eq_true (by first | (with_reducible assumption) | assumption)
                                                obtain ⟨ad158, e158, hx158_0, hx158_1, hx158_2⟩ := at_T72 HR146_1.out x14_5 p158 q158
                                                cases e158
                                                replace hx158_0 := (HB.out.cell (World.block_lt_of_cell? w _ hx158_0)).trans hx158_0
                                                replace hx158_1 := (HB.out.cell (World.block_lt_of_cell? w _ hx158_1)).trans hx158_1
                                                replace hx158_2 := (HB.out.cell (World.block_lt_of_cell? w _ hx158_2)).trans hx158_2
                                                replace p158 := eq_true p158
                                                replace q158 := eq_true q158
                                                go_wp2
                                                repeat (go_quiet (fail); try go_wp2)
                                                go_roundg k5
                                                case measure => have := HJ3.out; have := HK2.out; have := HJ22.out; have := HJ30.out; have := HK5.out; omega
                                                case rel => exact ⟨(x11_5), (wrap64 (x14_5 + 1)), (by first | rfl | (simp; done) | (simp [*]; done)), (by first | rfl | (simp; done) | (simp [*]; done)), H', ⟨by have := HJ3.out; have := HK2.out; have := HJ22.out; have := HJ30.out; have := HK5.out; omega⟩, ⟨by (with_reducible repeat (first | apply Kd.S_alloc | apply Kd.S_drewN | apply Kd.S_drew)); exact HO_8.out⟩, ⟨by (with_reducible repeat (first | apply Kd.R_alloc | apply Kd.R_drewN | apply Kd.R_drew)); exact HO_9.out⟩, ⟨by (with_reducible repeat (first | refine blk_drewN ?_ _ | refine blk_drew ?_ | refine blk_alloc ?_ _)); exact BK147.out⟩, ⟨by repeat (first | (with_reducible first | exact HB.out | apply below_alloc | apply pw_below_drewN | apply below_drew1 | refine below_set ?_ GE147.out) | exact HB.out)⟩⟩
                                            · rw [if_neg c49] at H
                                              exact absurd H (by simp)
                                          · rw [if_neg c47] at H
                                            exact absurd H (by simp)
                                        · rw [if_neg c46] at H
                                          exact absurd H (by simp)
                                      · rw [if_neg c45] at H
                                        have c45b0 : decide (x14_5 < (((rd_T35 l0 x11_2).f1).length : Int)) = false := decide_eq_false c45
                                        clear c45
                                        have H' := Aside0.mk H
                                        clear H
                                        have hcz56_0 : wr.cell? ⟨gb147, 0, none⟩ = some (.int .i64 ((rd_T35 l0 x11_2).f0)) := (blk_cell BK147.out 0).trans rfl
                                        have hcz56_1 : wr.cell? ⟨gb147, 1, none⟩ = some (.slice A145_1 ((rd_T35 l0 x11_2).f1).length c145_1) := (blk_cell BK147.out 1).trans rfl
                                        have hcz56_2 : wr.cell? ⟨gb147, 2, none⟩ = some (.slice A145_2 ((rd_T35 l0 x11_2).f2).length c145_2) := (blk_cell BK147.out 2).trans rfl
                                        have hcz56_3 : wr.cell? ⟨gb147, 3, none⟩ = some (.int .i64 ((rd_T35 l0 x11_2).f3)) := (blk_cell BK147.out 3).trans rfl
                                        have hcz56_4 : wr.cell? ⟨gb147, 4, none⟩ = some (.int .i64 ((rd_T35 l0 x11_2).f4)) := (blk_cell BK147.out 4).trans rfl
                                        have hfz56_0 := blk_frozen BK147.out 0
                                        have hfz56_1 := blk_frozen BK147.out 1
                                        have hfz56_2 := blk_frozen BK147.out 2
                                        have hfz56_3 := blk_frozen BK147.out 3
                                        have hfz56_4 := blk_frozen BK147.out 4
                                        go_wp2
                                        repeat (go_quiet (fail); try go_wp2)
                                        go_roundg k5
                                        case measure => have := HJ3.out; have := HK2.out; have := HJ22.out; have := HJ30.out; have := HK5.out; omega
                                        case rel => exact ⟨(x2_30), (x9_22), (wrap64 (x10_2 + 1)), (x11_5), (by first | rfl | (simp; done) | (simp [*]; done)), (by first | rfl | (simp; done) | (simp [*]; done)), (by first | rfl | (simp; done) | (simp [*]; done)), H', ⟨by have := HJ3.out; have := HK2.out; have := HJ22.out; have := HJ30.out; have := HK5.out; omega⟩, ⟨by (with_reducible repeat (first | apply Kd.S_alloc | apply Kd.S_drewN | apply Kd.S_drew)); exact HO_8.out⟩, ⟨by (with_reducible repeat (first | apply Kd.R_alloc | apply Kd.R_drewN | apply Kd.R_drew)); exact HO_9.out⟩, ⟨by repeat (first | (with_reducible first | exact HB.out | apply below_alloc | apply pw_below_drewN | apply below_drew1 | refine below_set ?_ GE147.out) | exact HB.out)⟩⟩
                                · rw [if_neg c43] at H
                                  have c43b0 : (((rd_T35 l0 x11_2).f0) == 1) = false := beq_eq_false_iff_ne.mpr c43
                                  have c43b1 : (((rd_T35 l0 x11_2).f0) != 1) = true := bne_iff_ne.mpr c43
                                  have H' := Aside0.mk H
                                  clear H
                                  have hcz57_0 : wc.cell? ⟨gb147, 0, none⟩ = some (.int .i64 ((rd_T35 l0 x11_2).f0)) := (blk_cell BK147.out 0).trans rfl
                                  have hcz57_1 : wc.cell? ⟨gb147, 1, none⟩ = some (.slice A145_1 ((rd_T35 l0 x11_2).f1).length c145_1) := (blk_cell BK147.out 1).trans rfl
                                  have hcz57_2 : wc.cell? ⟨gb147, 2, none⟩ = some (.slice A145_2 ((rd_T35 l0 x11_2).f2).length c145_2) := (blk_cell BK147.out 2).trans rfl
                                  have hcz57_3 : wc.cell? ⟨gb147, 3, none⟩ = some (.int .i64 ((rd_T35 l0 x11_2).f3)) := (blk_cell BK147.out 3).trans rfl
                                  have hcz57_4 : wc.cell? ⟨gb147, 4, none⟩ = some (.int .i64 ((rd_T35 l0 x11_2).f4)) := (blk_cell BK147.out 4).trans rfl
                                  have hfz57_0 := blk_frozen BK147.out 0
                                  have hfz57_1 := blk_frozen BK147.out 1
                                  have hfz57_2 := blk_frozen BK147.out 2
                                  have hfz57_3 := blk_frozen BK147.out 3
                                  have hfz57_4 := blk_frozen BK147.out 4
                                  go_wp2
                                  repeat (go_quiet (fail); try go_wp2)
                                  go_roundg kj30
                                  case measure => have := HJ3.out; have := HK2.out; have := HJ22.out; have := HJ30.out; omega
                                  case rel => exact ⟨(x2_30), (x9_22), (x10_2), (x11_30), (by first | rfl | (simp; done) | (simp [*]; done)), (by first | rfl | (simp; done) | (simp [*]; done)), (by first | rfl | (simp; done) | (simp [*]; done)), H', ⟨by have := HJ3.out; have := HK2.out; have := HJ22.out; have := HJ30.out; omega⟩, ⟨by (with_reducible repeat (first | apply Kd.S_alloc | apply Kd.S_drewN | apply Kd.S_drew)); exact HO_8.out⟩, ⟨by (with_reducible repeat (first | apply Kd.R_alloc | apply Kd.R_drewN | apply Kd.R_drew)); exact HO_9.out⟩, ⟨by repeat (first | (with_reducible first | exact HB.out | apply below_alloc | apply pw_below_drewN | apply below_drew1 | refine below_set ?_ GE147.out) | exact HB.out)⟩⟩
                    · rw [if_neg c21] at H
                      exact absurd H (by simp)
                  · rw [if_neg c20] at H
                    exact absurd H (by simp)
          · rw [if_neg c14] at H
            exact absurd H (by simp)
        · rw [if_neg c13] at H
          exact absurd H (by simp)

end Go.Proofs.Ytcbflajacioinaa.P
