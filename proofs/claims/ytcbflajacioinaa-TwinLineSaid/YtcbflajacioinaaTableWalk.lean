/- The document's table of ways: the walk. -/
import Derived.BigQuiet
import Derived.Deep.RegionHeld3
import Derived.Outline
import Derived.Deep.QuietTactic
import Derived.Test.YtcbflajacioinaaMade17
import Derived.Test.YtcbflajacioinaaTableP
import Derived.Test.YtcbflajacioinaaFewP
namespace Go.Proofs.Ytcbflajacioinaa
open Go.RowKit Go.Shelf Go.Proofs.YtcbflajacioinaaW.PrintWords Go.Proofs.YtcbflajacioinaaW.PrintLast Go.Proofs.Ytcbflajacioinaa.P

/-- A block of numbers, told from a number on. -/
def RowAt (W : World) (B n : Nat) (f : Nat → Int) (i0 : Nat) : Prop := ∃ rc : Array Value, Blk W B 3 rc ∧ rc.size = n ∧ ∀ i, i0 ≤ i → i < n → rc[i]? = some (.int .i64 (f i))
/-- A block of rows, told from a row on. -/
def TabAt (W : World) (base top B n h : Nat) (f : Nat → Nat → Int) (q0 : Nat) : Prop := ∃ (cs : Array Value) (g : Nat → Nat), Blk W B 33 cs ∧ cs.size = h ∧ ∀ q, q0 ≤ q → q < h → ∃ Bq, cs[q]? = some (.slice (some ⟨Bq, 0, none⟩) n n) ∧ (base ≤ Bq ∧ Bq < top ∧ g Bq = q) ∧ Bq ≠ B ∧ RowAt W Bq n (f q) 0

theorem RowAt.kept {W W' : World} {B n : Nat} {f : Nat → Int} {i0 : Nat} (h : RowAt W B n f i0) {row : Option Nat} (hg : W.grownBy W' row) (hne : some B ≠ row) : RowAt W' B n f i0 := by
  obtain ⟨rc, h1, h2, h3⟩ := h
  exact ⟨rc, h1.kept hg hne, h2, h3⟩
theorem RowAt.lt {W : World} {B n : Nat} {f : Nat → Int} {i0 : Nat} (h : RowAt W B n f i0) : B < W.heap.size := by
  obtain ⟨rc, h1, _⟩ := h; exact h1.lt
theorem RowAt.cell {W : World} {B n : Nat} {f : Nat → Int} {i0 : Nat} (h : RowAt W B n f i0) (i : Nat) (h0 : i0 ≤ i) (h1 : i < n) : W.cell? ⟨B, i, none⟩ = some (.int .i64 (f i)) := by
  obtain ⟨rc, h2, _, h3⟩ := h; rw [h2.cell]; exact h3 i h0 h1
theorem RowAt.has {W : World} {B n : Nat} {f : Nat → Int} {i0 : Nat} (h : RowAt W B n f i0) (i : Nat) (h1 : i < n) : ∃ u, W.cell? ⟨B, i, none⟩ = some u := by
  obtain ⟨rc, h2, h3, _⟩ := h; exact ⟨_, (h2.cell i).trans (Array.getElem?_eq_getElem (by omega))⟩
theorem RowAt.free {W : World} {B n : Nat} {f : Nat → Int} {i0 : Nat} (h : RowAt W B n f i0) (i : Nat) : W.frozen? ⟨B, i, none⟩ = false := by
  obtain ⟨rc, h2, _⟩ := h; exact h2.free i
theorem RowAt.set {W : World} {B n : Nat} {f : Nat → Int} {i0 : Nat} (h : RowAt W B n f (i0 + 1)) (hi : i0 < n) : RowAt (W.setCell ⟨B, i0, none⟩ (.int .i64 (f i0))) B n f i0 := by
  obtain ⟨rc, h2, h3, h4⟩ := h
  refine ⟨_, h2.set i0 (.int .i64 (f i0)), by simp [h3], fun i hi0 hi1 => ?_⟩
  by_cases e : i = i0
  · subst e; rw [Array.getElem?_setIfInBounds_self_of_lt (by omega)]
  · rw [Array.getElem?_setIfInBounds_ne (fun e' => e e'.symm)]; exact h4 i (by omega) hi1
theorem TabAt.kept {W W' : World} {base top B n h : Nat} {f : Nat → Nat → Int} {q0 : Nat} (t : TabAt W base top B n h f q0) {row : Option Nat} (hg : W.grownBy W' row) (hrow : ∀ b, row = some b → W.heap.size ≤ b) : TabAt W' base top B n h f q0 := by
  obtain ⟨cs, g, h1, h2, h3⟩ := t
  have hlt := h1.lt
  refine ⟨cs, g, h1.kept hg (fun e => by have := hrow B e.symm; omega), h2, fun q hq0 hq1 => ?_⟩
  obtain ⟨Bq, a, b, c, d⟩ := h3 q hq0 hq1
  exact ⟨Bq, a, b, c, d.kept hg (fun e => by have := hrow Bq e.symm; have := d.lt; omega)⟩
theorem TabAt.lt {W : World} {base top B n h : Nat} {f : Nat → Nat → Int} {q0 : Nat} (t : TabAt W base top B n h f q0) : B < W.heap.size := by
  obtain ⟨cs, _, h1, _⟩ := t; exact h1.lt
theorem TabAt.free {W : World} {base top B n h : Nat} {f : Nat → Nat → Int} {q0 : Nat} (t : TabAt W base top B n h f q0) (i : Nat) : W.frozen? ⟨B, i, none⟩ = false := by
  obtain ⟨cs, _, h1, _⟩ := t; exact h1.free i
theorem TabAt.has {W : World} {base top B n h : Nat} {f : Nat → Nat → Int} {q0 : Nat} (t : TabAt W base top B n h f q0) (i : Nat) (hi : i < h) : ∃ u, W.cell? ⟨B, i, none⟩ = some u := by
  obtain ⟨cs, _, h1, h2, _⟩ := t; exact ⟨_, (h1.cell i).trans (Array.getElem?_eq_getElem (by omega))⟩
theorem TabAt.row {W : World} {base top B n h : Nat} {f : Nat → Nat → Int} {q0 : Nat} (t : TabAt W base top B n h f q0) (q : Nat) (h0 : q0 ≤ q) (h1 : q < h) : ∃ Bq, W.cell? ⟨B, q, none⟩ = some (.slice (some ⟨Bq, 0, none⟩) n n) ∧ base ≤ Bq ∧ Bq ≠ B ∧ RowAt W Bq n (f q) 0 := by
  obtain ⟨cs, _, h2, _, h3⟩ := t
  obtain ⟨Bq, a, b, c⟩ := h3 q h0 h1
  exact ⟨Bq, (h2.cell q).trans a, b.1, c⟩
theorem TabAt.set {W : World} {base top top' B n h : Nat} {f : Nat → Nat → Int} {q0 : Nat} (t : TabAt W base top B n h f (q0 + 1)) (hq : q0 < h) {Bq : Nat} (hb : base ≤ Bq) (htop : top ≤ Bq) (htop' : Bq < top') (hne : Bq ≠ B) (r : RowAt W Bq n (f q0) 0) : TabAt (W.setCell ⟨B, q0, none⟩ (.slice (some ⟨Bq, 0, none⟩) n n)) base top' B n h f q0 := by
  obtain ⟨cs, g, h2, h3, h4⟩ := t
  have hgs := grown_set W ⟨B, q0, none⟩ (.slice (some ⟨Bq, 0, none⟩) n n)
  refine ⟨_, fun k => if k = Bq then q0 else g k, h2.set q0 _, by simp [h3], fun q hq0 hq1 => ?_⟩
  by_cases e : q = q0
  · subst e
    exact ⟨Bq, by rw [Array.getElem?_setIfInBounds_self_of_lt (by omega)], ⟨hb, htop', if_pos rfl⟩, hne, r.kept hgs (fun e => hne (by injection e))⟩
  · obtain ⟨Bq', a, ⟨b1, b2, b3⟩, c, d⟩ := h4 q (by omega) hq1
    exact ⟨Bq', by rw [Array.getElem?_setIfInBounds_ne (fun e' => e e'.symm)]; exact a, ⟨b1, by omega, (if_neg (by omega)).trans b3⟩, c, d.kept hgs (fun e => c (by injection e))⟩

theorem TabAt.above {W : World} {base top top' B n h : Nat} {f : Nat → Nat → Int} {q0 : Nat} (t : TabAt W base top B n h f q0) (ht : top ≤ top') : TabAt W base top' B n h f q0 := by
  obtain ⟨cs, g, h2, h3, h4⟩ := t
  refine ⟨cs, g, h2, h3, fun q hq0 hq1 => ?_⟩
  obtain ⟨Bq, a, ⟨b1, b2, b3⟩, c, d⟩ := h4 q hq0 hq1
  exact ⟨Bq, a, ⟨b1, by omega, b3⟩, c, d⟩

set_option maxRecDepth 100000 in
set_option maxHeartbeats 1000000 in
theorem table_calls (l : List S35) (s : ByteArray) (hm : mayB (madeL l) = true) (hl : l.length ≤ 1000) (hs : s.size ≤ 1000) (hlf : ∀ x ∈ l, x.f1.length ≤ 1000 ∧ x.f2.length ≤ 1000) (A : Option Addr) (c : Nat) (w : World) (hC : Kd.C k35 w A l.length l) :
    Calls Try.prog 33 #[.slice A l.length c, .string s] w fun e w' => ∃ B, e = .returned (.slice (some ⟨B, 0, none⟩) (s.size + 1) (s.size + 1)) ∧ w.heap.size ≤ B ∧ TabAt w' w.heap.size w'.heap.size B l.length (s.size + 1) (fun q i => manyP (madeL l) s ⟨(i : Int), (q : Int)⟩) 0 ∧ RowKit.Below w.heap.size w w' := by
  have hwr : IntKind.i64.wrap ((s.size : Int) + 1) = (s.size : Int) + 1 := IntWalk.i64_in _ (by omega)
  have hmk1 : ∀ W : World, (Instr.makeSlice 73 (.int .i64 ((s.size : Int) + 1)) (.int .i64 ((s.size : Int) + 1))).run Try.prog W = .ok (.slice (some ⟨W.heap.size, 0, none⟩) (s.size + 1) (s.size + 1)) (W.alloc (.cells (madeCells #[.slice none 0 0] (s.size + 1)) 33)) := fun W => by
    have := print_make_int (P := Try.prog) 73 33 (.slice none 0 0) 24 Try.underlying73 (by kernel_rfl) rfl (by decide) ((s.size : Int) + 1) (by omega) (by omega) W
    rwa [show ((s.size : Int) + 1).toNat = s.size + 1 by omega] at this
  have hmk2 : ∀ W : World, (Instr.makeSlice 33 (.int .i64 (l.length : Int)) (.int .i64 (l.length : Int))).run Try.prog W = .ok (.slice (some ⟨W.heap.size, 0, none⟩) l.length l.length) (W.alloc (.cells (madeCells #[.int .i64 0] l.length) 3)) := fun W => by
    have := print_make_int (P := Try.prog) 33 3 (.int .i64 0) 8 Try.underlying33 (by kernel_rfl) rfl (by decide) (l.length : Int) (by omega) (by omega) W
    rwa [Int.toNat_natCast] at this
  go_enter Try.func33, Try.ntmps33
  go_wp2_with fail
  have bT := Blk.new w 33 (madeCells #[.slice none 0 0] (s.size + 1))
  have hT0 : TabAt (w.alloc (.cells (madeCells #[.slice none 0 0] (s.size + 1)) 33)) w.heap.size (w.heap.size + 1) w.heap.size l.length (s.size + 1) (fun q i => manyP (madeL l) s ⟨(i : Int), (q : Int)⟩) (s.size + 1) := ⟨_, fun _ => 0, bT, size_madeCells _ _, fun q h0 h1 => by omega⟩
  have hB0 := below_alloc (RowKit.Below.refl w.heap.size w) (.cells (madeCells #[.slice none 0 0] (s.size + 1)) 33)
  clear bT
  go_loopw [6] (fun pv wr => ∃ q : Nat, q ≤ s.size + 1 ∧ pv = .int .i64 ((q : Int) - 1) ∧ TabAt wr w.heap.size wr.heap.size w.heap.size l.length (s.size + 1) (fun q i => manyP (madeL l) s ⟨(i : Int), (q : Int)⟩) q ∧ Aside0 (RowKit.Below w.heap.size w wr)) (fun pv _ => (intOf pv + 1).toNat)
  case atStart => exact ⟨s.size + 1, Nat.le_refl _, by simp, by rw [World.size_alloc]; exact hT0, ⟨hB0⟩⟩
  case round =>
    obtain ⟨q, hq, rfl, hT, HB⟩ := hrel
    cases q with
    | zero =>
      have d0 : decide ((0 : Int) ≤ ((0 : Nat) : Int) - 1) = false := rfl
      go_wp2_with fail
      go_ret
      exact ⟨w.heap.size, rfl, Nat.le_refl _, hT, HB.out⟩
    | succ p =>
      have ep : (((p + 1 : Nat) : Int) - 1) = (p : Int) := by omega
      rw [ep]
      have d0 : decide (0 ≤ (p : Int)) = true := decide_eq_true (by omega)
      have hwl : IntKind.i64.wrap ((l.length : Int) - 1) = (l.length : Int) - 1 := IntWalk.i64_in _ (by omega)
      go_wp2_with fail
      have hR0 : RowAt (wr.alloc (.cells (madeCells #[.int .i64 0] l.length) 3)) wr.heap.size l.length (fun i => manyP (madeL l) s ⟨(i : Int), (p : Int)⟩) l.length := ⟨_, Blk.new wr 3 _, size_madeCells _ _, fun i h0 h1 => by omega⟩
      have hsz0 := HB.out.size
      have hgo := World.grownBy_alloc wr (.cells (madeCells #[.int .i64 0] l.length) 3) none
      have hB1 := HB.out.alloc HB.out.size (.cells (madeCells #[.int .i64 0] l.length) 3)
      have hs1 : (wr.alloc (.cells (madeCells #[.int .i64 0] l.length) 3)).heap.size = wr.heap.size + 1 := by simp
      have hlT := hT.lt
      have HT := Aside0.mk hT
      clear hT
      generalize hBq : wr.heap.size = Bq at hR0 hsz0 hs1 hlT HT ⊢
      generalize wr.alloc (.cells (madeCells #[.int .i64 0] l.length) 3) = w5 at hR0 hgo hB1 hs1 ⊢
      have HB5 := Aside0.mk hB1
      go_loopw [8] (fun iv wq => ∃ i : Nat, i ≤ l.length ∧ iv = .int .i64 ((i : Int) - 1) ∧ RowAt wq Bq l.length (fun i => manyP (madeL l) s ⟨(i : Int), (p : Int)⟩) i ∧ Aside0 (w5.grownBy wq (some Bq))) (fun iv _ => (intOf iv + 1).toNat)
      case atStart => exact ⟨l.length, Nat.le_refl _, rfl, hR0, ⟨grown_of_below (RowKit.Below.refl _ _) _⟩⟩
      case round =>
        obtain ⟨i, hi, rfl, hR, HG⟩ := hrel
        have HGo := Aside0.mk (hgo.andThen HG.out (fun j hj => .inl (by cases hj; rw [hBq]; exact Nat.le_refl _)))
        have hT2 := HT.out.kept HGo.out (fun b hb => by cases hb)
        have HB6 := Aside0.mk (HB.out.grown HGo.out HB.out.size (fun j hj => by cases hj))
        cases i with
        | zero =>
          have d1 : decide ((0 : Int) ≤ ((0 : Nat) : Int) - 1) = false := rfl
          obtain ⟨u, hu⟩ := hT2.has p (by omega)
          have hf := hT2.free p
          have hp0 : (0 : Int) ≤ p := by omega
          have hp1 : (p : Int) < (s.size : Int) + 1 := by omega
          have hwp : IntKind.i64.wrap ((p : Int) - 1) = (p : Int) - 1 := IntWalk.i64_in _ (by omega)
          have hT3 := hT2.set (by omega) (show w.heap.size ≤ Bq by omega) (Nat.le_refl _) (Nat.lt_succ_self _) (show Bq ≠ w.heap.size by omega) hR
          have hRlt := hR.lt
          have HB7 := Aside0.mk (HB6.out.setCell (p := ⟨w.heap.size, p, none⟩) (Nat.le_refl _) (.slice (some ⟨Bq, 0, none⟩) l.length l.length))
          go_wp2_with fail
          exact ⟨⟨p, by omega, rfl, hT3.above (by simp; omega), HB7⟩, by simp [intOf]⟩
        | succ i =>
          have ei : (((i + 1 : Nat) : Int) - 1) = (i : Int) := by omega
          rw [ei]
          have d1 : decide (0 ≤ (i : Int)) = true := decide_eq_true (by omega)
          have hi0 : (0 : Int) ≤ i := by omega
          have hi1 : (i : Int) < l.length := by omega
          obtain ⟨ad, A1, c1, A2, c2, hA, x0, x1, x2, x3, x4, hl1, g1, hl2, g2⟩ := at_T35 hC i (by omega) (by omega)
          simp only [Int.toNat_natCast] at x0 x1 x2 x3 x4
          replace x0 := (HB6.out.cell (World.block_lt_of_cell? _ _ x0)).trans x0
          replace x1 := (HB6.out.cell (World.block_lt_of_cell? _ _ x1)).trans x1
          replace x2 := (HB6.out.cell (World.block_lt_of_cell? _ _ x2)).trans x2
          replace x4 := (HB6.out.cell (World.block_lt_of_cell? _ _ x4)).trans x4
          have hnode : rd_Node (madeL l) (i : Int) = toNode (rd_T35 l (i : Int)) := by
            unfold rd_Node rd_T35 madeL
            rw [Int.toNat_natCast, List.getD_eq_getElem?_getD, List.getElem?_map, List.getElem?_eq_getElem (by omega : i < l.length), List.getD_eq_getElem?_getD, List.getElem?_eq_getElem (by omega : i < l.length)]
            rfl
          have hin : InP (madeL l) s ⟨(i : Int), (p : Int)⟩ := ⟨by dsimp only; omega, by simp [madeL]; omega, by dsimp only; omega, by dsimp only; omega⟩
          have hright := mayB_right hm (i : Int) hin.1 hin.2.1
          have hmlen : (madeL l).length = l.length := by simp [madeL]
          rw [hmlen] at hright
          have hcell := cell_eq hm hin
          have hbd := hlf (rd_T35 l (i : Int)) (by unfold rd_T35; rw [Int.toNat_natCast, List.getD_eq_getElem?_getD, List.getElem?_eq_getElem (by omega : i < l.length)]; exact List.getElem_mem _)
          generalize hx : rd_T35 l (i : Int) = x at x0 x1 x2 x4 hl1 g1 hl2 g2 hnode hbd
          obtain ⟨y0, y1, y2, y3, y4⟩ := x
          dsimp only at x0 x1 x2 x4 hl1 g1 hl2 g2 hbd
          obtain ⟨hbd1, hbd2⟩ := hbd
          rw [hnode] at hright
          subst hA
          have HNODE := Aside0.mk hnode
          have HC1 := Aside0.mk g1
          have HC2 := Aside0.mk g2
          have HCELL := Aside0.mk hcell
          have HR := Aside0.mk hR
          have HT2 := Aside0.mk hT2
          clear g1 g2 hcell hx hnode x3 hT2 hR
          have hc1 : cell1 (madeL l) s ⟨(i : Int), (p : Int)⟩ = if y0 = 3 then manyP (madeL l) s ⟨y4, (p : Int)⟩ else if y0 = 4 ∧ (p : Int) = s.size then 1 else 0 := by
            unfold cell1; dsimp only; rw [HNODE.out]; rfl
          have HRIGHT := Aside0.mk hright
          by_cases k3 : y0 = 3
          case' pos =>
            have f3 : (y0 == 3) = true := beq_iff_eq.2 k3
            have f4 : (y0 == 4) = false := beq_eq_false_iff_ne.2 (by omega)
            have hto := right_mark hright k3
            obtain ⟨t, ht⟩ : ∃ t : Nat, y4 = (t : Int) := ⟨y4.toNat, by have := hto.1; simp [toNode] at this; omega⟩
            have ht1 := hto.1
            have ht2 := hto.2.1
            simp only [toNode] at ht1 ht2
            subst ht
            have hrt := HR.out.cell t (by omega) (by omega)
            have hy4 : (0 : Int) ≤ t := by omega
            rw [if_pos k3] at hc1
            have HC0 := Aside0.mk hc1
            clear k3 hc1 hto hright
            go_wp2_with fail
          case' neg =>
            have f3 : (y0 == 3) = false := beq_eq_false_iff_ne.2 k3
            rw [if_neg k3] at hc1
            by_cases k4 : y0 = 4
            case' neg =>
              have f4 : (y0 == 4) = false := beq_eq_false_iff_ne.2 k4
              rw [if_neg (fun h => k4 h.1)] at hc1
              have HC0 := Aside0.mk hc1
              clear k3 k4 hc1 hright
              go_wp2_with fail
            case' pos =>
              have f4 : (y0 == 4) = true := beq_iff_eq.2 k4
              by_cases kp : (p : Int) = s.size
              case' pos =>
                have fp : ((p : Int) == (s.size : Int)) = true := beq_iff_eq.2 kp
                rw [if_pos ⟨k4, kp⟩] at hc1
                have HC0 := Aside0.mk hc1
                clear k3 k4 kp hc1 hright
                go_wp2_with fail
              case' neg =>
                have fp : ((p : Int) == (s.size : Int)) = false := beq_eq_false_iff_ne.2 kp
                rw [if_neg (fun h => kp h.2)] at hc1
                have HC0 := Aside0.mk hc1
                clear k3 k4 kp hc1 hright
                go_wp2_with fail
          all_goals
            go_loopw [9, 10] (fun nv kv wq => ∃ k : Nat, k ≤ y2.length ∧ kv = .int .i64 k ∧ nv = .int .i64 (cell2 (madeL l) s ⟨(i : Int), (p : Int)⟩ k) ∧ Aside0 (RowKit.Below wr.heap.size wr wq)) (fun _ kv _ => y2.length - (intOf kv).toNat)
            case atStart => exact ⟨0, Nat.zero_le _, rfl, congrArg (Value.int .i64) HC0.out.symm, ⟨RowKit.Below.refl _ _⟩⟩
          all_goals
            obtain ⟨k, hk, rfl, rfl, HQ⟩ := hrel
            have z0 := (HQ.out.cell (World.block_lt_of_cell? _ _ x0)).trans x0
            have z1 := (HQ.out.cell (World.block_lt_of_cell? _ _ x1)).trans x1
            have z2 := (HQ.out.cell (World.block_lt_of_cell? _ _ x2)).trans x2
            have HB8 := Aside0.mk (HB6.out.trans (HQ.out.mono HB6.out.size))
            have HR8 := Aside0.mk (HR.out.kept (grown_of_below HQ.out none) (by simp))
            have HT8 := Aside0.mk (HT2.out.kept (grown_of_below HQ.out none) (fun b hb => by cases hb))
            by_cases hkl : k < y2.length
            case' pos =>
              obtain ⟨ad2, hA2, e0⟩ := at_int (Kd.C_below HC2.out HB8.out) k hkl
              have hfk := right_forks HRIGHT.out (y2.getD k 0) (by rw [List.getD_eq_getElem?_getD, List.getElem?_eq_getElem hkl]; exact List.getElem_mem _)
              have hst := cell2_step (madeL l) s ⟨(i : Int), (p : Int)⟩ k (by dsimp only; rw [HNODE.out]; exact hkl)
              dsimp only at hst
              rw [HNODE.out] at hst
              simp only [toNode] at hst
              generalize y2.getD k 0 = t at e0 hfk hst
              obtain ⟨t, rfl⟩ : ∃ t' : Nat, t = (t' : Int) := ⟨t.toNat, by omega⟩
              have hrt8 := HR8.out.cell t (by omega) (by omega)
              have hrg := cell2_range (madeL l) s ⟨(i : Int), (p : Int)⟩ k
              have hmr := manyP_range (madeL l) s ⟨(t : Int), (p : Int)⟩
              have HST := Aside0.mk hst
              clear hst
              subst hA2
              have ht0 : (0 : Int) ≤ t := by omega
              have ht3 : (t : Int) < l.length := by omega
              have hkk0 : (0 : Int) ≤ k := by omega
              have hkk1 : (k : Int) < y2.length := by omega
              have HJ := Aside0.mk (show k + 1 ≤ y2.length by omega)
              generalize cell2 (madeL l) s ⟨(i : Int), (p : Int)⟩ k = a at hrg HST ⊢
              generalize manyP (madeL l) s ⟨(t : Int), (p : Int)⟩ = b at hmr HST hrt8
              have hwab : IntKind.i64.wrap (a + b) = a + b := IntWalk.i64_in _ (by omega)
              go_wp2_with fail
              exact ⟨⟨k + 1, HJ.out, by go_num, by rw [HST.out], HQ⟩, by have := HJ.out; simp [intOf]; omega⟩
            obtain rfl : k = y2.length := by omega
            go_wp2_with fail
            have hf2 : (rd_Node (madeL l) (i : Int)).f2.length = y2.length := by rw [HNODE.out]; rfl
            have hf1 : (rd_Node (madeL l) (i : Int)).f1.length = y1.length := by rw [HNODE.out]; simp [toNode]
            have hf1e : (rd_Node (madeL l) (i : Int)).f1 = y1.map toEdge := by rw [HNODE.out]; rfl
            have hc30 : cell3 (madeL l) s ⟨(i : Int), (p : Int)⟩ 0 = cell2 (madeL l) s ⟨(i : Int), (p : Int)⟩ y2.length := by rw [← hf2]; rfl
            have hc3n : cell3 (madeL l) s ⟨(i : Int), (p : Int)⟩ y1.length = manyP (madeL l) s ⟨(i : Int), (p : Int)⟩ := by rw [← hf1]; exact HCELL.out
            have HC30 := Aside0.mk hc30
            have HC3N := Aside0.mk hc3n
            clear hf2 hf1 hc30 hc3n x0 x1 x2 x4
            by_cases hps : p < s.size
            case' neg =>
              have e9 : decide ((p : Int) < (s.size : Int)) = false := decide_eq_false (by omega)
              have hkeep : cell2 (madeL l) s ⟨(i : Int), (p : Int)⟩ y2.length = manyP (madeL l) s ⟨(i : Int), (p : Int)⟩ := HC30.out.symm.trans ((cell3_none (madeL l) s ⟨(i : Int), (p : Int)⟩ (fun e => by unfold takesP; rw [e9]; rfl) y1.length).symm.trans HC3N.out)
              rw [hkeep]
              have hwi : IntKind.i64.wrap ((i : Int) - 1) = (i : Int) - 1 := IntWalk.i64_in _ (by omega)
              go_loopw [9, 11] (fun nv kv wq => kv = .int .i64 0 ∧ nv = .int .i64 (manyP (madeL l) s ⟨(i : Int), (p : Int)⟩) ∧ Aside0 (RowKit.Below wr.heap.size wr wq)) (fun _ _ _ => 0)
              case atStart => exact ⟨rfl, rfl, ⟨RowKit.Below.refl _ _⟩⟩
              case round =>
                obtain ⟨rfl, rfl, HE⟩ := hrel
                have u1 := (HE.out.cell (World.block_lt_of_cell? _ _ z1)).trans z1
                have HR9 := HR8.out.kept (grown_of_below HE.out none) (by simp)
                obtain ⟨u, hu⟩ := HR9.has i (by omega)
                have hfz := HR9.free i
                have hset := HR9.set (by omega : i < l.length)
                have hGn := HG.out.trans ((grown_of_below HQ.out (some Bq)).trans ((grown_of_below HE.out (some Bq)).trans (grown_set _ ⟨Bq, i, none⟩ (.int .i64 (manyP (madeL l) s ⟨(i : Int), (p : Int)⟩)))))
                have HS := Aside0.mk hset
                have HGN := Aside0.mk hGn
                clear hset hGn HR9
                go_wp2_with fail
                all_goals exact ⟨⟨i, by omega, by go_num, HS.out, ⟨HGN.out⟩⟩, by first | (simp [intOf]; done) | (simp [intOf]; omega)⟩
            have e9 : decide ((p : Int) < (s.size : Int)) = true := decide_eq_true (by omega)
            rw [← HC30.out]
            have hwi : IntKind.i64.wrap ((i : Int) - 1) = (i : Int) - 1 := IntWalk.i64_in _ (by omega)
            go_loopw [9, 11] (fun nv kv wq => ∃ k : Nat, k ≤ y1.length ∧ kv = .int .i64 k ∧ nv = .int .i64 (cell3 (madeL l) s ⟨(i : Int), (p : Int)⟩ k) ∧ Aside0 (RowKit.Below wr.heap.size wr wq)) (fun _ kv _ => y1.length - (intOf kv).toNat)
            case atStart => exact ⟨0, Nat.zero_le _, rfl, rfl, ⟨RowKit.Below.refl _ _⟩⟩
            case round =>
              obtain ⟨k, hk, rfl, rfl, HE⟩ := hrel
              have u1 := (HE.out.cell (World.block_lt_of_cell? _ _ z1)).trans z1
              by_cases hkl : k < y1.length
              · obtain ⟨ad1, hA1, e0, e1, e2⟩ := at_T72 (Kd.C_below HC1.out (HB8.out.trans (HE.out.mono HB8.out.size))) k (by omega) (by omega)
                simp only [Int.toNat_natCast] at e0 e1 e2
                have hre : rd_Edge (y1.map toEdge) (k : Int) = toEdge (rd_T72 y1 (k : Int)) := by
                  unfold rd_Edge rd_T72
                  rw [Int.toNat_natCast, List.getD_eq_getElem?_getD, List.getElem?_map, List.getElem?_eq_getElem hkl, List.getD_eq_getElem?_getD, List.getElem?_eq_getElem hkl]
                  rfl
                have hst := cell3_step (madeL l) s ⟨(i : Int), (p : Int)⟩ k (by dsimp only; rw [hf1e, List.length_map]; exact hkl)
                dsimp only at hst
                rw [hf1e, hre] at hst
                have hto := right_edges HRIGHT.out (toEdge (rd_T72 y1 (k : Int))) (by show _ ∈ y1.map toEdge; rw [← hre]; unfold rd_Edge; rw [Int.toNat_natCast, List.getD_eq_getElem?_getD, List.getElem?_eq_getElem (by rw [List.length_map]; exact hkl)]; exact List.getElem_mem _)
                generalize rd_T72 y1 (k : Int) = x at e0 e1 e2 hst hto
                obtain ⟨v0, v1, v2⟩ := x
                simp only [toEdge] at hst hto
                dsimp only at e0 e1 e2
                obtain ⟨t, rfl⟩ : ∃ t' : Nat, v2 = (t' : Int) := ⟨v2.toNat, by omega⟩
                have HT9 := HT8.out.kept (grown_of_below HE.out none) (fun b hb => by cases hb)
                obtain ⟨Bq', hq1, _, _, hr9⟩ := HT9.row (p + 1) (Nat.le_refl _) (by omega)
                have hrt9 := hr9.cell t (Nat.zero_le _) (by omega)
                rw [show ((p + 1 : Nat) : Int) = (p : Int) + 1 by omega] at hrt9
                subst hA1
                have HST := Aside0.mk hst
                have hbt := bt_at s p
                have hbt' : ∀ h : p < s.size, ((s[p]'h).toNat : Int) = bt s p := fun h => by have := bt_at s p (by omega); simpa using this
                have hp0 : (0 : Int) ≤ p := by omega
                have hp1 : (p : Int) < s.size := by omega
                have hp2 : (p : Int) + 1 < (s.size : Int) + 1 := by omega
                have hwp : IntKind.i64.wrap ((p : Int) + 1) = (p : Int) + 1 := IntWalk.i64_in _ (by omega)
                have hk0 : (0 : Int) ≤ k := by omega
                have hk1 : (k : Int) < y1.length := by omega
                have ht0 : (0 : Int) ≤ t := by omega
                have ht9 : (t : Int) < l.length := by omega
                have HJ := Aside0.mk (show k + 1 ≤ y1.length by omega)
                clear hst HT9 hr9
                by_cases d2 : v0 ≤ bt s p
                · have f2 : decide (v0 ≤ bt s p) = true := decide_eq_true d2
                  by_cases d3 : bt s p ≤ v1
                  · have f9 : decide (bt s p ≤ v1) = true := decide_eq_true d3
                    have htk : takesP s (p : Int) ⟨v0, v1, (t : Int)⟩ = true := by unfold takesP; rw [e9, f2, f9]; rfl
                    have HST2 := Aside0.mk (HST.out.trans (if_pos htk))
                    have hpp0 : (0 : Int) ≤ (p : Int) + 1 := by omega
                    have hpp1 : ((p : Int) + 1).toNat = p + 1 := by omega
                    clear d2 d3 HST
                    go_wp2_with fail
                    go_quiet (fail)
                    go_wp2_with fail
                    go_quiet (fail)
                    go_wp2_with fail
                    exact ⟨⟨k + 1, HJ.out, by go_num, by rw [HST2.out], ⟨pw_below_drewN HE.out _⟩⟩, by have := HJ.out; simp [intOf]; omega⟩
                  · have f9 : decide (bt s p ≤ v1) = false := decide_eq_false d3
                    have htk : ¬ takesP s (p : Int) ⟨v0, v1, (t : Int)⟩ = true := by unfold takesP; rw [e9, f2, f9]; simp
                    have HST2 := Aside0.mk (HST.out.trans (if_neg htk))
                    clear d2 d3 HST
                    go_wp2_with fail
                    go_quiet (fail)
                    go_wp2_with fail
                    exact ⟨⟨k + 1, HJ.out, by go_num, by rw [HST2.out], ⟨pw_below_drewN HE.out _⟩⟩, by have := HJ.out; simp [intOf]; omega⟩
                · have f2 : decide (v0 ≤ bt s p) = false := decide_eq_false d2
                  have htk : ¬ takesP s (p : Int) ⟨v0, v1, (t : Int)⟩ = true := by unfold takesP; rw [e9, f2]; simp
                  have HST2 := Aside0.mk (HST.out.trans (if_neg htk))
                  clear d2 HST
                  go_wp2_with fail
                  go_quiet (fail)
                  go_wp2_with fail
                  exact ⟨⟨k + 1, HJ.out, by go_num, by rw [HST2.out], ⟨pw_below_drewN HE.out _⟩⟩, by have := HJ.out; simp [intOf]; omega⟩
              · obtain rfl : k = y1.length := by omega
                rw [HC3N.out]
                have HR9 := HR8.out.kept (grown_of_below HE.out none) (by simp)
                obtain ⟨u, hu⟩ := HR9.has i (by omega)
                have hfz := HR9.free i
                have hset := HR9.set (by omega : i < l.length)
                have hGn := HG.out.trans ((grown_of_below HQ.out (some Bq)).trans ((grown_of_below HE.out (some Bq)).trans (grown_set _ ⟨Bq, i, none⟩ (.int .i64 (manyP (madeL l) s ⟨(i : Int), (p : Int)⟩)))))
                have HS := Aside0.mk hset
                have HGN := Aside0.mk hGn
                clear hset hGn HR9
                go_wp2_with fail
                all_goals exact ⟨⟨i, by omega, by go_num, HS.out, ⟨HGN.out⟩⟩, by first | (simp [intOf]; done) | (simp [intOf]; omega)⟩

end Go.Proofs.Ytcbflajacioinaa
