/- slices.SortedFunc(slices.Values(l), cmp) at edges: what it hands back. -/
import Derived.RangeFuncBox
import Derived.RangeFuncNested
import Derived.RangeFuncLeaves
import Derived.RangeFuncBound
import Derived.RangeFuncCalls
import Derived.Shelf.Abstract
import Derived.Shelf.RegionOpen
import Derived.WalkKit
import Derived.OwnWalkIn
import Derived.TacticsInMore
import Derived.LoopNIn
import Derived.LoopIn
import Derived.Maps.AppendAt
import Derived.Outline
import Derived.Test.YtcbflajacioinaaMachK
namespace Go.Proofs.Ytcbflajacioinaa
open Go.RowKit Go.Shelf Go.Proofs.YtcbflajacioinaaW.PrintWords Go.Proofs.YtcbflajacioinaaW.PrintLast
attribute [local go_sem] Oper.semAt_some

/-- An edge as one value. -/
def encEdge (x : Edge) : List Value := [.int .u8 x.f0, .int .u8 x.f1, .int .i64 x.f2]
def valEdge (x : Edge) : Value := .agg #[.int .u8 x.f0, .int .u8 x.f1, .int .i64 x.f2]

theorem cmp_calls (a1 a2 a3 b1 b2 b3 : Int) (w : World) (ha : 0 ≤ a1 ∧ a1 ≤ 255) (hb : 0 ≤ b1 ∧ b1 ≤ 255) :
    Calls Try.prog 52 #[.agg #[.int .u8 a1, .int .u8 a2, .int .i64 a3], .agg #[.int .u8 b1, .int .u8 b2, .int .i64 b3]] w fun e w' => e = .returned (.int .i64 (a1 - b1)) ∧ ∃ o1 o2, w' = (w.alloc o1).alloc o2 := by
  obtain ⟨ha1, ha2⟩ := ha
  obtain ⟨hb1, hb2⟩ := hb
  go_enter Try.func52, Try.ntmps52
  go_wp2
  go_ret
  exact ⟨rfl, _, _, rfl⟩

theorem values_in (F : Fence) (n : Nat) (h5 : F.fn 51) (hro : F.round = none) (a : Option Addr) (len cap : Nat) (w : World) :
    CallsIn F n Try.prog 51 #[.slice a len cap] w fun e w' => e = .returned (.func (.func 56) #[] #[.pointer (some ⟨w.heap.size, 0, none⟩)]) ∧ w' = w.alloc (.cells #[.slice a len cap] 47) := by
  refine callsIn_of_wp Try.func51 rfl h5 ?_ hro
  simp only [Try.ntmps51, List.size_toArray, List.length_cons, List.length_nil, Nat.reduceAdd, Nat.reduceSub, Array.replicate_succ, Array.replicate_zero, List.push_toArray, List.append_toArray, List.nil_append, List.cons_append]
  gi_wp2
  go_ret
  exact ⟨rfl, rfl⟩

set_option maxRecDepth 100000 in
set_option maxHeartbeats 2000000 in
theorem values1_in (F : Fence) (n : Nat) (h7 : F.fn 56) (hro : F.round = none) (hn : 1 ≤ n) (l Bs n₀ : Nat) (A : Option Addr) (cap : Nat) (xs : List Edge) (hlen : xs.length ≤ 9223372036854775807) (J Jx : List Edge → World → Prop) (hJ : ∀ pre W o, J pre W → J pre (W.alloc o))
    (hY : ∀ pre x W, J pre W → pre.length < xs.length → YieldAt F (n - 1) Try.prog l #[valEdge x] W fun e W' =>
      (e = .returned (.bool true) ∧ J (pre ++ [x]) W' ∧ Below n₀ W W') ∨ (e = .returned (.bool false) ∧ Jx (pre ++ [x]) W'))
    (W : World) (hn₀ : n₀ ≤ W.heap.size) (hBs : W.cell? ⟨Bs, 0, none⟩ = some (.slice A xs.length cap)) (hC : ∀ W1, Below n₀ W W1 → kEdge.C W1 A xs.length xs) (h0 : J [] W) :
    CallsIn F n Try.prog 56 #[.func (.yield l) #[] #[], .pointer (some ⟨Bs, 0, none⟩)] W fun e W' => (∃ v, e = .returned v) ∧
      ((∃ ys, ys = xs ∧ J ys W') ∨ (∃ pre, pre <+: xs ∧ Jx pre W')) := by
  refine callsIn_of_wp Try.func56 rfl h7 ?_ hro
  simp only [Try.ntmps56, List.size_toArray, List.length_cons, List.length_nil, Nat.reduceAdd, Nat.reduceSub, Array.replicate_succ, Array.replicate_zero, List.push_toArray, List.append_toArray, List.nil_append, List.cons_append]
  gi_wp2
  gi_loopw [7] (fun i wr => ∃ k : Nat, k ≤ xs.length ∧ i = .int .i64 k ∧ J (xs.take k) wr ∧ Below n₀ W wr) (fun i _ => xs.length - (intOf i).toNat)
  case atStart => exact ⟨0, Nat.zero_le _, rfl, by simpa using h0, Below.refl _ _⟩
  case round =>
    obtain ⟨k, hk, rfl, hJs, hnx⟩ := hrel
    by_cases hlt : k < xs.length
    · obtain ⟨ad, hA, c0, c1, c2⟩ := at_Edge (hC wr hnx) k (by omega) (by omega)
      have hx : xs[k]? = some (rd_Edge xs k) := by unfold rd_Edge; simp [List.getD_eq_getElem?_getD, List.getElem?_eq_getElem hlt]
      generalize rd_Edge xs k = x at c0 c1 c2 hx
      simp only [Int.toNat_natCast] at c0 c1 c2
      subst hA
      have HX := Aside0.mk hx
      clear hx
      have hJ1 := hJ _ _ (.cells #[.int .u8 x.f0, .int .u8 x.f1, .int .i64 x.f2] 52) hJs
      have hnx1 := hnx.alloc (Nat.le_trans hn₀ hnx.size) (.cells #[.int .u8 x.f0, .int .u8 x.f1, .int .i64 x.f2] 52)
      obtain ⟨fn, tmps, assign, body, hy, hR⟩ := hY _ x _ hJ1 (by simp; omega)
      unfold valEdge at hy
      gi_wp2
      refine hR.mono ?_
      rintro e W3 (⟨rfl, hJ3, hk3⟩ | ⟨rfl, hJx3⟩)
      · gi_wp2
        go_roundw
        case rel => exact ⟨k + 1, by omega, by simp, by rw [List.take_add_one, HX.out]; exact hJ3, hnx1.trans hk3⟩
        case measure => simp [intOf]; omega
      · gi_wp2
        refine bodyPost_ret (results_none rfl _ _ _) rfl ?_
        exact ⟨⟨_, rfl⟩, .inr ⟨xs.take (k + 1), List.take_prefix _ _, by rw [List.take_add_one, HX.out]; exact hJx3⟩⟩
    · obtain rfl : k = xs.length := by omega
      gi_wp2
      go_end0
      exact ⟨⟨_, rfl⟩, .inl ⟨_, rfl, by simpa using hJs⟩⟩

theorem values_stops (F : Fence) (n : Nat) (h7 : F.fn 56) (hro : F.round = none) (hn : 1 ≤ n) (Bs n₀ : Nat) (A : Option Addr) (cap : Nat) (xs : List Edge) (hlen : xs.length ≤ 9223372036854775807) (w : World) (hBs : Bs < w.heap.size) (hn₀ : n₀ ≤ w.heap.size)
    (hc : w.cell? ⟨Bs, 0, none⟩ = some (.slice A xs.length cap)) (hC : ∀ W1, Below n₀ w W1 → kEdge.C W1 A xs.length xs) :
    SeqStopsK F n Try.prog 56 #[.pointer (some ⟨Bs, 0, none⟩)] (fun x : Edge => #[valEdge x]) (Below n₀) (fun ys => ys = xs) (fun pre => pre <+: xs) xs.length w := fun l J Jx W hW hJ _ hY h0 =>
  values1_in F n h7 hro hn l Bs n₀ A cap xs hlen J Jx (fun pre W o h => hJ pre W _ none h (World.grownBy_alloc W o none) (fun r e => by cases e)) hY W (Nat.le_trans hn₀ hW.size) ((hW.cell (p := ⟨Bs, 0, none⟩) hBs).trans hc) (fun W1 h1 => hC W1 ((hW.mono hn₀).trans h1)) h0

theorem infoEdge : (Try.prog.info? 52).map (fun i => (i.zero, i.size, i.bytes)) = some (some (.agg #[.int .u8 0, .int .u8 0, .int .i64 0]), 3, 16) := by kernel_rfl

def Blk (W : World) (B : Nat) (t : TypeId) (cs : Array Value) : Prop := W.heap[B]? = some (.cells cs t (0, 0))
theorem Blk.kept {W W' : World} {row : Option Nat} {B : Nat} {t : TypeId} {cs : Array Value} (h : Blk W B t cs) (hg : W.grownBy W' row) (hne : some B ≠ row) : Blk W' B t cs := (hg.block B (Array.getElem?_eq_some_iff.1 h).1 hne).trans h
theorem Blk.new (W : World) (t : TypeId) (cs : Array Value) : Blk (W.alloc (.cells cs t)) W.heap.size t cs := World.alloc_heap_new W _
theorem Blk.cell {W : World} {B : Nat} {t : TypeId} {cs : Array Value} (h : Blk W B t cs) (i : Nat) : W.cell? ⟨B, i, none⟩ = cs[i]? := cell_of_row W B i cs t (0, 0) h
theorem Blk.lt {W : World} {B : Nat} {t : TypeId} {cs : Array Value} (h : Blk W B t cs) : B < W.heap.size := (Array.getElem?_eq_some_iff.1 h).1

theorem encEdge_new (x : Edge) (W : World) : ∀ j u, (encEdge x)[j]? = some u → (W.alloc (.cells #[.int .u8 x.f0, .int .u8 x.f1, .int .i64 x.f2] 52)).cell? ((⟨W.heap.size, 0, none⟩ : Addr).add j) = some u :=
  World.news_of_block (cs := #[.int .u8 x.f0, .int .u8 x.f1, .int .i64 x.f2]) (t := 52) (fr := (0, 0)) (World.alloc_heap_new W _)
theorem encEdge_one (x : Edge) : ∀ u ∈ encEdge x, u.oneCell' = true := by simp [encEdge, Value.oneCell']

set_option maxRecDepth 100000 in
set_option maxHeartbeats 2000000 in
theorem appendseq_in (F : Fence) (n : Nat) (h3 : F.fn 57) (h7 : F.fn 56) (hro : F.round = none) (hn : 3 ≤ n) (Bs : Nat) (A : Option Addr) (cap : Nat) (xs : List Edge) (hlen : xs.length ≤ maxLen) (hbytes : xs.length * 16 ≤ 140737488355328)
    (w : World) (hBs : Bs < w.heap.size) (hc : w.cell? ⟨Bs, 0, none⟩ = some (.slice A xs.length cap)) (hC : kEdge.C w A xs.length xs) :
    CallsIn F n Try.prog 57 #[.slice none 0 0, .func (.func 56) #[] #[.pointer (some ⟨Bs, 0, none⟩)]] w fun e W' => ∃ v, e = .returned v ∧ W'.ownsRow w.heap.size 52 3 v xs.length (xs.flatMap encEdge) ∧ (v = .slice none 0 0 ↔ xs = []) ∧ Below w.heap.size w W' := by
  have h1 : 1 ≤ n := by omega
  obtain ⟨i0, hi, hz0, hz1, hz2⟩ := info_parts infoEdge
  refine callsIn_of_wp_marks Try.func57 rfl h3 ?_ hro
  simp only [Try.ntmps57, List.size_toArray, List.length_cons, List.length_nil, Nat.reduceAdd, Nat.reduceSub, Array.replicate_succ, Array.replicate_zero, List.push_toArray, List.append_toArray, List.nil_append, List.cons_append]
  gi_wp2
  have bO := Boxed.new w 47 (.slice none 0 0)
  have hB0 : Below w.heap.size w (w.alloc (.cells #[.slice none 0 0] 47)) := (Below.refl _ w).alloc (Nat.le_refl _) _
  refine wpIn_rangeFunc_ownH hro h1 (gf := 56) (lb := #[.pointer (some ⟨Bs, 0, none⟩)]) rfl h7 (enters_of Try.func56 (by kernel_rfl) rfl)
    (values_stops F (n - 1) h7 hro (by omega) Bs w.heap.size A cap xs (by unfold maxLen at hlen; omega) _ (by simp; omega) (by simp) ((hB0.cell (p := ⟨Bs, 0, none⟩) hBs).trans hc) (fun W1 hW1 => Kd.C_below hC (hB0.trans hW1))) belowK_t (belowK_b (by simp)) (Below.refl _ _) (fun _ => rfl)
    (fun pre W => (∃ v, Boxed W w.heap.size 47 v ∧ W.ownsRow w.heap.size 52 3 v pre.length (pre.flatMap encEdge) ∧ (v = .slice none 0 0 ↔ pre = [])) ∧ Below w.heap.size w W)
    (fun _ _ _ => False)
    (OwnFrom.and (Own.from (holdsRow_own w.heap.size w.heap.size 47 52 3 (fun pre : List Edge => pre.length) (fun pre => pre.flatMap encEdge) (fun pre v => v = .slice none 0 0 ↔ pre = [])) _) (ownFrom_below (Nat.le_refl _) (by simp)))
    (fun _ _ _ _ _ hs _ _ => hs)
    ⟨⟨_, bO, World.ownsRow_nil _ _ _ _, by simp⟩, hB0⟩
    (fun x a' W => ∃ Bx, w.heap.size < Bx ∧ Blk W Bx 52 #[.int .u8 x.f0, .int .u8 x.f1, .int .i64 x.f2] ∧ a' = { tmps := #[.slice none 0 0, .func (.func 56) #[] #[.pointer (some ⟨Bs, 0, none⟩)], .pointer (some ⟨w.heap.size, 0, none⟩), undef, .slice none 0 0, .pointer (some ⟨Bx, 0, none⟩), .func (.func 56) #[] #[.pointer (some ⟨Bs, 0, none⟩)], valEdge x, undef, undef, undef, undef, undef], defers := [] })
    (fun x a' s X Y row hs hg hr => by obtain ⟨Bx, h1, h2, h3⟩ := hs; exact ⟨Bx, h1, h2.kept hg (fun e => by obtain ⟨_, o, ho, hcl⟩ := hr Bx e.symm; rw [show X.heap[Bx]? = _ from h2] at ho; cases ho; cases hcl), h3⟩)
    ?assign ?body ?done ?stop
  case assign =>
    rintro l pre x W K ⟨⟨v, hv, hrow, hnil⟩, hB⟩ hK
    unfold valEdge at hK ⊢
    gi_wp2
    exact hK _ _ ((KeepsOthers.alloc _ _).from _) ((Below.refl _ W).alloc hB.size _) ⟨⟨v, hv.alloc _, hrow.alloc _, hnil⟩, hB.alloc hB.size _⟩ ⟨W.heap.size, hv.lt, Blk.new W _ _, rfl⟩
  case body =>
    rintro l pre x a' W hl ⟨r, hr⟩ ⟨⟨v, hv, hrow, hnil⟩, hB⟩ ⟨Bx, hBx, bX, rfl⟩ hlt
    have hcv := hv.cell
    have hx0 := bX.cell 0
    have hx1 := bX.cell 1
    have hx2 := bX.cell 2
    simp only [List.getElem?_toArray, List.getElem?_cons_zero, List.getElem?_cons_succ] at hx0 hx1 hx2
    have hlt' : pre.length + 1 ≤ maxLen := by omega
    have hb' : (pre.length + 1) * 16 ≤ 140737488355328 := by omega
    have hsz := hB.size
    gi_wp2_with (gi_at_builtin; refine wpListIn_append_own _ rfl _ _ 47 rfl w.heap.size 52 i0 (.agg #[.int .u8 0, .int .u8 0, .int .i64 0]) 3 16 Try.underlying47 hi hz0 hz1 hz2 rfl (by decide) _ _ _ rfl (hrow.alloc _) ⟨W.heap.size, 0, none⟩ 1 1 (encEdge x) rfl rfl (encEdge_new x W) (encEdge_one x) hlt' hb' (by simp; omega) ?_; intro v' w1 hown' hgrow _; obtain ⟨g', cap', rfl⟩ := ownsRow_succ hown'; obtain ⟨hv1, hv2, hr2, hk2, hb2⟩ := hv.appended (by decide) hrow hB.size (Nat.le_refl _) hown' hgrow; have hc1 := hv1.cell; have hf1 := hv1.frozen)
    exact ⟨hk2.from _, hb2, ⟨_, hv2, by simpa using hr2, by simp⟩, hB.trans hb2⟩
  case done =>
    rintro D ys W hD rfl ⟨⟨v, hv, hrow, hnil⟩, hB⟩ hK
    have hcv := hv.cell
    gi_wp2
    refine ⟨by simp, .inl ⟨_, _, rfl, run_takeDeferred hK, ?_⟩⟩
    exact ⟨_, results_tmp rfl _ _ _, v, rfl, ownsRow_putObj hrow _ hK rfl, hnil, hB.trans (belowK_b (w := w) (Nat.le_refl _) W D _ _ (by simp at hD; omega) hK rfl rfl)⟩
  case stop =>
    rintro D c pre W _ _ h _
    exact h.elim

end Go.Proofs.Ytcbflajacioinaa
