/- Texts of one kind, one behind the other: TwinP, TwinMem, TwinReach, TwinFree, TwinSpread, TwinEat. -/
import Derived.Test.YtcbflajacioinaaFindPure
import Derived.Maps.Views
import Derived.Test.YtcbflajacioinaaFindMany
import Derived.Test.YtcbflajacioinaaFindWay
import Derived.BigQuiet
import Derived.Deep.RegionHeld3
import Derived.Outline
import Derived.Deep.QuietTactic
import Derived.Test.YtcbflajacioinaaMade17

/- Texts with two ways: the search through pairs of nodes, as plain functions. -/
namespace Go.Proofs.Ytcbflajacioinaa
open Go.RowKit Go.Proofs.YtcbflajacioinaaW.PrintWords Go.Proofs.YtcbflajacioinaaW.PrintLast

/-- Two nodes, and whether two ways lie apart by now. -/
structure Pr where
  a : Int
  b : Int
  ap : Bool
/-- A pair that was reached; from which, by which byte, and whether one was eaten. -/
structure Stp where
  p : Pr
  src : Int
  c : Int
  ate : Bool
structure SrS where
  all : List Stp
  now : List Int
def zPr : Pr := ⟨0, 0, false⟩
def zStp : Stp := ⟨zPr, 0, 0, false⟩
def eqPr (p q : Pr) : Bool := p.a == q.a && p.b == q.b && p.ap == q.ap
theorem eqPr_iff {p q : Pr} : eqPr p q = true ↔ p = q := by
  obtain ⟨a, b, c⟩ := p
  obtain ⟨x, y, z⟩ := q
  unfold eqPr
  simp only [Bool.and_eq_true, beq_iff_eq, Pr.mk.injEq, and_assoc]
def normP (p : Pr) : Pr := ⟨min p.a p.b, max p.a p.b, p.ap⟩
def seenP (l : List Stp) (p : Pr) : Bool := l.any (fun x => eqPr x.p p)
def reachP (st : SrS) (p : Pr) (src c : Int) (ate : Bool) : SrS :=
  if seenP st.all (normP p) = true then st else ⟨st.all ++ [⟨normP p, src, c, ate⟩], st.now ++ [(st.all.length : Int)]⟩
def freeP (m : List Node) (i : Int) : List Int := if (rd_Node m i).f0 = 3 then [(rd_Node m i).f4] else (rd_Node m i).f2
/-- The pairs behind one, without eating, in turn: those of the i-th of its first node's. -/
def sprAt (m : List Node) (p : Pr) (i : Nat) : List Pr :=
  if p.ap = true then [⟨(freeP m p.a).getD i 0, p.b, true⟩]
  else ⟨(freeP m p.a).getD i 0, (freeP m p.a).getD i 0, false⟩ :: ((freeP m p.a).take i).map (fun o => ⟨(freeP m p.a).getD i 0, o, true⟩)
def sprL (m : List Node) (p : Pr) : List Pr :=
  (List.range (freeP m p.a).length).flatMap (sprAt m p) ++ (if p.ap = true then (freeP m p.b).map (fun t => (⟨p.a, t, true⟩ : Pr)) else [])
def goL (st : SrS) (l : List Pr) (src : Int) : SrS := l.foldl (fun s q => reachP s q src 0 false) st
def bothB (e o : Edge) : Bool := decide (max e.f0 o.f0 ≤ min e.f1 o.f1)
def eatAt (e : Edge) (ap : Bool) (l : List Edge) : List (Pr × Int) := (l.filter (bothB e)).map (fun o => ((⟨e.f2, o.f2, ap⟩ : Pr), max e.f0 o.f0))
def eatL (m : List Node) (p : Pr) : List (Pr × Int) := (rd_Node m p.a).f1.flatMap (fun e => eatAt e p.ap (rd_Node m p.b).f1)
def goE (st : SrS) (l : List (Pr × Int)) (src : Int) : SrS := l.foldl (fun s q => reachP s q.1 src q.2 true) st
def stpAt (l : List Stp) (i : Int) : Stp := l.getD i.toNat zStp
def endB (m : List Node) (two : Bool) (p : Pr) : Bool := (p.ap == two) && ((rd_Node m p.a).f0 == 4) && ((rd_Node m p.b).f0 == 4)

/-- What is told: a step, or none (-1); false: that was too much. And all that was reached. -/
structure Fnd where
  at_ : Int
  ok : Bool
  all : List Stp
/-- One level, from its i-th step on: what is told, or how far the search has come. -/
def lvlF (m : List Node) (two : Bool) (most : Int) : Nat → Nat → SrS → Option Fnd × SrS
  | 0, _, st => (none, st)
  | d + 1, i, st => if i < st.now.length then
      (if (st.all.length : Int) > most then (some ⟨-1, false, st.all⟩, st)
       else if endB m two (stpAt st.all (st.now.getD i 0)).p = true then (some ⟨st.now.getD i 0, true, st.all⟩, st)
       else lvlF m two most d (i + 1) (goL st (sprL m (stpAt st.all (st.now.getD i 0)).p) (st.now.getD i 0)))
    else (none, st)
/-- All pairs there are: an upper bound. -/
def topP (m : List Node) : Nat := 2 * m.length * m.length
def nextLvl (m : List Node) (st : SrS) : SrS := st.now.foldl (fun s at_ => goE s (eatL m (stpAt s.all at_).p) at_) ⟨st.all, []⟩
def runF (m : List Node) (two : Bool) (most : Int) : Nat → SrS → Fnd
  | 0, st => ⟨-1, true, st.all⟩
  | d + 1, st => if st.now.length = 0 then ⟨-1, true, st.all⟩ else
    match lvlF m two most (topP m + 1) 0 st with
    | (some r, _) => r
    | (none, st') => runF m two most d (nextLvl m st')
def runP (m : List Node) (two : Bool) (most : Int) : Fnd := runF m two most (topP m + 2) (reachP ⟨[], []⟩ ⟨0, 0, false⟩ (-1) 0 false)
/-- The bytes by which a step was reached, the last one first. -/
def backF (all : List Stp) : Nat → Int → List Int
  | 0, _ => []
  | d + 1, at_ => if 0 ≤ at_ then (if (stpAt all at_).ate = true then [(stpAt all at_).c] else []) ++ backF all d (stpAt all at_).src else []
def textP (all : List Stp) (at_ : Int) : List Int := (backF all (all.length + 1) at_).reverse

/-! #### what holds of a search at any time -/
def PrIn (m : List Node) (p : Pr) : Prop := 0 ≤ p.a ∧ p.a ≤ p.b ∧ p.b < m.length
def PrAt (m : List Node) (p : Pr) : Prop := 0 ≤ p.a ∧ p.a < m.length ∧ 0 ≤ p.b ∧ p.b < m.length
structure SrOk (m : List Node) (st : SrS) : Prop where
  inn : ∀ x ∈ st.all, PrIn m x.p
  one : (st.all.map (·.p)).Nodup
  src : ∀ (i : Nat) (x : Stp), st.all[i]? = some x → -1 ≤ x.src ∧ x.src < i
  byte : ∀ x ∈ st.all, 0 ≤ x.c ∧ x.c ≤ 255
  now : ∀ i ∈ st.now, 0 ≤ i ∧ i < st.all.length
  len : st.now.length ≤ st.all.length

theorem norm_in {m : List Node} {p : Pr} (h : PrAt m p) : PrIn m (normP p) := by
  obtain ⟨h1, h2, h3, h4⟩ := h
  unfold PrIn normP
  dsimp only
  omega
theorem seen_iff {l : List Stp} {p : Pr} : seenP l p = true ↔ p ∈ l.map (·.p) := by
  unfold seenP
  simp only [List.any_eq_true, List.mem_map, eqPr_iff]
theorem nodup_sub {α : Type} : ∀ {l l' : List α}, l.Nodup → (∀ x ∈ l, x ∈ l') → l.length ≤ l'.length
  | [], _, _, _ => Nat.zero_le _
  | x :: l, l', h, hs => by
    obtain ⟨s, t, rfl⟩ := List.append_of_mem (hs x List.mem_cons_self)
    have hn := List.nodup_cons.1 h
    have := nodup_sub (l' := s ++ t) hn.2 (fun y hy => by
      have := hs y (List.mem_cons_of_mem _ hy)
      rcases List.mem_append.1 this with h1 | h1
      · exact List.mem_append_left _ h1
      · rcases List.mem_cons.1 h1 with rfl | h1
        · exact absurd hy hn.1
        · exact List.mem_append_right _ h1)
    simp only [List.length_append, List.length_cons] at this ⊢
    omega
def gridP (n : Nat) : List Pr := (List.range n).flatMap fun (a : Nat) => (List.range n).flatMap fun (b : Nat) => [(⟨(a : Int), (b : Int), false⟩ : Pr), ⟨(a : Int), (b : Int), true⟩]
theorem all_le {m : List Node} {st : SrS} (h : SrOk m st) : st.all.length ≤ topP m := by
  have h1 : (st.all.map (·.p)).length ≤ (gridP m.length).length := by
    refine nodup_sub h.one ?_
    intro p hp
    obtain ⟨x, hx, rfl⟩ := List.mem_map.1 hp
    obtain ⟨h1, h2, h3⟩ := h.inn x hx
    unfold gridP
    simp only [List.mem_flatMap, List.mem_range]
    refine ⟨x.p.a.toNat, by omega, x.p.b.toNat, by omega, ?_⟩
    rw [Int.toNat_of_nonneg h1, Int.toNat_of_nonneg (by omega)]
    obtain ⟨⟨a, b, c⟩, _, _, _⟩ := x
    cases c <;> simp
  have h2 : (gridP m.length).length = topP m := by
    unfold topP gridP
    have h3 : ∀ (n k : Nat) (f : Nat → List Pr), (∀ a, (f a).length = k) → ((List.range n).flatMap f).length = n * k := by
      intro n k f hf
      induction n with
      | zero => simp
      | succ n ih => rw [List.range_succ, List.flatMap_append, List.length_append, ih]; simp [hf, Nat.succ_mul]
    rw [h3 m.length (m.length * 2) _ (fun a => h3 m.length 2 _ (fun b => rfl)), Nat.mul_comm 2, Nat.mul_comm (m.length * 2)]
  rw [List.length_map] at h1
  omega

theorem reach_ok {m : List Node} {st : SrS} (h : SrOk m st) {p : Pr} (hp : PrAt m p) {src c : Int} (hs : -1 ≤ src ∧ src < st.all.length) (hc : 0 ≤ c ∧ c ≤ 255) (ate : Bool) : SrOk m (reachP st p src c ate) := by
  unfold reachP
  by_cases hn : seenP st.all (normP p) = true
  · rw [if_pos hn]; exact h
  · rw [if_neg hn]
    have hn' : normP p ∉ st.all.map (·.p) := fun e => hn (seen_iff.2 e)
    refine ⟨?_, ?_, ?_, ?_, ?_, ?_⟩
    · intro x hx
      rcases List.mem_append.1 hx with hx | hx
      · exact h.inn x hx
      · obtain rfl := List.mem_singleton.1 hx
        exact norm_in hp
    · rw [List.map_append]
      refine List.nodup_append.2 ⟨h.one, by simp, ?_⟩
      intro a ha b hb
      obtain rfl : b = normP p := by simpa using hb
      exact fun e => hn' (e ▸ ha)
    · intro i x hx
      rcases Nat.lt_or_ge i st.all.length with hi | hi
      · rw [List.getElem?_append_left hi] at hx
        exact h.src i x hx
      · rw [List.getElem?_append_right hi] at hx
        obtain rfl : i = st.all.length := by
          have := (List.getElem?_eq_some_iff.1 hx).1
          simp at this; omega
        simp at hx
        subst hx
        exact hs
    · intro x hx
      rcases List.mem_append.1 hx with hx | hx
      · exact h.byte x hx
      · obtain rfl := List.mem_singleton.1 hx
        exact hc
    · intro i hi
      rw [List.length_append, List.length_singleton]
      rcases List.mem_append.1 hi with hi | hi
      · have := h.now i hi; omega
      · obtain rfl := List.mem_singleton.1 hi
        omega
    · have := h.len
      simp only [List.length_append, List.length_singleton]
      omega

theorem reach_all (st : SrS) (p : Pr) (src c : Int) (ate : Bool) : ∃ l, (reachP st p src c ate).all = st.all ++ l := by
  unfold reachP
  split
  · exact ⟨[], by simp⟩
  · exact ⟨_, rfl⟩
theorem reach_now (st : SrS) (p : Pr) (src c : Int) (ate : Bool) : ∃ l, (reachP st p src c ate).now = st.now ++ l := by
  unfold reachP
  split
  · exact ⟨[], by simp⟩
  · exact ⟨_, rfl⟩
theorem reach_len (st : SrS) (p : Pr) (src c : Int) (ate : Bool) : st.all.length ≤ (reachP st p src c ate).all.length := by
  obtain ⟨l, h⟩ := reach_all st p src c ate
  rw [h, List.length_append]; omega

theorem free_in {m : List Node} (hm : mayB m = true) {i : Int} (h0 : 0 ≤ i) (h1 : i < m.length) : ∀ t ∈ freeP m i, i < t ∧ t < m.length := by
  have hr := mayB_right hm i h0 h1
  unfold freeP
  rcases right_kind hr with hk | hk | hk | hk
  · obtain ⟨_, h2, _⟩ := right_eat hr hk
    rw [if_neg (by omega), h2]
    intro t ht; cases ht
  · rw [if_neg (by omega)]
    exact (right_fork hr hk).1
  · obtain ⟨h2, h3, _⟩ := right_mark hr hk
    rw [if_pos hk]
    intro t ht
    obtain rfl := List.mem_singleton.1 ht
    exact ⟨h2, h3⟩
  · obtain ⟨_, h2, _⟩ := right_end hr hk
    rw [if_neg (by omega), h2]
    intro t ht; cases ht
theorem spr_in {m : List Node} (hm : mayB m = true) {p : Pr} (hp : PrIn m p) : ∀ q ∈ sprL m p, PrAt m q := by
  obtain ⟨h0, h1, h2⟩ := hp
  have ha := free_in hm h0 (by omega : p.a < m.length)
  have hb := free_in hm (by omega : 0 ≤ p.b) h2
  intro q hq
  unfold sprL at hq
  have hg : ∀ i, i < (freeP m p.a).length → (freeP m p.a).getD i 0 ∈ freeP m p.a := fun i hi => by
    rw [List.getD_eq_getElem?_getD, List.getElem?_eq_getElem hi]; exact List.getElem_mem _
  rcases List.mem_append.1 hq with hq | hq
  · obtain ⟨i, hi, hq⟩ := List.mem_flatMap.1 hq
    have ht := ha _ (hg i (List.mem_range.1 hi))
    unfold sprAt at hq
    generalize (freeP m p.a).getD i 0 = t at hq ht
    split at hq
    · obtain rfl := List.mem_singleton.1 hq
      unfold PrAt; dsimp only; omega
    · rcases List.mem_cons.1 hq with rfl | hq
      · unfold PrAt; dsimp only; omega
      · obtain ⟨o, ho, rfl⟩ := List.mem_map.1 hq
        have := ha o (List.mem_of_mem_take ho)
        unfold PrAt; dsimp only; omega
  · split at hq
    · obtain ⟨t, ht, rfl⟩ := List.mem_map.1 hq
      have := hb t ht
      unfold PrAt; dsimp only; omega
    · cases hq
theorem node_edges {m : List Node} (hm : mayB m = true) {i : Int} (h0 : 0 ≤ i) (h1 : i < m.length) : ∀ e ∈ (rd_Node m i).f1, e.f0 ≤ e.f1 ∧ 0 ≤ e.f2 ∧ e.f2 < m.length := by
  have hr := mayB_right hm i h0 h1
  rcases right_kind hr with hk | hk | hk | hk
  · exact eats_edge (right_eat hr hk).1
  · rw [(right_fork hr hk).2]; intro e he; cases he
  · rw [(right_mark hr hk).2.2.1]; intro e he; cases he
  · rw [(right_end hr hk).1]; intro e he; cases he
theorem eat_in {m : List Node} (hm : mayB m = true) (hN : ∀ x ∈ m, NodeOk x) {p : Pr} (hp : PrIn m p) : ∀ q ∈ eatL m p, PrAt m q.1 ∧ 0 ≤ q.2 ∧ q.2 ≤ 255 := by
  obtain ⟨h0, h1, h2⟩ := hp
  intro q hq
  unfold eatL at hq
  obtain ⟨e, he, hq⟩ := List.mem_flatMap.1 hq
  unfold eatAt at hq
  obtain ⟨o, ho, rfl⟩ := List.mem_map.1 hq
  have ho := (List.mem_filter.1 ho).1
  have e1 := node_edges hm h0 (by omega) e he
  have e2 := node_edges hm (by omega) h2 o ho
  have e3 := (hN _ (rd_Node_mem m p.a h0 (by omega))).1 e he
  have e4 := (hN _ (rd_Node_mem m p.b (by omega) h2)).1 o ho
  unfold EdgeOk at e3 e4
  unfold PrAt
  dsimp only
  omega

theorem goL_ok {m : List Node} {src : Int} : ∀ (l : List Pr) {st : SrS}, SrOk m st → (∀ q ∈ l, PrAt m q) → (-1 ≤ src ∧ src < st.all.length) → SrOk m (goL st l src)
  | [], _, h, _, _ => h
  | q :: l, st, h, hq, hs => by
    have h1 := reach_ok h (hq q List.mem_cons_self) hs (by omega : (0 : Int) ≤ 0 ∧ (0 : Int) ≤ 255) false
    have h2 := reach_len st q src 0 false
    exact goL_ok l h1 (fun x hx => hq x (List.mem_cons_of_mem _ hx)) ⟨hs.1, Int.lt_of_lt_of_le hs.2 (Int.ofNat_le.2 h2)⟩
theorem goE_ok {m : List Node} {src : Int} : ∀ (l : List (Pr × Int)) {st : SrS}, SrOk m st → (∀ q ∈ l, PrAt m q.1 ∧ 0 ≤ q.2 ∧ q.2 ≤ 255) → (-1 ≤ src ∧ src < st.all.length) → SrOk m (goE st l src)
  | [], _, h, _, _ => h
  | q :: l, st, h, hq, hs => by
    have h0 := hq q List.mem_cons_self
    have h1 := reach_ok h h0.1 hs h0.2 true
    have h2 := reach_len st q.1 src q.2 true
    exact goE_ok l h1 (fun x hx => hq x (List.mem_cons_of_mem _ hx)) ⟨hs.1, Int.lt_of_lt_of_le hs.2 (Int.ofNat_le.2 h2)⟩
theorem goL_all {src : Int} : ∀ (l : List Pr) (st : SrS), ∃ k, (goL st l src).all = st.all ++ k
  | [], st => ⟨[], by simp [goL]⟩
  | q :: l, st => by
    obtain ⟨k, hk⟩ := reach_all st q src 0 false
    obtain ⟨k', hk'⟩ := goL_all l (reachP st q src 0 false)
    exact ⟨k ++ k', by show (goL (reachP st q src 0 false) l src).all = _; rw [hk', hk, List.append_assoc]⟩
theorem goL_now {src : Int} : ∀ (l : List Pr) (st : SrS), ∃ k, (goL st l src).now = st.now ++ k
  | [], st => ⟨[], by simp [goL]⟩
  | q :: l, st => by
    obtain ⟨k, hk⟩ := reach_now st q src 0 false
    obtain ⟨k', hk'⟩ := goL_now l (reachP st q src 0 false)
    exact ⟨k ++ k', by show (goL (reachP st q src 0 false) l src).now = _; rw [hk', hk, List.append_assoc]⟩
theorem goE_all {src : Int} : ∀ (l : List (Pr × Int)) (st : SrS), ∃ k, (goE st l src).all = st.all ++ k
  | [], st => ⟨[], by simp [goE]⟩
  | q :: l, st => by
    obtain ⟨k, hk⟩ := reach_all st q.1 src q.2 true
    obtain ⟨k', hk'⟩ := goE_all l (reachP st q.1 src q.2 true)
    exact ⟨k ++ k', by show (goE (reachP st q.1 src q.2 true) l src).all = _; rw [hk', hk, List.append_assoc]⟩
theorem stp_more {l k : List Stp} {i : Int} (h0 : 0 ≤ i) (h1 : i < l.length) : stpAt (l ++ k) i = stpAt l i := by
  unfold stpAt
  rw [List.getD_eq_getElem?_getD, List.getD_eq_getElem?_getD, List.getElem?_append_left (by omega)]
theorem stp_mem {l : List Stp} {i : Int} (h0 : 0 ≤ i) (h1 : i < l.length) : stpAt l i ∈ l := by
  unfold stpAt
  rw [List.getD_eq_getElem?_getD, List.getElem?_eq_getElem (by omega)]
  exact List.getElem_mem _

end Go.Proofs.Ytcbflajacioinaa

/- Texts with two ways: how a search lies in memory. -/
namespace Go.Proofs.Ytcbflajacioinaa
open Go.RowKit Go.Proofs.YtcbflajacioinaaW.PrintWords Go.Proofs.YtcbflajacioinaaW.PrintLast

theorem pairLaw : Maps.Keyed Try.prog 92 := Maps.Keyed.of_law (deep_law_gate laidOut (of_decide_eq_true (by kernel_rfl)) (of_decide_eq_true (by kernel_rfl)) (by kernel_rfl) (by kernel_rfl))
def pairKey (p : Pr) : Lit := .string (keyBytes [.int .i64 p.a, .int .i64 p.b, .bool p.ap])
def valPr (p : Pr) : Value := .agg #[.int .i64 p.a, .int .i64 p.b, .bool p.ap]
def encStp (x : Stp) : List Value := [.int .i64 x.p.a, .int .i64 x.p.b, .bool x.p.ap, .int .i64 x.src, .int .u8 x.c, .bool x.ate]
def PrWf (p : Pr) : Prop := (Lit.int .i64 p.a).wf = true ∧ (Lit.int .i64 p.b).wf = true
theorem key_pair (p : Pr) (h : PrWf p) : keyOf Try.prog 92 (valPr p) = some (pairKey p) := by
  obtain ⟨a, b, c⟩ := p
  obtain ⟨ha, hb⟩ := h
  unfold valPr pairKey
  dsimp only at ha hb ⊢
  have c2 : Try.prog.cellsOf 92 = 3 := by kernel_rfl
  have c1 : Try.prog.cellsOf 3 = 1 := by kernel_rfl
  have c0 : Try.prog.cellsOf 4 = 1 := by kernel_rfl
  have hf : Value.formed Try.prog 92 (.agg #[.int .i64 a, .int .i64 b, .bool c]) = true := by simp [Value.formed, Try.underlying92, c2]
  have hl : ∀ d, Try.prog.keyLits (d + 2) 92 [.int .i64 a, .int .i64 b, .bool c] = some [.int .i64 a, .int .i64 b, .bool c] := fun d => by
    simp [Program.keyLits, Try.underlying92, Try.underlying3, Try.underlying4, c2, c1, c0, ha, hb]
  obtain ⟨d, hd⟩ : ∃ d, Try.prog.types.size + 1 = d + 2 := ⟨Try.prog.types.size - 1, by have : 1 ≤ Try.prog.types.size := of_decide_eq_true (by kernel_rfl); omega⟩
  unfold keyOf
  rw [Try.underlying92]
  dsimp only
  rw [show Try.prog.keyType 92 = true from by kernel_rfl, hf, hd]
  simp only [Value.cells, hl, Bool.and_self, if_true, Option.map_some]
theorem agg3_inj {a b x y : Int} {c z : Bool} (h : Value.agg #[.int .i64 a, .int .i64 b, .bool c] = Value.agg #[.int .i64 x, .int .i64 y, .bool z]) : a = x ∧ b = y ∧ c = z := by
  injection h with h
  simp at h
  exact h
theorem pairKey_inj {p q : Pr} (hp : PrWf p) (hq : PrWf q) (h : pairKey p = pairKey q) : p = q := by
  have h1 := key_pair p hp
  have h2 := key_pair q hq
  rw [← h] at h2
  have h3 := pairLaw.inj h1 h2
  obtain ⟨a, b, c⟩ := p
  obtain ⟨x, y, z⟩ := q
  obtain ⟨rfl, rfl, rfl⟩ := agg3_inj h3
  rfl
theorem zeroBool (w : World) : (zeroValue 4).run Try.prog w = .ok (.bool false) w := by kernel_rfl
theorem PrIn.wf {m : List Node} {p : Pr} (h : PrIn m p) (hm : m.length ≤ 9223372036854775807) : PrWf p := by
  obtain ⟨h0, h1, h2⟩ := h
  exact ⟨wf_i64 (by omega), wf_i64 (by omega)⟩

abbrev SeenAt (W : World) (gm n : Nat) (D : DataW Value) : Prop := W.ownsMap Try.prog 92 (plainElem Try.prog 4) gm n D
/-- What the map of a search says: just the pairs that were reached. -/
def SeenD (m : List Node) (l : List Stp) (D : DataW Value) : Prop := ∀ p, PrIn m p → D.atKey (pairKey p) (.lit (.bool false)) = .lit (.bool (seenP l p))
theorem litB_inj {a b : Bool} (h : (DataW.lit (.bool a) : DataW Value) = .lit (.bool b)) : a = b := by injection h with h; injection h
theorem plainElem_bool_inv {P : Program} {e : TypeId} (he : P.underlying e = some .bool) {v : Value} {z : DataW Value × List MemPlace} (h : plainElem P e v = some z) : ∃ x, v = .bool x ∧ z = (.lit (.bool x), []) := by
  unfold plainElem at h
  rw [he] at h
  cases v <;> simp at h
  subst h
  exact ⟨_, rfl, rfl⟩
theorem look_seen {m : List Node} {l : List Stp} {w : World} {gm n : Nat} {D : DataW Value} (h : SeenAt w gm n D) (hD : SeenD m l D) {p : Pr} (hp : PrIn m p) (hm : m.length ≤ 9223372036854775807) :
    (Instr.lookup 86 (.map (some gm)) (valPr p) false).run Try.prog w = .ok (.bool (seenP l p)) w := by
  obtain ⟨v, ps, hrun, hv⟩ := World.ownsMap.lookup h pairLaw Try.underlying86 (zeroBool w) (plainElem_bool Try.underlying4 false) (key_pair p (hp.wf hm))
  obtain ⟨x, rfl, hx⟩ := plainElem_bool_inv Try.underlying4 hv
  rw [hrun]
  have h1 : D.atKey (pairKey p) (.lit (.bool false)) = .lit (.bool x) := congrArg Prod.fst hx
  rw [hD p hp] at h1
  rw [litB_inj h1]
theorem upd_seen {m : List Node} {w : World} {gm n : Nat} {D : DataW Value} (h : SeenAt w gm n D) (hn : n < maxLen) {p : Pr} (hp : PrIn m p) (hm : m.length ≤ 9223372036854775807) :
    ∃ w', (Instr.mapUpdate 86 (.map (some gm)) (valPr p) (.bool true)).run Try.prog w = .ok () w' ∧ SeenAt w' gm (n + 1) (D.put (pairKey p) (.lit (.bool true))) ∧ w.grownBy w' (some gm) :=
  World.ownsMap.update h pairLaw Try.underlying86 hn (key_pair p (hp.wf hm)) (plainElem_bool Try.underlying4 true)
theorem SeenD.put {m : List Node} {l : List Stp} {D : DataW Value} (h : SeenD m l D) (hI : Maps.IsMap D) {x : Stp} (hx : PrIn m x.p) (hm : m.length ≤ 9223372036854775807) : SeenD m (l ++ [x]) (D.put (pairKey x.p) (.lit (.bool true))) := fun q hq => by
  have e : seenP (l ++ [x]) q = (seenP l q || eqPr x.p q) := by unfold seenP; rw [List.any_append]; simp
  rw [e]
  by_cases hqx : q = x.p
  · subst hqx
    rw [Maps.atKey_put_same hI (k := pairKey x.p) trivial _ _, eqPr_iff.2 rfl, Bool.or_true]
  · have h1 : eqPr x.p q = false := by
      cases h2 : eqPr x.p q
      · rfl
      · exact absurd (eqPr_iff.1 h2).symm hqx
    rw [Maps.atKey_put_other (fun e => hqx (pairKey_inj (hq.wf hm) (hx.wf hm) e)), h q hq, h1, Bool.or_false]

/-- What no block of a set has turned. -/
def Kept3 (w w' : World) (L : Nat → Prop) : Prop := ∀ k, L k → w'.heap[k]? = w.heap[k]?
/-- A search at block g, with its map at gm; none of its blocks is of the set L; nothing below the first world has turned. -/
structure SrAt (w0 W : World) (m : List Node) (g gm : Nat) (A : Option Addr) (c : Nat) (L : Nat → Prop) (st : SrS) : Prop where
  bel : RowKit.Below w0.heap.size w0 W
  ok : SrOk m st
  g0 : w0.heap.size ≤ g ∧ w0.heap.size ≤ gm ∧ ¬ L g ∧ ¬ L gm ∧ (∀ k, L k → k < W.heap.size)
  mem : ∃ v1 v3 D, Blk W g 89 #[.slice A m.length c, v1, .map (some gm), v3] ∧ W.ownsRow w0.heap.size 94 6 v1 st.all.length (st.all.flatMap encStp) ∧ W.ownsRow w0.heap.size 3 1 v3 st.now.length (st.now.map (Value.int .i64)) ∧
    SeenAt W gm st.all.length D ∧ SeenD m st.all D ∧ (∀ k, v1.ownBlock = some k → ¬ L k) ∧ (∀ k, v3.ownBlock = some k → ¬ L k)

theorem map_not_blk {W : World} {gm n : Nat} {D : DataW Value} (h : SeenAt W gm n D) {B : Nat} {t : TypeId} {cs : Array Value} (hb : Blk W B t cs) : gm ≠ B := fun e => by
  obtain ⟨es, clock, hm, _⟩ := h
  have h' : W.heap[B]? = some (.cells cs t (0, 0)) := hb
  rw [e, h'] at hm
  cases hm
theorem seen_not_row {W : World} {gm n : Nat} {D : DataW Value} (h : SeenAt W gm n D) {e : TypeId} {base size k : Nat} {v : Value} {xs : List Value} (hr : W.ownsRow base e size v k xs) : some gm ≠ v.ownBlock := fun e => by
  obtain ⟨es, clock, hm, _⟩ := h
  rcases hr.2 with ⟨rfl, _⟩ | ⟨g, cap, cur, rfl, _, hg, _⟩
  · cases e
  · have : gm = g := by injection e
    subst this
    rw [hm] at hg
    injection hg with hg
    cases hg
theorem row_not_row {W : World} {e e' : TypeId} (he : e ≠ e') {base base' size size' k k' : Nat} {v v' : Value} {xs xs' : List Value} (h : W.ownsRow base e size v k xs) (h' : W.ownsRow base' e' size' v' k' xs') : v.ownBlock = none ∨ v.ownBlock ≠ v'.ownBlock := by
  rcases h.2 with ⟨rfl, _⟩ | ⟨g, cap, cur, rfl, _, hg, _⟩
  · exact .inl rfl
  · refine .inr fun e => ?_
    rcases h'.2 with ⟨rfl, _⟩ | ⟨g', cap', cur', rfl, _, hg', _⟩
    · cases e
    · have : g = g' := by injection e
      subst this
      rw [hg] at hg'
      injection hg' with hg'
      injection hg' with _ h2
      exact he h2
theorem grown_kept {w w' : World} {row : Option Nat} (hg : w.grownBy w' row) {L : Nat → Prop} (hl : ∀ k, L k → k < w.heap.size) (hr : ∀ k, row = some k → ¬ L k) : Kept3 w w' L := fun k hk => hg.block k (hl k hk) (fun e => hr k e.symm hk)
theorem Kept3.trans {w w1 w2 : World} {L : Nat → Prop} (h : Kept3 w w1 L) (h' : Kept3 w1 w2 L) : Kept3 w w2 L := fun k hk => (h' k hk).trans (h k hk)
theorem Kept3.refl (w : World) (L : Nat → Prop) : Kept3 w w L := fun _ _ => rfl
theorem Kept3.less {w w' : World} {L L' : Nat → Prop} (h : Kept3 w w' L) (hL : ∀ k, L' k → L k) : Kept3 w w' L' := fun k hk => h k (hL k hk)
/-- Where nothing that was there is turned, a search stays; of what is new, anything may be protected. -/
theorem SrAt.more {w0 W W' : World} {m : List Node} {g gm : Nat} {A : Option Addr} {c : Nat} {L L' : Nat → Prop} {st : SrS} (h : SrAt w0 W m g gm A c L st) (hb : RowKit.Below W.heap.size W W') (hL : ∀ k, L' k → L k ∨ (W.heap.size ≤ k ∧ k < W'.heap.size)) : SrAt w0 W' m g gm A c L' st := by
  obtain ⟨h1, h2, ⟨a1, a2, a3, a4, a5⟩, v1, v3, D, b1, b2, b3, b4, b5, b6, b7⟩ := h
  have hg := grown_of_below hb none
  have hglt := b1.lt
  have hmlt := World.ownsMap.lt b4
  refine ⟨h1.trans (hb.mono h1.size), h2, ⟨a1, a2, fun hk => ?_, fun hk => ?_, fun k hk => ?_⟩, v1, v3, D, b1.kept hg (by simp), own_below b2 hb, own_below b3 hb, World.ownsMap.kept b4 hg (by simp), b5, fun k hk hl => ?_, fun k hk hl => ?_⟩
  · rcases hL g hk with h | h
    · exact a3 h
    · omega
  · rcases hL gm hk with h | h
    · exact a4 h
    · omega
  · rcases hL k hk with h | h
    · have := a5 k h; have := hb.size; omega
    · exact h.2
  · rcases hL k hl with h | h
    · exact b6 k hk h
    · have := (World.ownsRow.lt b2 k hk).2; omega
  · rcases hL k hl with h | h
    · exact b7 k hk h
    · have := (World.ownsRow.lt b3 k hk).2; omega
theorem SrAt.drew {w0 W : World} {m : List Node} {g gm : Nat} {A : Option Addr} {c : Nat} {L : Nat → Prop} {st : SrS} (h : SrAt w0 W m g gm A c L st) (n : Nat) : SrAt w0 (W.drewN n) m g gm A c L st := h.more (pw_below_drewN (RowKit.Below.refl _ _) _) (fun _ hk => .inl hk)
theorem SrAt.small {w0 W : World} {m : List Node} {g gm : Nat} {A : Option Addr} {c : Nat} {L : Nat → Prop} {st : SrS} (h : SrAt w0 W m g gm A c L st) : st.all.length ≤ topP m := all_le h.ok

end Go.Proofs.Ytcbflajacioinaa

/- twin: a pair that is reached is noted. -/
set_option linter.unusedSimpArgs false
set_option linter.unusedVariables false
namespace Go.Proofs.Ytcbflajacioinaa
open Go.RowKit Go.Shelf Go.Proofs.YtcbflajacioinaaW.PrintWords Go.Proofs.YtcbflajacioinaaW.PrintLast

theorem infoStep : (Try.prog.info? 94).map (fun i => (i.zero, i.size, i.bytes)) = some (some (.agg #[.int .i64 0, .int .i64 0, .bool false, .int .i64 0, .int .u8 0, .bool false]), 6, 40) := by kernel_rfl
theorem infoInt : (Try.prog.info? 3).map (fun i => (i.zero, i.size, i.bytes)) = some (some (.int .i64 0), 1, 8) := by kernel_rfl
theorem encStp_one (x : Stp) : ∀ u ∈ encStp x, u.oneCell' = true := by simp [encStp, Value.oneCell']

set_option maxRecDepth 100000 in
set_option maxHeartbeats 2000000 in
theorem reach_calls (w0 : World) (m : List Node) (g gm : Nat) (A : Option Addr) (c : Nat) (hm : m.length ≤ 1000) (L : Nat → Prop) (st : SrS) (p : Pr) (hp : PrAt m p) (src cc : Int) (hs : -1 ≤ src ∧ src < st.all.length) (hcc : 0 ≤ cc ∧ cc ≤ 255) (ate : Bool) (w : World) (h : SrAt w0 w m g gm A c L st) :
    Calls Try.prog 40 #[.pointer (some ⟨g, 0, none⟩), valPr p, .int .i64 src, .int .u8 cc, .bool ate] w fun e w' => e = .returned (.tuple #[]) ∧ SrAt w0 w' m g gm A c L (reachP st p src cc ate) ∧ Kept3 w w' L := by
  have hsmall := h.small
  have hok' := reach_ok h.ok hp hs hcc ate
  have htop : topP m ≤ 2000000 := by
    unfold topP
    have : 2 * m.length * m.length ≤ 2 * 1000 * 1000 := Nat.mul_le_mul (Nat.mul_le_mul (Nat.le_refl _) hm) hm
    omega
  have hnp := norm_in hp
  have HSR := Aside0.mk h
  have hBp := below_alloc (RowKit.Below.refl w.heap.size w) (.cells #[.int .i64 (min p.a p.b), .int .i64 (max p.a p.b), .bool p.ap] 92)
  have hS1 := h.more hBp (L' := L) (fun k hk => .inl hk)
  have bP := Blk.new w 92 #[.int .i64 (min p.a p.b), .int .i64 (max p.a p.b), .bool p.ap]
  obtain ⟨h1, h2, ⟨a1, a2, a3, a4, a5⟩, v1, v3, D, b1, b2, b3, b4, b5, b6, b7⟩ := hS1
  have f1 := b1.cell 1
  have f2 := b1.cell 2
  have f3 := b1.cell 3
  have p0 := bP.cell 0
  have p1 := bP.cell 1
  have p2 := bP.cell 2
  simp only [List.getElem?_toArray, List.getElem?_cons_zero, List.getElem?_cons_succ] at f1 f2 f3 p0 p1 p2
  have hlook := look_seen (World.ownsMap.drew b4) b5 hnp (by omega)
  have hval : valPr (normP p) = .agg #[.int .i64 (min p.a p.b), .int .i64 (max p.a p.b), .bool p.ap] := rfl
  rw [hval] at hlook
  clear hval
  unfold valPr
  unfold reachP at hok' ⊢
  have hsize : (w.alloc (.cells #[.int .i64 (min p.a p.b), .int .i64 (max p.a p.b), .bool p.ap] 92)).heap.size = w.heap.size + 1 := by simp
  have hg0 : g < w.heap.size ∧ gm < w.heap.size := by
    obtain ⟨_, _, _, v1', v3', D', c1, _, _, c4, _⟩ := HSR.out
    exact ⟨c1.lt, World.ownsMap.lt c4⟩
  generalize hW : w.alloc (.cells #[.int .i64 (min p.a p.b), .int .i64 (max p.a p.b), .bool p.ap] 92) = W at *
  have HWW := Aside0.mk hBp
  have HS0 := Aside0.mk hs
  cases hseen : seenP st.all (normP p)
  · rw [hseen] at hlook hok'
    simp only [Bool.false_eq_true, if_false] at hok' ⊢
    have hn9 : st.all.length < maxLen := by unfold maxLen; omega
    obtain ⟨w6, hupd, hm6, hg6⟩ := upd_seen (World.ownsMap.drew (World.ownsMap.drew b4)) hn9 hnp (by omega)
    rw [show valPr (normP p) = .agg #[.int .i64 (min p.a p.b), .int .i64 (max p.a p.b), .bool p.ap] from rfl] at hupd
    have hgW : W.grownBy w6 (some gm) := (grown_of_below (below_drew1 (below_drew1 (RowKit.Below.refl W.heap.size W))) (some gm)).trans hg6
    have hD6 := b5.put (World.ownsMap.isMap b4) (x := ⟨normP p, src, cc, ate⟩) hnp (by omega)
    have hnow := h2.len
    obtain ⟨A1, k1, hv1⟩ : ∃ A k, v1 = .slice A st.all.length k := by
      rcases b2.2 with ⟨rfl, e⟩ | ⟨_, cap, _, rfl, _⟩
      · exact ⟨none, 0, by rw [e]⟩
      · exact ⟨_, cap, rfl⟩
    subst hv1
    have hggm : gm ≠ g := map_not_blk b4 b1
    have c1 := b1.kept hgW (by simp; omega)
    have c2 := b2.kept hgW (.inr (seen_not_row b4 b2).symm)
    have c3 := b3.kept hgW (.inr (seen_not_row b4 b3).symm)
    have cP := bP.kept hgW (by simp; omega)
    have e1 := c1.cell 1
    have e2 := c1.cell 2
    have e3 := c1.cell 3
    have ef3 := c1.free 3
    have d0 := cP.cell 0
    have d1 := cP.cell 1
    have d2 := cP.cell 2
    simp only [List.getElem?_toArray, List.getElem?_cons_zero, List.getElem?_cons_succ] at e1 e2 e3 d0 d1 d2
    have hK6 : Kept3 w w6 L := (fun k hk => (hgW.block k (by have := a5 k hk; omega) (fun e => a4 (by injection e with e; rw [e] at hk; exact hk))).trans (HWW.out.block k (by
      have h5 := HSR.out.g0.2.2.2.2 k hk; exact h5)))
    have HK6 := Aside0.mk hK6
    have hz6 := hgW.size
    have hb6 := h1.grown hgW h1.size (fun j hj => by cases hj; exact a2)
    have HM6 := Aside0.mk hm6
    have HD6 := Aside0.mk hD6
    have hl6 : ∀ k, L k → k < w6.heap.size := fun k hk => by have := a5 k hk; omega
    clear hD6 hm6 hK6 hg6 hgW b1 b2 b3
    obtain ⟨i0, hi, hz0, hz1, hz2⟩ := info_parts infoInt
    obtain ⟨i1, hi', hy0, hy1, hy2⟩ := info_parts infoStep
    have hb1 : st.now.length + 1 ≤ maxLen := by unfold maxLen; omega
    have hb2 : (st.now.length + 1) * 8 ≤ 140737488355328 := by omega
    have hb3 : st.all.length + 1 ≤ maxLen := by unfold maxLen; omega
    have hb4 : (st.all.length + 1) * 40 ≤ 140737488355328 := by omega
    have hgv3 : some g ≠ v3.ownBlock := c1.not_row (by decide) c3
    have hgl6 := c1.lt
    have q1 := World.new_ne _ _ e1
    have q3 := World.new_ne _ _ e3
    have keepS : ∀ o w1, (w6.drew.alloc o).grownBy w1 v3.ownBlock → (w1.cell? ⟨g, 3, none⟩ = some v3 ∧ w1.cell? ⟨g, 1, none⟩ = some (.slice A1 st.all.length k1)) ∧ w1.frozen? ⟨g, 3, none⟩ = false := fun o w1 hg => by
      have hg2 := (World.grownBy_alloc w6.drew o v3.ownBlock).trans hg
      exact ⟨⟨(hg2.cell_far ⟨g, 3, none⟩ hgl6 hgv3).trans e3, (hg2.cell_far ⟨g, 1, none⟩ hgl6 hgv3).trans e1⟩, (hg2.frozen_far ⟨g, 3, none⟩ hgl6 hgv3).trans ef3⟩
    have grefl : ∀ (W : World) (row : Option Nat), W.grownBy W row := fun W row => grown_of_below (RowKit.Below.refl _ _) row
    go_enter Try.func40, Try.ntmps40
    go_wp2_with fail
    go_region_held3 (fun w' => w'.cell? ⟨g, 2, none⟩ = some (.map (some gm)) ∧ w'.cell? ⟨w.heap.size, 0, none⟩ = some (.int .i64 (min p.a p.b)) ∧ w'.cell? ⟨w.heap.size, 1, none⟩ = some (.int .i64 (max p.a p.b)) ∧ w'.cell? ⟨w.heap.size, 2, none⟩ = some (.bool p.ap)) (go_keep) (fail)
    go_wp2_with fail
    go_region_held3 (fun w' => w'.cell? ⟨g, 2, none⟩ = some (.map (some gm)) ∧ w'.cell? ⟨w.heap.size, 0, none⟩ = some (.int .i64 (min p.a p.b)) ∧ w'.cell? ⟨w.heap.size, 1, none⟩ = some (.int .i64 (max p.a p.b)) ∧ w'.cell? ⟨w.heap.size, 2, none⟩ = some (.bool p.ap)) (go_keep) (fail)
    go_wp2_with fail
    refine start_ (n := 15) (S := fun w' => w'.cell? ⟨g, 3, none⟩ = some v3 ∧ w'.cell? ⟨g, 1, none⟩ = some (.slice A1 st.all.length k1)) (ds := [14]) #[false, false, false, false, false, false, false, false, false, false, false, false, false, false, false] (by kernel_rfl) rfl rfl ⟨e3, e1⟩ (fun hHeld => ?_)
    refine pure_ (i := 0) (N := some 33) (v := ?_) (a' := ?_) #[true, false, false, false, false, false, false, false, false, false, false, false, false, false, false] rfl rfl (by kernel_rfl) (fun _ _ _ h => h) (Or.inl ⟨by rfl, ?_⟩) ?_ ?_
    rotate_left
    · intro w'
      go_simp
      with_reducible rfl
    rotate_left
    · simp only [Act.put, List.setIfInBounds_toArray, List.set_cons_zero, List.set_cons_succ, i64_w, i32_w]
      rfl
    refine pure_ (i := 1) (N := some 34) (v := ?_) (a' := ?_) #[true, true, false, false, false, false, false, false, false, false, false, false, false, false, false] rfl rfl (by kernel_rfl) (fun _ _ _ h => h) (Or.inl ⟨by rfl, ?_⟩) ?_ ?_
    rotate_left
    · intro w'
      go_simp
      with_reducible rfl
    rotate_left
    · simp only [Act.put, List.setIfInBounds_toArray, List.set_cons_zero, List.set_cons_succ, i64_w, i32_w]
      rfl
    refine pure_ (i := 2) (N := some 35) (v := ?_) (a' := ?_) #[true, true, true, false, false, false, false, false, false, false, false, false, false, false, false] rfl rfl (by kernel_rfl) (fun _ _ _ h => h) (Or.inl ⟨by rfl, ?_⟩) ?_ ?_
    rotate_left
    · intro w'
      go_simp
      with_reducible rfl
    rotate_left
    · simp only [Act.put, List.setIfInBounds_toArray, List.set_cons_zero, List.set_cons_succ, i64_w, i32_w]
      rfl
    refine pure_ (i := 3) (N := some 36) (v := ?_) (a' := ?_) #[true, true, true, true, false, false, false, false, false, false, false, false, false, false, false] rfl rfl (by kernel_rfl) (fun _ _ _ h => h) (Or.inl ⟨by rfl, ?_⟩) ?_ ?_
    rotate_left
    · intro w'
      go_simp
      with_reducible rfl
    rotate_left
    · simp only [Act.put, List.setIfInBounds_toArray, List.set_cons_zero, List.set_cons_succ, i64_w, i32_w]
      rfl
    refine pure_ (i := 5) (N := some 38) (v := ?_) (a' := ?_) #[true, true, true, true, false, true, false, false, false, false, false, false, false, false, false] rfl rfl (by kernel_rfl) (fun _ _ _ h => h) (Or.inl ⟨by rfl, ?_⟩) ?_ ?_
    rotate_left
    · intro w'
      go_simp
      with_reducible rfl
    rotate_left
    · simp only [Act.put, List.setIfInBounds_toArray, List.set_cons_zero, List.set_cons_succ, i64_w, i32_w]
      rfl
    refine pure_ (i := 6) (N := some 39) (v := ?_) (a' := ?_) #[true, true, true, true, false, true, true, false, false, false, false, false, false, false, false] rfl rfl (by kernel_rfl) (fun _ _ _ h => h) (Or.inl ⟨by rfl, ?_⟩) ?_ ?_
    rotate_left
    · intro w'
      go_simp
      with_reducible rfl
    rotate_left
    · simp only [Act.put, List.setIfInBounds_toArray, List.set_cons_zero, List.set_cons_succ, i64_w, i32_w]
      rfl
    refine pure_ (i := 7) (N := some 40) (v := ?_) (a' := ?_) #[true, true, true, true, false, true, true, true, false, false, false, false, false, false, false] rfl rfl (by kernel_rfl) (fun _ _ _ h => h) (Or.inl ⟨by rfl, ?_⟩) ?_ ?_
    rotate_left
    · intro w'
      go_simp
      with_reducible rfl
    rotate_left
    · simp only [Act.put, List.setIfInBounds_toArray, List.set_cons_zero, List.set_cons_succ, i64_w, i32_w]
      rfl
    refine take_ (i := 4) (N := some 37) (v := ?_) (a' := ?_) #[true, true, true, true, true, true, true, true, false, false, false, false, false, false, false] rfl rfl (by kernel_rfl) (fun _ _ _ h => h) (Or.inl ⟨by rfl, ?_⟩) hHeld ?_ ?_
    rotate_left
    · rintro w' ⟨s0, s1⟩
      go_simp
      with_reducible rfl
    rotate_left
    · simp only [Act.put, List.setIfInBounds_toArray, List.set_cons_zero, List.set_cons_succ, i64_w, i32_w]
      rfl
    refine take_ (i := 8) (N := some 41) (v := ?_) (a' := ?_) #[true, true, true, true, true, true, true, true, true, false, false, false, false, false, false] rfl rfl (by kernel_rfl) (fun _ _ _ h => h) (Or.inl ⟨by rfl, ?_⟩) hHeld ?_ ?_
    rotate_left
    · rintro w' ⟨s0, s1⟩
      go_simp
      with_reducible rfl
    rotate_left
    · simp only [Act.put, List.setIfInBounds_toArray, List.set_cons_zero, List.set_cons_succ, i64_w, i32_w]
      rfl
    refine pure_ (i := 9) (N := some 42) (v := ?_) (a' := ?_) #[true, true, true, true, true, true, true, true, true, true, false, false, false, false, false] rfl rfl (by kernel_rfl) (fun _ _ _ h => h) (Or.inl ⟨by rfl, ?_⟩) ?_ ?_
    rotate_left
    · intro w'
      go_simp
      with_reducible rfl
    rotate_left
    · simp only [Act.put, List.setIfInBounds_toArray, List.set_cons_zero, List.set_cons_succ, i64_w, i32_w]
      rfl
    refine one_ (i := 10) (N := some 43) #[true, true, true, true, true, true, true, true, true, true, true, false, false, false, false] rfl rfl (by kernel_rfl) (by decide) (fun K hK => ?_)
    refine value_ (w1 := ?_) (v := ?_) (by rfl) rfl ?_ ?_
    rotate_left 2
    · go_simp
      constructor
      · rfl
      · rfl
    refine hK.out _ _ ⟨(keepS _ _ (grefl _ _)).1.1, (keepS _ _ (grefl _ _)).1.2⟩ (fun hHeld => ?_)
    clear hK K
    refine norm_ (a' := ?_) ?_ ?_
    rotate_left
    · show Act.put _ (some 43) _ = _
      simp only [Act.put, List.setIfInBounds_toArray, List.set_cons_zero, List.set_cons_succ, i64_w, i32_w]
      rfl
    refine one_ (i := 11) (N := some 44) #[true, true, true, true, true, true, true, true, true, true, true, true, false, false, false] rfl rfl (by kernel_rfl) (by decide) (fun K hK => ?_)
    refine step_append_lies _ rfl _ _ 33 rfl w0.heap.size 3 i0 (.int .i64 0) 1 8 Try.underlying33 hi hz0 hz1 hz2 rfl (by decide) v3 st.now.length _ rfl (World.ownsRow.alloc (World.ownsRow.drew c3) _) ⟨w6.heap.size, 0, none⟩ 1 1 [.int .i64 (st.all.length : Int)] rfl rfl (World.news_of_block (cs := #[.int .i64 (st.all.length : Int)]) (t := 3) (fr := (0, 0)) (World.alloc_heap_new w6.drew _)) (by simp [Value.oneCell']) (by decide) hb1 hb2 (by simp; omega) _ rfl ?_
    intro q3' cap3 w7 hown7 hgrow7 hat7 hlt7
    have hfz := (keepS _ _ hgrow7).2
    have hfc := (keepS _ _ hgrow7).1.1
    refine hK.out _ _ ⟨(keepS _ _ hgrow7).1.1, (keepS _ _ hgrow7).1.2⟩ (fun hHeld => ?_)
    clear hK K
    refine norm_ (a' := ?_) ?_ ?_
    rotate_left
    · show Act.put _ (some 44) _ = _
      simp only [Act.put, List.setIfInBounds_toArray, List.set_cons_zero, List.set_cons_succ, i64_w, i32_w]
      rfl
    refine pure_ (i := 12) (N := some 45) (v := ?_) (a' := ?_) #[true, true, true, true, true, true, true, true, true, true, true, true, true, false, false] rfl rfl (by kernel_rfl) (fun _ _ _ h => h) (Or.inl ⟨by rfl, ?_⟩) ?_ ?_
    rotate_left
    · intro w'
      go_simp
      with_reducible rfl
    rotate_left
    · simp only [Act.put, List.setIfInBounds_toArray, List.set_cons_zero, List.set_cons_succ, i64_w, i32_w]
      rfl
    refine pure_ (i := 13) (N := some 46) (v := ?_) (a' := ?_) #[true, true, true, true, true, true, true, true, true, true, true, true, true, true, false] rfl rfl (by kernel_rfl) (fun _ _ _ h => h) (Or.inl ⟨by rfl, ?_⟩) ?_ ?_
    rotate_left
    · intro w'
      go_simp
      with_reducible rfl
    rotate_left
    · simp only [Act.put, List.setIfInBounds_toArray, List.set_cons_zero, List.set_cons_succ, i64_w, i32_w]
      rfl
    refine last_ (i := 14) (N := none) #[true, true, true, true, true, true, true, true, true, true, true, true, true, true, true] rfl rfl (by kernel_rfl) (by decide) (fun K hK => ?_)
    refine skip_ (w1 := ?_) (by rfl) rfl ?_ ?_
    rotate_left
    · go_simp
      rfl
    refine hK.out _ _ ?_
    clear hK K
    refine done_ (by kernel_rfl) ?_
    have hgA := (grown_of_below (below_drew1 (RowKit.Below.refl w6.heap.size w6)) v3.ownBlock).trans ((World.grownBy_alloc w6.drew (.cells #[.int .i64 (st.all.length : Int)] 3) v3.ownBlock).trans hgrow7)
    have hz7 := hgA.size
    have g1 := c1.kept hgA hgv3
    have g1s := g1.set 3 (.slice (some ⟨q3', 0, none⟩) (st.now.length + 1) cap3)
    have hgs := grown_set w7 ⟨g, 3, none⟩ (.slice (some ⟨q3', 0, none⟩) (st.now.length + 1) cap3)
    have g2 := (c2.kept hgA (row_not_row (by decide) c2 c3)).kept hgs (.inr (g1.not_row (by decide) (c2.kept hgA (row_not_row (by decide) c2 c3))).symm)
    have g3 := hown7.kept hgs (.inr (g1.not_row (by decide) hown7).symm)
    have hPv : some w.heap.size ≠ v3.ownBlock := Blk.not_row cP (by decide) c3
    have gP := (cP.kept hgA hPv).kept hgs (by simp; omega)
    have HM7 := Aside0.mk (World.ownsMap.kept (World.ownsMap.kept HM6.out hgA (seen_not_row HM6.out c3)) hgs (by simp; omega))
    have hb7 := (hb6.grown hgA hb6.size (own_base c3)).setCell (p := ⟨g, 3, none⟩) a1 (.slice (some ⟨q3', 0, none⟩) (st.now.length + 1) cap3)
    have hL7 : Kept3 w (w7.setCell ⟨g, 3, none⟩ (.slice (some ⟨q3', 0, none⟩) (st.now.length + 1) cap3)) L := (HK6.out.trans (grown_kept hgA hl6 b7)).trans (grown_kept hgs (fun k hk => by have := hl6 k hk; omega) (fun k hk => by cases hk; exact a3))
    have HL7 := Aside0.mk hL7
    have HB7 := Aside0.mk hb7
    have hq3 : ¬ L q3' := fun hk => by
      rcases hat7 with h | h
      · exact b7 _ h hk
      · have := hl6 _ hk; rw [h] at this; simp at this; omega
    have hsz7 : (w7.setCell ⟨g, 3, none⟩ (.slice (some ⟨q3', 0, none⟩) (st.now.length + 1) cap3)).heap.size = w7.heap.size := by simp
    have hz78 : w7.heap.size ≤ (w7.setCell ⟨g, 3, none⟩ (.slice (some ⟨q3', 0, none⟩) (st.now.length + 1) cap3)).heap.size := by simp
    clear hsz7 hL7 hb7 hgs hgA g1 c1 c2 c3 cP keepS q1 q3 e1 e2 e3 ef3 hfz hfc hown7 hgrow7 hat7 hb6 HK6 HM6 d0 d1 d2
    generalize w7.setCell ⟨g, 3, none⟩ (.slice (some ⟨q3', 0, none⟩) (st.now.length + 1) cap3) = w8 at *
    replace g1s : Blk w8 g 89 #[.slice A m.length c, .slice A1 st.all.length k1, .map (some gm), .slice (some ⟨q3', 0, none⟩) (st.now.length + 1) cap3] := g1s
    have e1 := g1s.cell 1
    have ef1 := g1s.free 1
    have d0 := gP.cell 0
    have d1 := gP.cell 1
    have d2 := gP.cell 2
    simp only [List.getElem?_toArray, List.getElem?_cons_zero, List.getElem?_cons_succ] at e1 d0 d1 d2
    have hgl8 := g1s.lt
    have hPl8 := gP.lt
    have hgv1 : some g ≠ (Value.slice A1 st.all.length k1).ownBlock := g1s.not_row (by decide) g2
    have hPv1 : some w.heap.size ≠ (Value.slice A1 st.all.length k1).ownBlock := Blk.not_row gP (by decide) g2
    have q0 := World.new_ne _ _ e1
    have q1 := World.new_ne _ _ d0
    have q2 := World.new_ne _ _ d1
    have q3 := World.new_ne _ _ d2
    have keepT : ∀ o w1, (w8.drew.alloc o).grownBy w1 (Value.slice A1 st.all.length k1).ownBlock → (w1.cell? ⟨g, 1, none⟩ = some (.slice A1 st.all.length k1) ∧ w1.cell? ⟨w.heap.size, 0, none⟩ = some (.int .i64 (min p.a p.b)) ∧ w1.cell? ⟨w.heap.size, 1, none⟩ = some (.int .i64 (max p.a p.b)) ∧ w1.cell? ⟨w.heap.size, 2, none⟩ = some (.bool p.ap)) ∧ w1.frozen? ⟨g, 1, none⟩ = false := fun o w1 hg => by
      have hg2 := (World.grownBy_alloc w8.drew o (Value.slice A1 st.all.length k1).ownBlock).trans hg
      exact ⟨⟨(hg2.cell_far ⟨g, 1, none⟩ hgl8 hgv1).trans e1, (hg2.cell_far ⟨w.heap.size, 0, none⟩ hPl8 hPv1).trans d0, (hg2.cell_far ⟨w.heap.size, 1, none⟩ hPl8 hPv1).trans d1, (hg2.cell_far ⟨w.heap.size, 2, none⟩ hPl8 hPv1).trans d2⟩, (hg2.frozen_far ⟨g, 1, none⟩ hgl8 hgv1).trans ef1⟩
    have hbase8 := HB7.out.size
    have hlit : encStp ⟨normP p, src, cc, ate⟩ = [.int .i64 (min p.a p.b), .int .i64 (max p.a p.b), .bool p.ap, .int .i64 src, .int .u8 cc, .bool ate] := rfl
    have hone := encStp_one ⟨normP p, src, cc, ate⟩
    rw [hlit] at hone
    have HLIT := Aside0.mk hlit
    have HONE := Aside0.mk hone
    clear hlit hone
    go_wp2_with fail
    refine start_ (n := 15) (S := fun w' => w'.cell? ⟨g, 1, none⟩ = some (.slice A1 st.all.length k1) ∧ w'.cell? ⟨w.heap.size, 0, none⟩ = some (.int .i64 (min p.a p.b)) ∧ w'.cell? ⟨w.heap.size, 1, none⟩ = some (.int .i64 (max p.a p.b)) ∧ w'.cell? ⟨w.heap.size, 2, none⟩ = some (.bool p.ap)) (ds := [14]) #[false, false, false, false, false, false, false, false, false, false, false, false, false, false, false] (by kernel_rfl) rfl rfl ⟨e1, d0, d1, d2⟩ (fun hHeld => ?_)
    refine pure_ (i := 0) (N := some 47) (v := ?_) (a' := ?_) #[true, false, false, false, false, false, false, false, false, false, false, false, false, false, false] rfl rfl (by kernel_rfl) (fun _ _ _ h => h) (Or.inl ⟨by rfl, ?_⟩) ?_ ?_
    rotate_left
    · intro w'
      go_simp
      with_reducible rfl
    rotate_left
    · simp only [Act.put, List.setIfInBounds_toArray, List.set_cons_zero, List.set_cons_succ, i64_w, i32_w]
      rfl
    refine pure_ (i := 1) (N := some 48) (v := ?_) (a' := ?_) #[true, true, false, false, false, false, false, false, false, false, false, false, false, false, false] rfl rfl (by kernel_rfl) (fun _ _ _ h => h) (Or.inl ⟨by rfl, ?_⟩) ?_ ?_
    rotate_left
    · intro w'
      go_simp
      with_reducible rfl
    rotate_left
    · simp only [Act.put, List.setIfInBounds_toArray, List.set_cons_zero, List.set_cons_succ, i64_w, i32_w]
      rfl
    refine pure_ (i := 2) (N := some 49) (v := ?_) (a' := ?_) #[true, true, true, false, false, false, false, false, false, false, false, false, false, false, false] rfl rfl (by kernel_rfl) (fun _ _ _ h => h) (Or.inl ⟨by rfl, ?_⟩) ?_ ?_
    rotate_left
    · intro w'
      go_simp
      with_reducible rfl
    rotate_left
    · simp only [Act.put, List.setIfInBounds_toArray, List.set_cons_zero, List.set_cons_succ, i64_w, i32_w]
      rfl
    refine pure_ (i := 3) (N := some 50) (v := ?_) (a' := ?_) #[true, true, true, true, false, false, false, false, false, false, false, false, false, false, false] rfl rfl (by kernel_rfl) (fun _ _ _ h => h) (Or.inl ⟨by rfl, ?_⟩) ?_ ?_
    rotate_left
    · intro w'
      go_simp
      with_reducible rfl
    rotate_left
    · simp only [Act.put, List.setIfInBounds_toArray, List.set_cons_zero, List.set_cons_succ, i64_w, i32_w]
      rfl
    refine pure_ (i := 6) (N := some 53) (v := ?_) (a' := ?_) #[true, true, true, true, false, false, true, false, false, false, false, false, false, false, false] rfl rfl (by kernel_rfl) (fun _ _ _ h => h) (Or.inl ⟨by rfl, ?_⟩) ?_ ?_
    rotate_left
    · intro w'
      go_simp
      with_reducible rfl
    rotate_left
    · simp only [Act.put, List.setIfInBounds_toArray, List.set_cons_zero, List.set_cons_succ, i64_w, i32_w]
      rfl
    refine pure_ (i := 7) (N := some 54) (v := ?_) (a' := ?_) #[true, true, true, true, false, false, true, true, false, false, false, false, false, false, false] rfl rfl (by kernel_rfl) (fun _ _ _ h => h) (Or.inl ⟨by rfl, ?_⟩) ?_ ?_
    rotate_left
    · intro w'
      go_simp
      with_reducible rfl
    rotate_left
    · simp only [Act.put, List.setIfInBounds_toArray, List.set_cons_zero, List.set_cons_succ, i64_w, i32_w]
      rfl
    refine pure_ (i := 8) (N := some 55) (v := ?_) (a' := ?_) #[true, true, true, true, false, false, true, true, true, false, false, false, false, false, false] rfl rfl (by kernel_rfl) (fun _ _ _ h => h) (Or.inl ⟨by rfl, ?_⟩) ?_ ?_
    rotate_left
    · intro w'
      go_simp
      with_reducible rfl
    rotate_left
    · simp only [Act.put, List.setIfInBounds_toArray, List.set_cons_zero, List.set_cons_succ, i64_w, i32_w]
      rfl
    refine take_ (i := 4) (N := some 51) (v := ?_) (a' := ?_) #[true, true, true, true, true, false, true, true, true, false, false, false, false, false, false] rfl rfl (by kernel_rfl) (fun _ _ _ h => h) (Or.inl ⟨by rfl, ?_⟩) hHeld ?_ ?_
    rotate_left
    · rintro w' ⟨s0, s1, s2, s3⟩
      go_simp
      with_reducible rfl
    rotate_left
    · simp only [Act.put, List.setIfInBounds_toArray, List.set_cons_zero, List.set_cons_succ, i64_w, i32_w]
      rfl
    refine take_ (i := 5) (N := some 52) (v := ?_) (a' := ?_) #[true, true, true, true, true, true, true, true, true, false, false, false, false, false, false] rfl rfl (by kernel_rfl) (fun _ _ _ h => h) (Or.inl ⟨by rfl, ?_⟩) hHeld ?_ ?_
    rotate_left
    · rintro w' ⟨s0, s1, s2, s3⟩
      go_simp
      with_reducible rfl
    rotate_left
    · simp only [Act.put, List.setIfInBounds_toArray, List.set_cons_zero, List.set_cons_succ, i64_w, i32_w]
      rfl
    refine pure_ (i := 9) (N := some 56) (v := ?_) (a' := ?_) #[true, true, true, true, true, true, true, true, true, true, false, false, false, false, false] rfl rfl (by kernel_rfl) (fun _ _ _ h => h) (Or.inl ⟨by rfl, ?_⟩) ?_ ?_
    rotate_left
    · intro w'
      go_simp
      with_reducible rfl
    rotate_left
    · simp only [Act.put, List.setIfInBounds_toArray, List.set_cons_zero, List.set_cons_succ, i64_w, i32_w]
      rfl
    refine one_ (i := 10) (N := some 57) #[true, true, true, true, true, true, true, true, true, true, true, false, false, false, false] rfl rfl (by kernel_rfl) (by decide) (fun K hK => ?_)
    refine value_ (w1 := ?_) (v := ?_) (by rfl) rfl ?_ ?_
    rotate_left 2
    · go_simp
      constructor
      · rfl
      · rfl
    refine hK.out _ _ ⟨(keepT _ _ (grefl _ _)).1.1, (keepT _ _ (grefl _ _)).1.2.1, (keepT _ _ (grefl _ _)).1.2.2.1, (keepT _ _ (grefl _ _)).1.2.2.2⟩ (fun hHeld => ?_)
    clear hK K
    refine norm_ (a' := ?_) ?_ ?_
    rotate_left
    · show Act.put _ (some 57) _ = _
      simp only [Act.put, List.setIfInBounds_toArray, List.set_cons_zero, List.set_cons_succ, i64_w, i32_w]
      rfl
    refine one_ (i := 11) (N := some 58) #[true, true, true, true, true, true, true, true, true, true, true, true, false, false, false] rfl rfl (by kernel_rfl) (by decide) (fun K hK => ?_)
    refine step_append_lies _ rfl _ _ 87 rfl w0.heap.size 94 i1 (.agg #[.int .i64 0, .int .i64 0, .bool false, .int .i64 0, .int .u8 0, .bool false]) 6 40 Try.underlying87 hi' hy0 hy1 hy2 rfl (by decide) (.slice A1 st.all.length k1) st.all.length _ rfl (World.ownsRow.alloc (World.ownsRow.drew g2) _) ⟨w8.heap.size, 0, none⟩ 1 1 [.int .i64 (min p.a p.b), .int .i64 (max p.a p.b), .bool p.ap, .int .i64 src, .int .u8 cc, .bool ate] rfl rfl (World.news_of_block (cs := #[.int .i64 (min p.a p.b), .int .i64 (max p.a p.b), .bool p.ap, .int .i64 src, .int .u8 cc, .bool ate]) (t := 94) (fr := (0, 0)) (World.alloc_heap_new w8.drew _)) HONE.out (by decide) hb3 hb4 (by simp; omega) _ rfl ?_
    intro q1' cap1 w9 hown9 hgrow9 hat9 hlt9
    have hfz := (keepT _ _ hgrow9).2
    have hfc := (keepT _ _ hgrow9).1.1
    refine hK.out _ _ ⟨(keepT _ _ hgrow9).1.1, (keepT _ _ hgrow9).1.2.1, (keepT _ _ hgrow9).1.2.2.1, (keepT _ _ hgrow9).1.2.2.2⟩ (fun hHeld => ?_)
    clear hK K
    refine norm_ (a' := ?_) ?_ ?_
    rotate_left
    · show Act.put _ (some 58) _ = _
      simp only [Act.put, List.setIfInBounds_toArray, List.set_cons_zero, List.set_cons_succ, i64_w, i32_w]
      rfl
    refine pure_ (i := 12) (N := some 59) (v := ?_) (a' := ?_) #[true, true, true, true, true, true, true, true, true, true, true, true, true, false, false] rfl rfl (by kernel_rfl) (fun _ _ _ h => h) (Or.inl ⟨by rfl, ?_⟩) ?_ ?_
    rotate_left
    · intro w'
      go_simp
      with_reducible rfl
    rotate_left
    · simp only [Act.put, List.setIfInBounds_toArray, List.set_cons_zero, List.set_cons_succ, i64_w, i32_w]
      rfl
    refine pure_ (i := 13) (N := some 60) (v := ?_) (a' := ?_) #[true, true, true, true, true, true, true, true, true, true, true, true, true, true, false] rfl rfl (by kernel_rfl) (fun _ _ _ h => h) (Or.inl ⟨by rfl, ?_⟩) ?_ ?_
    rotate_left
    · intro w'
      go_simp
      with_reducible rfl
    rotate_left
    · simp only [Act.put, List.setIfInBounds_toArray, List.set_cons_zero, List.set_cons_succ, i64_w, i32_w]
      rfl
    refine last_ (i := 14) (N := none) #[true, true, true, true, true, true, true, true, true, true, true, true, true, true, true] rfl rfl (by kernel_rfl) (by decide) (fun K hK => ?_)
    refine skip_ (w1 := ?_) (by rfl) rfl ?_ ?_
    rotate_left
    · go_simp
      rfl
    refine hK.out _ _ ?_
    clear hK K
    refine done_ (by kernel_rfl) ?_
    have hgA := (grown_of_below (below_drew1 (RowKit.Below.refl w8.heap.size w8)) (Value.slice A1 st.all.length k1).ownBlock).trans ((World.grownBy_alloc w8.drew (.cells #[.int .i64 (min p.a p.b), .int .i64 (max p.a p.b), .bool p.ap, .int .i64 src, .int .u8 cc, .bool ate] 94) (Value.slice A1 st.all.length k1).ownBlock).trans hgrow9)
    have hz9 := hgA.size
    have k1' := g1s.kept hgA hgv1
    have hgs := grown_set w9 ⟨g, 1, none⟩ (.slice (some ⟨q1', 0, none⟩) (st.all.length + 1) cap1)
    have k1s : Blk (w9.setCell ⟨g, 1, none⟩ (.slice (some ⟨q1', 0, none⟩) (st.all.length + 1) cap1)) g 89 #[.slice A m.length c, .slice (some ⟨q1', 0, none⟩) (st.all.length + 1) cap1, .map (some gm), .slice (some ⟨q3', 0, none⟩) (st.now.length + 1) cap3] := k1'.set 1 (.slice (some ⟨q1', 0, none⟩) (st.all.length + 1) cap1)
    have k2 := hown9.kept hgs (.inr (k1'.not_row (by decide) hown9).symm)
    have k3 := (g3.kept hgA (row_not_row (by decide) g3 g2)).kept hgs (.inr (k1'.not_row (by decide) (g3.kept hgA (row_not_row (by decide) g3 g2))).symm)
    have kM := World.ownsMap.kept (World.ownsMap.kept HM7.out hgA (seen_not_row HM7.out g2)) hgs (by simp; omega)
    have hb9 := (HB7.out.grown hgA hbase8 (own_base g2)).setCell (p := ⟨g, 1, none⟩) a1 (.slice (some ⟨q1', 0, none⟩) (st.all.length + 1) cap1)
    have hl8 : ∀ k, L k → k < w8.heap.size := fun k hk => by have := hl6 k hk; omega
    have hL9 : Kept3 w (w9.setCell ⟨g, 1, none⟩ (.slice (some ⟨q1', 0, none⟩) (st.all.length + 1) cap1)) L := (HL7.out.trans (grown_kept hgA hl8 b6)).trans (grown_kept hgs (fun k hk => by have := hl8 k hk; omega) (fun k hk => by cases hk; exact a3))
    have hq1 : ¬ L q1' := fun hk => by
      rcases hat9 with h | h
      · exact b6 _ h hk
      · have := hl8 _ hk; rw [h] at this; simp at this; omega
    have hsz9 : (w9.setCell ⟨g, 1, none⟩ (.slice (some ⟨q1', 0, none⟩) (st.all.length + 1) cap1)).heap.size = w9.heap.size := by simp
    go_wp2_with fail
    go_end0
    refine ⟨rfl, ⟨hb9, hok', ⟨a1, a2, a3, a4, fun k hk => by have := hl8 k hk; omega⟩, _, _, _, k1s, ?_, ?_, ?_, HD6.out, ?_, ?_⟩, hL9⟩
    · rw [List.flatMap_append, List.length_append]
      rw [← HLIT.out] at k2
      simpa using k2
    · rw [List.map_append, List.length_append]
      simpa using k3
    · rw [List.length_append]
      exact kM
    · intro k hk
      obtain rfl : q1' = k := by simpa [Value.ownBlock] using hk
      exact hq1
    · intro k hk
      obtain rfl : q3' = k := by simpa [Value.ownBlock] using hk
      exact hq3
  · rw [hseen] at hlook
    simp only [if_true]
    go_enter Try.func40, Try.ntmps40
    go_wp2_with fail
    go_region_held3 (fun w' => w'.cell? ⟨g, 2, none⟩ = some (.map (some gm)) ∧ w'.cell? ⟨w.heap.size, 0, none⟩ = some (.int .i64 (min p.a p.b)) ∧ w'.cell? ⟨w.heap.size, 1, none⟩ = some (.int .i64 (max p.a p.b)) ∧ w'.cell? ⟨w.heap.size, 2, none⟩ = some (.bool p.ap)) (go_keep) (fail)
    go_wp2_with fail
    refine bodyPost_ret (results_none rfl _ _ _) rfl ?_
    exact ⟨rfl, HSR.out.more (below_drew1 HWW.out) (fun k hk => .inl hk), fun k hk => (below_drew1 HWW.out).block k (HSR.out.g0.2.2.2.2 k hk)⟩

end Go.Proofs.Ytcbflajacioinaa

/- twin: the nodes behind one, by one fork, or mark. -/
set_option linter.unusedSimpArgs false
set_option linter.unusedVariables false
namespace Go.Proofs.Ytcbflajacioinaa
open Go.RowKit Go.Shelf Go.Proofs.YtcbflajacioinaaW.PrintWords Go.Proofs.YtcbflajacioinaaW.PrintLast

/-- A row of numbers that is read wherever what was made lies as it was made. -/
def FreeRow (w0 w w' : World) (A : Option Addr) (l : List Int) : Prop := ∀ W : World, RowKit.Below w0.heap.size w0 W → (∀ k, w.heap.size ≤ k → k < w'.heap.size → W.heap[k]? = w'.heap[k]?) → ∀ j, j < l.length → ∃ ad, A = some ad ∧ W.cell? (ad.add j) = some (.int .i64 (l.getD j 0))

set_option maxRecDepth 100000 in
set_option maxHeartbeats 1000000 in
theorem free_calls (w0 : World) (m : List Node) (g gm : Nat) (A : Option Addr) (c : Nat) (hC0 : kNode.C w0 A m.length m) (L : Nat → Prop) (st : SrS) (i : Int) (h0 : 0 ≤ i) (h1 : i < m.length) (w : World) (h : SrAt w0 w m g gm A c L st) :
    Calls Try.prog 45 #[.pointer (some ⟨g, 0, none⟩), .int .i64 i] w fun e w' => ∃ A' c', e = .returned (.slice A' (freeP m i).length c') ∧ (freeP m i).length ≤ c' ∧ FreeRow w0 w w' A' (freeP m i) ∧ RowKit.Below w.heap.size w w' := by
  have hm : m.length ≤ 9223372036854775807 := hC0.2.1
  obtain ⟨hb, _, _, v1, v3, D, b1, _⟩ := h
  have f0 := b1.cell 0
  simp only [List.getElem?_toArray, List.getElem?_cons_zero] at f0
  obtain ⟨ad, A1, c1, A2, c2, hA, x0, x1, x2, x3, x4, hl1, g1, hl2, g2⟩ := at_Node (Kd.C_below hC0 hb) i h0 h1
  have gF : (Kd.int .i64).C w0 A2 (rd_Node m i).f2.length (rd_Node m i).f2 := by
    obtain ⟨ad', A1', c1', A2', c2', hA', y0, y1, y2, _, _, _, _, _, z2⟩ := at_Node hC0 i h0 h1
    rw [hA] at hA'
    obtain rfl := Option.some.inj hA'
    have e := (hb.cell (World.block_lt_of_cell? _ _ y2)).trans y2
    rw [x2] at e
    injection e with e
    injection e with e _ _
    rw [e]
    exact z2
  unfold freeP
  generalize rd_Node m i = x at *
  obtain ⟨y0, y1, y2, y3, y4⟩ := x
  dsimp only at *
  subst hA
  have d0 : decide (0 ≤ i) = true := decide_eq_true h0
  have d1 : decide (i < (m.length : Int)) = true := decide_eq_true h1
  have q0 := World.new_ne _ _ f0
  have HG := Aside0.mk gF
  have HB := Aside0.mk hb
  clear gF g1 g2 hb b1 hC0
  by_cases k3 : y0 = 3
  · rw [if_pos k3]
    have e3 : (y0 == 3) = true := beq_iff_eq.2 k3
    clear k3
    go_enter Try.func45, Try.ntmps45
    go_wp2_with fail
    go_ret
    refine ⟨some ⟨w.heap.size + 1, 0, none⟩, 1, rfl, Nat.le_refl _, ?_, ?_⟩
    · intro W _ hW j hj
      obtain rfl : j = 0 := by simp at hj; omega
      refine ⟨_, rfl, ?_⟩
      have h1 := hW (w.heap.size + 1) (by omega) (by simp)
      have b1 : Blk W (w.heap.size + 1) 3 #[.int .i64 y4] := h1.trans (by
        have := World.alloc_heap_new (w.alloc (.cells #[.int .i64 y0, .slice A1 y1.length c1, .slice A2 y2.length c2, .int .i64 y3, .int .i64 y4] 49)) (.cells #[.int .i64 y4] 3)
        rw [World.size_alloc] at this
        exact this)
      exact b1.cell 0
    · exact (below_alloc (RowKit.Below.refl _ w) _).alloc (by simp) _
  · rw [if_neg k3]
    have e3 : (y0 == 3) = false := beq_eq_false_iff_ne.2 k3
    have q1 : ∀ o, (w.alloc o).cell? ⟨(ad.add (i.toNat * 5)).block, (ad.add (i.toNat * 5)).off + 2, none⟩ = some (.slice A2 y2.length c2) := fun o => ((below_alloc (RowKit.Below.refl w.heap.size w) o).cell (World.block_lt_of_cell? _ _ x2)).trans x2
    have q2 : ∀ o, (w.alloc o).cell? ⟨g, 0, none⟩ = some (.slice (some ad) m.length c) := fun o => ((below_alloc (RowKit.Below.refl w.heap.size w) o).cell (World.block_lt_of_cell? _ _ f0)).trans f0
    clear k3
    go_enter Try.func45, Try.ntmps45
    go_wp2_with fail
    go_ret
    refine ⟨A2, c2, rfl, hl2, ?_, ?_⟩
    · intro W hW _ j hj
      exact at_int (Kd.C_below HG.out hW) j hj
    · exact below_alloc (RowKit.Below.refl _ w) _

end Go.Proofs.Ytcbflajacioinaa

/- twin: on without eating. -/
set_option linter.unusedSimpArgs false
set_option linter.unusedVariables false
namespace Go.Proofs.Ytcbflajacioinaa
open Go.RowKit Go.Shelf Go.Proofs.YtcbflajacioinaaW.PrintWords Go.Proofs.YtcbflajacioinaaW.PrintLast

theorem goL_append (st : SrS) (l1 l2 : List Pr) (src : Int) : goL st (l1 ++ l2) src = goL (goL st l1 src) l2 src := by unfold goL; rw [List.foldl_append]
theorem goL_len (st : SrS) (l : List Pr) (src : Int) : st.all.length ≤ (goL st l src).all.length := by
  obtain ⟨k, hk⟩ := goL_all (src := src) l st
  rw [hk, List.length_append]; omega
theorem goL_one (st : SrS) (l : List Pr) (q : Pr) (src : Int) : goL st (l ++ [q]) src = reachP (goL st l src) q src 0 false := by rw [goL_append]; rfl
/-- A protected block is as it was. -/
theorem blk_kept3 {w w' : World} {L : Nat → Prop} {B : Nat} {t : TypeId} {cs : Array Value} (h : Blk w B t cs) (hk : Kept3 w w' L) (hL : L B) : Blk w' B t cs := (hk B hL).trans h
theorem FreeRow.at_ {w0 w w' W : World} {A : Option Addr} {l : List Int} {L : Nat → Prop} (h : FreeRow w0 w w' A l) (hb : RowKit.Below w0.heap.size w0 W) (hk : Kept3 w' W L) (hL : ∀ k, w.heap.size ≤ k → k < w'.heap.size → L k) (j : Nat) (hj : j < l.length) : ∃ ad, A = some ad ∧ W.cell? (ad.add j) = some (.int .i64 (l.getD j 0)) :=
  h W hb (fun k h1 h2 => hk k (hL k h1 h2)) j hj
theorem getD_mem {α : Type} (l : List α) (j : Nat) (d : α) (h : j < l.length) : l.getD j d ∈ l := by
  rw [List.getD_eq_getElem?_getD, List.getElem?_eq_getElem h]; exact List.getElem_mem _
theorem take_getD {α : Type} (l : List α) (i j : Nat) (d : α) (h : j < i) : (l.take i).getD j d = l.getD j d := by
  rw [List.getD_eq_getElem?_getD, List.getD_eq_getElem?_getD, List.getElem?_take_of_lt h]

set_option maxRecDepth 100000 in
set_option maxHeartbeats 4000000 in
theorem spread_false (w0 : World) (m : List Node) (g gm : Nat) (A : Option Addr) (c : Nat) (hC0 : kNode.C w0 A m.length m) (hM : mayB m = true) (hm : m.length ≤ 1000) (hF : ∀ x ∈ m, x.f2.length ≤ 1000000) (L : Nat → Prop) (st : SrS) (pa pb : Int) (hp : PrIn m ⟨pa, pb, false⟩) (src : Int) (hs : -1 ≤ src ∧ src < st.all.length) (w : World) (h : SrAt w0 w m g gm A c L st) :
    Calls Try.prog 41 #[.pointer (some ⟨g, 0, none⟩), .agg #[.int .i64 pa, .int .i64 pb, .bool false], .int .i64 src] w fun e w' => e = .returned (.tuple #[]) ∧ SrAt w0 w' m g gm A c L (goL st (sprL m ⟨pa, pb, false⟩) src) ∧ Kept3 w w' L := by
  have hpr := spr_in hM hp
  obtain ⟨hp0, hp1, hp2⟩ := hp
  dsimp only at hp0 hp1 hp2
  have hlenF : ∀ i : Int, 0 ≤ i → i < m.length → (freeP m i).length ≤ 1000000 := fun i h0 h1 => by
    unfold freeP
    split
    · simp
    · exact hF _ (rd_Node_mem m i h0 h1)
  have hla := hlenF pa hp0 (by omega)
  have hlb := hlenF pb (by omega) hp2
  have hfa := Aside0.mk (free_in hM hp0 (by omega : pa < m.length))
  have hfb := Aside0.mk (free_in hM (by omega : 0 ≤ pb) hp2)
  have hb1 := below_alloc (RowKit.Below.refl w.heap.size w) (.cells #[.int .i64 pa, .int .i64 pb, .bool false] 92)
  have hS1 := h.more hb1 (L' := fun k => L k ∨ k = w.heap.size) (fun k hk => by
    rcases hk with hk | hk
    · exact .inl hk
    · exact .inr ⟨by omega, by simp; omega⟩)
  have bP := Blk.new w 92 #[.int .i64 pa, .int .i64 pb, .bool false]
  have hK1 : Kept3 w (w.alloc (.cells #[.int .i64 pa, .int .i64 pb, .bool false] 92)) L := fun k hk => hb1.block k (h.g0.2.2.2.2 k hk)
  have HS := Aside0.mk hS1
  have HK1 := Aside0.mk hK1
  have FR := fun (W : World) (L' : Nat → Prop) (st' : SrS) (i : Int) (h0 : 0 ≤ i) (h1 : i < m.length) (hh : SrAt w0 W m g gm A c L' st') => free_calls w0 m g gm A c hC0 L' st' i h0 h1 W hh
  have RC := fun (W : World) (L' : Nat → Prop) (st' : SrS) (q : Pr) (hq : PrAt m q) (hs' : -1 ≤ src ∧ src < st'.all.length) (hh : SrAt w0 W m g gm A c L' st') => reach_calls w0 m g gm A c hm L' st' q hq src 0 hs' ⟨by omega, by omega⟩ false W hh
  unfold valPr at RC
  have HFR := Aside0.mk FR
  have HRC := Aside0.mk RC
  have HP := Aside0.mk bP
  have HPR := Aside0.mk hpr
  have p0 := bP.cell 0
  have p1 := bP.cell 1
  have p2 := bP.cell 2
  simp only [List.getElem?_toArray, List.getElem?_cons_zero, List.getElem?_cons_succ] at p0 p1 p2
  have hwl : w.heap.size < (w.alloc (.cells #[.int .i64 pa, .int .i64 pb, .bool false] 92)).heap.size := by simp
  clear FR RC hS1 h hb1 bP hpr hK1
  have HSPR : Aside0 (sprL m ⟨pa, pb, false⟩ = (List.range (freeP m pa).length).flatMap (sprAt m ⟨pa, pb, false⟩)) := ⟨by unfold sprL; simp⟩
  have HAT : Aside0 (∀ i, sprAt m ⟨pa, pb, false⟩ i = ⟨(freeP m pa).getD i 0, (freeP m pa).getD i 0, false⟩ :: ((freeP m pa).take i).map (fun o => ⟨(freeP m pa).getD i 0, o, true⟩)) := ⟨fun i => rfl⟩
  go_enter Try.func41, Try.ntmps41
  go_wp2_with fail
  generalize w.alloc (.cells #[.int .i64 pa, .int .i64 pb, .bool false] 92) = W1 at *
  refine (HFR.out _ _ _ pa hp0 (by omega) HS.out).mono ?_
  rintro e w2 ⟨A2, c2, rfl, hc2, hrow2, hb2⟩
  have hS2 := HS.out.more hb2 (L' := fun k => (L k ∨ k = w.heap.size) ∨ (W1.heap.size ≤ k ∧ k < w2.heap.size)) (fun k hk => hk)
  have hK2 : Kept3 w w2 L := HK1.out.trans (fun k hk => hb2.block k (HS.out.g0.2.2.2.2 k (.inl hk)))
  have HS2 := Aside0.mk hS2
  have HK2 := Aside0.mk hK2
  have HROW := Aside0.mk hrow2
  have HP2 : Aside0 (Blk w2 w.heap.size 92 #[.int .i64 pa, .int .i64 pb, .bool false]) := ⟨(hb2.block w.heap.size hwl).trans HP.out⟩
  clear hS2 hK2 hrow2 hb2 p0 p1 p2 HS HK1 HP
  go_wp2_with fail
  go_loopw [17] (fun iv wr => ∃ k : Nat, k ≤ (freeP m pa).length ∧ iv = .int .i64 k ∧ Aside0 (SrAt w0 wr m g gm A c (fun k => (L k ∨ k = w.heap.size) ∨ (W1.heap.size ≤ k ∧ k < w2.heap.size)) (goL st ((List.range k).flatMap (sprAt m ⟨pa, pb, false⟩)) src)) ∧ Aside0 (Kept3 w2 wr (fun k => (L k ∨ k = w.heap.size) ∨ (W1.heap.size ≤ k ∧ k < w2.heap.size)))) (fun iv _ => (freeP m pa).length - (intOf iv).toNat)
  case atStart => exact ⟨0, Nat.zero_le _, rfl, HS2, ⟨Kept3.refl _ _⟩⟩
  case round =>
    obtain ⟨k, hk, rfl, HSk, HKk⟩ := hrel
    have bPk := blk_kept3 HP2.out HKk.out (.inl (.inr rfl))
    have p0 := bPk.cell 0
    have p1 := bPk.cell 1
    have p2 := bPk.cell 2
    simp only [List.getElem?_toArray, List.getElem?_cons_zero, List.getElem?_cons_succ] at p0 p1 p2
    clear bPk
    by_cases hlt : k < (freeP m pa).length
    · obtain ⟨ad, hA, e0⟩ := HROW.out.at_ HSk.out.bel HKk.out (fun j h1 h2 => .inr ⟨h1, h2⟩) k hlt
      subst hA
      have hat := HAT.out k
      have hin : ∀ q ∈ sprAt m ⟨pa, pb, false⟩ k, PrAt m q := fun q hq => HPR.out q (by rw [HSPR.out]; exact List.mem_flatMap.2 ⟨k, List.mem_range.2 hlt, hq⟩)
      have hrg : goL st ((List.range (k + 1)).flatMap (sprAt m ⟨pa, pb, false⟩)) src = goL (goL st ((List.range k).flatMap (sprAt m ⟨pa, pb, false⟩)) src) (sprAt m ⟨pa, pb, false⟩ k) src := by
        rw [List.range_succ, List.flatMap_append, goL_append, List.flatMap_cons, List.flatMap_nil, List.append_nil]
      have hsk : src < (goL st ((List.range k).flatMap (sprAt m ⟨pa, pb, false⟩)) src).all.length := Int.lt_of_lt_of_le hs.2 (Int.ofNat_le.2 (goL_len _ _ _))
      rw [hat] at hin hrg
      have ht := hfa.out _ (getD_mem (freeP m pa) k 0 hlt)
      have HRG := Aside0.mk hrg
      have HIN := Aside0.mk hin
      have HT := Aside0.mk (rfl : (freeP m pa).getD k 0 = (freeP m pa).getD k 0)
      clear hat hrg hin
      generalize goL st ((List.range k).flatMap (sprAt m ⟨pa, pb, false⟩)) src = stk at *
      generalize hgt : (freeP m pa).getD k 0 = t at e0 ht HRG HIN
      have HGT := Aside0.mk hgt
      clear hgt
      have hk0 : (0 : Int) ≤ k := by omega
      have hk1 : (k : Int) < (freeP m pa).length := by omega
      go_wp2_with fail
      refine (HRC.out _ _ _ ⟨t, t, false⟩ (HIN.out _ List.mem_cons_self) ⟨hs.1, hsk⟩ HSk.out).mono ?_
      rintro e w5 ⟨rfl, hS5, hK5⟩
      have bP5 := blk_kept3 (blk_kept3 HP2.out HKk.out (.inl (.inr rfl))) hK5 (.inl (.inr rfl))
      have p0' := bP5.cell 0
      simp only [List.getElem?_toArray, List.getElem?_cons_zero, List.getElem?_cons_succ] at p0'
      have HS5 := Aside0.mk hS5
      have HK5 := Aside0.mk (HKk.out.trans hK5)
      have hlr : stk.all.length ≤ (reachP stk ⟨t, t, false⟩ src 0 false).all.length := reach_len _ _ _ _ _
      clear bP5 hS5 hK5 p0 p1 p2
      go_wp2_with fail
      refine (HFR.out _ _ _ pa hp0 (by omega) HS5.out).mono ?_
      rintro e w6 ⟨A6, c6, rfl, hc6, hrow6, hb6⟩
      have hS6 := HS5.out.more hb6 (L' := fun k => ((L k ∨ k = w.heap.size) ∨ (W1.heap.size ≤ k ∧ k < w2.heap.size)) ∨ (w5.heap.size ≤ k ∧ k < w6.heap.size)) (fun k hk => hk)
      have hK6 : Kept3 w2 w6 (fun k => (L k ∨ k = w.heap.size) ∨ (W1.heap.size ≤ k ∧ k < w2.heap.size)) := HK5.out.trans (fun k hk => hb6.block k (HS5.out.g0.2.2.2.2 k hk))
      have HS6 := Aside0.mk hS6
      have HK6 := Aside0.mk hK6
      have HROW6 := Aside0.mk hrow6
      have hkc : (k : Int) ≤ c6 := by omega
      clear hS6 hK6 hrow6 hb6 p0'
      go_wp2_with fail
      go_loopw [44] (fun jv wq => ∃ j : Nat, j ≤ k ∧ jv = .int .i64 j ∧ Aside0 (SrAt w0 wq m g gm A c (fun k => ((L k ∨ k = w.heap.size) ∨ (W1.heap.size ≤ k ∧ k < w2.heap.size)) ∨ (w5.heap.size ≤ k ∧ k < w6.heap.size)) (goL (reachP stk ⟨t, t, false⟩ src 0 false) (((freeP m pa).take j).map (fun o => (⟨t, o, true⟩ : Pr))) src)) ∧ Aside0 (Kept3 w6 wq (fun k => ((L k ∨ k = w.heap.size) ∨ (W1.heap.size ≤ k ∧ k < w2.heap.size)) ∨ (w5.heap.size ≤ k ∧ k < w6.heap.size)))) (fun jv _ => k - (intOf jv).toNat)
      case atStart => exact ⟨0, Nat.zero_le _, rfl, HS6, ⟨Kept3.refl _ _⟩⟩
      case round =>
        obtain ⟨j, hj, rfl, HSj, HKj⟩ := hrel
        by_cases hjk : j < k
        · obtain ⟨ad6, hA6, e6⟩ := HROW6.out.at_ HSj.out.bel HKj.out (fun j h1 h2 => .inr ⟨h1, h2⟩) j (by omega)
          subst hA6
          have hq6 : PrAt m ⟨t, (freeP m pa).getD j 0, true⟩ := HIN.out _ (List.mem_cons_of_mem _ (List.mem_map.2 ⟨_, by rw [← take_getD (freeP m pa) k j 0 hjk]; exact getD_mem _ j 0 (by rw [List.length_take]; omega), rfl⟩))
          have hst6 : goL (reachP stk ⟨t, t, false⟩ src 0 false) (((freeP m pa).take (j + 1)).map (fun o => (⟨t, o, true⟩ : Pr))) src = reachP (goL (reachP stk ⟨t, t, false⟩ src 0 false) (((freeP m pa).take j).map (fun o => (⟨t, o, true⟩ : Pr))) src) ⟨t, (freeP m pa).getD j 0, true⟩ src 0 false := by
            rw [take_snoc' (freeP m pa) j 0 (by omega), List.map_append, List.map_cons, List.map_nil, goL_one]
          have hs6 : src < (goL (reachP stk ⟨t, t, false⟩ src 0 false) (((freeP m pa).take j).map (fun o => (⟨t, o, true⟩ : Pr))) src).all.length := Int.lt_of_lt_of_le hsk (Int.ofNat_le.2 (Nat.le_trans hlr (goL_len _ _ _)))
          have HST6 := Aside0.mk hst6
          have hj0 : (0 : Int) ≤ j := by omega
          have hj1 : (j : Int) < k := by omega
          clear hst6
          generalize goL (reachP stk ⟨t, t, false⟩ src 0 false) (((freeP m pa).take j).map (fun o => (⟨t, o, true⟩ : Pr))) src = stj at *
          generalize (freeP m pa).getD j 0 = o at *
          go_wp2_with fail
          refine (HRC.out _ _ _ ⟨t, o, true⟩ hq6 ⟨hs.1, hs6⟩ HSj.out).mono ?_
          rintro e w7 ⟨rfl, hS7, hK7⟩
          go_wp2_with fail
          exact ⟨⟨j + 1, by omega, by go_num, ⟨by rw [HST6.out]; exact hS7⟩, ⟨HKj.out.trans hK7⟩⟩, by simp [intOf]; omega⟩
        · obtain rfl : j = k := by omega
          go_wp2_with fail
          refine ⟨⟨j + 1, by omega, by go_num, ⟨by rw [HRG.out]; exact HSj.out.more (RowKit.Below.refl _ _) (fun k hk => .inl (.inl hk))⟩, ⟨HK6.out.trans (HKj.out.less (fun k hk => .inl hk))⟩⟩, by simp [intOf]; omega⟩
    · obtain rfl : k = (freeP m pa).length := by omega
      go_wp2_with fail
      go_end0
      refine ⟨rfl, ?_, HK2.out.trans (HKk.out.less (fun k hk => .inl (.inl hk)))⟩
      rw [HSPR.out]
      exact HSk.out.more (RowKit.Below.refl _ _) (fun k hk => .inl (.inl (.inl hk)))

set_option maxRecDepth 100000 in
set_option maxHeartbeats 4000000 in
theorem spread_true (w0 : World) (m : List Node) (g gm : Nat) (A : Option Addr) (c : Nat) (hC0 : kNode.C w0 A m.length m) (hM : mayB m = true) (hm : m.length ≤ 1000) (hF : ∀ x ∈ m, x.f2.length ≤ 1000000) (L : Nat → Prop) (st : SrS) (pa pb : Int) (hp : PrIn m ⟨pa, pb, true⟩) (src : Int) (hs : -1 ≤ src ∧ src < st.all.length) (w : World) (h : SrAt w0 w m g gm A c L st) :
    Calls Try.prog 41 #[.pointer (some ⟨g, 0, none⟩), .agg #[.int .i64 pa, .int .i64 pb, .bool true], .int .i64 src] w fun e w' => e = .returned (.tuple #[]) ∧ SrAt w0 w' m g gm A c L (goL st (sprL m ⟨pa, pb, true⟩) src) ∧ Kept3 w w' L := by
  have hpr := spr_in hM hp
  obtain ⟨hp0, hp1, hp2⟩ := hp
  dsimp only at hp0 hp1 hp2
  have hlenF : ∀ i : Int, 0 ≤ i → i < m.length → (freeP m i).length ≤ 1000000 := fun i h0 h1 => by
    unfold freeP
    split
    · simp
    · exact hF _ (rd_Node_mem m i h0 h1)
  have hla := hlenF pa hp0 (by omega)
  have hlb := hlenF pb (by omega) hp2
  have hfa := Aside0.mk (free_in hM hp0 (by omega : pa < m.length))
  have hfb := Aside0.mk (free_in hM (by omega : 0 ≤ pb) hp2)
  have hb1 := below_alloc (RowKit.Below.refl w.heap.size w) (.cells #[.int .i64 pa, .int .i64 pb, .bool true] 92)
  have hS1 := h.more hb1 (L' := fun k => L k ∨ k = w.heap.size) (fun k hk => by
    rcases hk with hk | hk
    · exact .inl hk
    · exact .inr ⟨by omega, by simp; omega⟩)
  have bP := Blk.new w 92 #[.int .i64 pa, .int .i64 pb, .bool true]
  have hK1 : Kept3 w (w.alloc (.cells #[.int .i64 pa, .int .i64 pb, .bool true] 92)) L := fun k hk => hb1.block k (h.g0.2.2.2.2 k hk)
  have HS := Aside0.mk hS1
  have HK1 := Aside0.mk hK1
  have FR := fun (W : World) (L' : Nat → Prop) (st' : SrS) (i : Int) (h0 : 0 ≤ i) (h1 : i < m.length) (hh : SrAt w0 W m g gm A c L' st') => free_calls w0 m g gm A c hC0 L' st' i h0 h1 W hh
  have RC := fun (W : World) (L' : Nat → Prop) (st' : SrS) (q : Pr) (hq : PrAt m q) (hs' : -1 ≤ src ∧ src < st'.all.length) (hh : SrAt w0 W m g gm A c L' st') => reach_calls w0 m g gm A c hm L' st' q hq src 0 hs' ⟨by omega, by omega⟩ false W hh
  unfold valPr at RC
  have HFR := Aside0.mk FR
  have HRC := Aside0.mk RC
  have HP := Aside0.mk bP
  have HPR := Aside0.mk hpr
  have p0 := bP.cell 0
  have p1 := bP.cell 1
  have p2 := bP.cell 2
  simp only [List.getElem?_toArray, List.getElem?_cons_zero, List.getElem?_cons_succ] at p0 p1 p2
  have hwl : w.heap.size < (w.alloc (.cells #[.int .i64 pa, .int .i64 pb, .bool true] 92)).heap.size := by simp
  clear FR RC hS1 h hb1 bP hpr hK1
  have HSPR : Aside0 (sprL m ⟨pa, pb, true⟩ = (List.range (freeP m pa).length).flatMap (sprAt m ⟨pa, pb, true⟩) ++ (freeP m pb).map (fun t => (⟨pa, t, true⟩ : Pr))) := ⟨by unfold sprL; simp⟩
  have HAT : Aside0 (∀ i, sprAt m ⟨pa, pb, true⟩ i = [⟨(freeP m pa).getD i 0, pb, true⟩]) := ⟨fun i => rfl⟩
  go_enter Try.func41, Try.ntmps41
  go_wp2_with fail
  generalize w.alloc (.cells #[.int .i64 pa, .int .i64 pb, .bool true] 92) = W1 at *
  refine (HFR.out _ _ _ pa hp0 (by omega) HS.out).mono ?_
  rintro e w2 ⟨A2, c2, rfl, hc2, hrow2, hb2⟩
  have hS2 := HS.out.more hb2 (L' := fun k => (L k ∨ k = w.heap.size) ∨ (W1.heap.size ≤ k ∧ k < w2.heap.size)) (fun k hk => hk)
  have hK2 : Kept3 w w2 L := HK1.out.trans (fun k hk => hb2.block k (HS.out.g0.2.2.2.2 k (.inl hk)))
  have HS2 := Aside0.mk hS2
  have HK2 := Aside0.mk hK2
  have HROW := Aside0.mk hrow2
  have HP2 : Aside0 (Blk w2 w.heap.size 92 #[.int .i64 pa, .int .i64 pb, .bool true]) := ⟨(hb2.block w.heap.size hwl).trans HP.out⟩
  clear hS2 hK2 hrow2 hb2 p0 p1 p2 HS HK1 HP
  go_wp2_with fail
  go_loopw [17] (fun iv wr => ∃ k : Nat, k ≤ (freeP m pa).length ∧ iv = .int .i64 k ∧ Aside0 (SrAt w0 wr m g gm A c (fun k => (L k ∨ k = w.heap.size) ∨ (W1.heap.size ≤ k ∧ k < w2.heap.size)) (goL st ((List.range k).flatMap (sprAt m ⟨pa, pb, true⟩)) src)) ∧ Aside0 (Kept3 w2 wr (fun k => (L k ∨ k = w.heap.size) ∨ (W1.heap.size ≤ k ∧ k < w2.heap.size)))) (fun iv _ => (freeP m pa).length - (intOf iv).toNat)
  case atStart => exact ⟨0, Nat.zero_le _, rfl, HS2, ⟨Kept3.refl _ _⟩⟩
  case round =>
    obtain ⟨k, hk, rfl, HSk, HKk⟩ := hrel
    have bPk := blk_kept3 HP2.out HKk.out (.inl (.inr rfl))
    have p0 := bPk.cell 0
    have p1 := bPk.cell 1
    have p2 := bPk.cell 2
    simp only [List.getElem?_toArray, List.getElem?_cons_zero, List.getElem?_cons_succ] at p0 p1 p2
    clear bPk
    by_cases hlt : k < (freeP m pa).length
    · obtain ⟨ad, hA, e0⟩ := HROW.out.at_ HSk.out.bel HKk.out (fun j h1 h2 => .inr ⟨h1, h2⟩) k hlt
      subst hA
      have hat := HAT.out k
      have hin : ∀ q ∈ sprAt m ⟨pa, pb, true⟩ k, PrAt m q := fun q hq => HPR.out q (by rw [HSPR.out]; exact List.mem_append_left _ (List.mem_flatMap.2 ⟨k, List.mem_range.2 hlt, hq⟩))
      have hrg : goL st ((List.range (k + 1)).flatMap (sprAt m ⟨pa, pb, true⟩)) src = goL (goL st ((List.range k).flatMap (sprAt m ⟨pa, pb, true⟩)) src) (sprAt m ⟨pa, pb, true⟩ k) src := by
        rw [List.range_succ, List.flatMap_append, goL_append, List.flatMap_cons, List.flatMap_nil, List.append_nil]
      have hsk : src < (goL st ((List.range k).flatMap (sprAt m ⟨pa, pb, true⟩)) src).all.length := Int.lt_of_lt_of_le hs.2 (Int.ofNat_le.2 (goL_len _ _ _))
      rw [hat] at hin hrg
      have ht := hfa.out _ (getD_mem (freeP m pa) k 0 hlt)
      have HRG := Aside0.mk hrg
      have HIN := Aside0.mk hin
      have HT := Aside0.mk (rfl : (freeP m pa).getD k 0 = (freeP m pa).getD k 0)
      clear hat hrg hin
      generalize goL st ((List.range k).flatMap (sprAt m ⟨pa, pb, true⟩)) src = stk at *
      generalize hgt : (freeP m pa).getD k 0 = t at e0 ht HRG HIN
      have HGT := Aside0.mk hgt
      clear hgt
      have hk0 : (0 : Int) ≤ k := by omega
      have hk1 : (k : Int) < (freeP m pa).length := by omega
      go_wp2_with fail
      refine (HRC.out _ _ _ ⟨t, pb, true⟩ (HIN.out _ List.mem_cons_self) ⟨hs.1, hsk⟩ HSk.out).mono ?_
      rintro e w5 ⟨rfl, hS5, hK5⟩
      go_wp2_with fail
      exact ⟨⟨k + 1, by omega, by go_num, ⟨by rw [HRG.out]; exact hS5⟩, ⟨HKk.out.trans hK5⟩⟩, by simp [intOf]; omega⟩
    · obtain rfl : k = (freeP m pa).length := by omega
      go_wp2_with fail
      refine (HFR.out _ _ _ pb (by omega) hp2 HSk.out).mono ?_
      rintro e w6 ⟨A6, c6, rfl, hc6, hrow6, hb6⟩
      have hS6 := HSk.out.more hb6 (L' := fun k => ((L k ∨ k = w.heap.size) ∨ (W1.heap.size ≤ k ∧ k < w2.heap.size)) ∨ (wr.heap.size ≤ k ∧ k < w6.heap.size)) (fun k hk => hk)
      have hK6 : Kept3 w2 w6 (fun k => (L k ∨ k = w.heap.size) ∨ (W1.heap.size ≤ k ∧ k < w2.heap.size)) := HKk.out.trans (fun k hk => hb6.block k (HSk.out.g0.2.2.2.2 k hk))
      have HS6 := Aside0.mk hS6
      have HK6 := Aside0.mk hK6
      have HROW6 := Aside0.mk hrow6
      have hsk : src < (goL st ((List.range (freeP m pa).length).flatMap (sprAt m ⟨pa, pb, true⟩)) src).all.length := Int.lt_of_lt_of_le hs.2 (Int.ofNat_le.2 (goL_len _ _ _))
      have hfin : goL st (sprL m ⟨pa, pb, true⟩) src = goL (goL st ((List.range (freeP m pa).length).flatMap (sprAt m ⟨pa, pb, true⟩)) src) ((freeP m pb).map (fun t => (⟨pa, t, true⟩ : Pr))) src := by rw [HSPR.out, goL_append]
      have HFIN := Aside0.mk hfin
      clear hS6 hK6 hrow6 hb6 p0 p1 p2 HSk hfin
      generalize goL st ((List.range (freeP m pa).length).flatMap (sprAt m ⟨pa, pb, true⟩)) src = st1 at *
      obtain ⟨w9, rfl⟩ : ∃ w9 : World, w9 = wr := ⟨_, rfl⟩
      go_wp2_with fail
      go_loopw [63] (fun jv wq => ∃ j : Nat, j ≤ (freeP m pb).length ∧ jv = .int .i64 j ∧ Aside0 (SrAt w0 wq m g gm A c (fun k => ((L k ∨ k = w.heap.size) ∨ (W1.heap.size ≤ k ∧ k < w2.heap.size)) ∨ (w9.heap.size ≤ k ∧ k < w6.heap.size)) (goL st1 (((freeP m pb).take j).map (fun o => (⟨pa, o, true⟩ : Pr))) src)) ∧ Aside0 (Kept3 w6 wq (fun k => ((L k ∨ k = w.heap.size) ∨ (W1.heap.size ≤ k ∧ k < w2.heap.size)) ∨ (w9.heap.size ≤ k ∧ k < w6.heap.size)))) (fun jv _ => (freeP m pb).length - (intOf jv).toNat)
      case atStart => exact ⟨0, Nat.zero_le _, rfl, HS6, ⟨Kept3.refl _ _⟩⟩
      case round =>
        obtain ⟨j, hj, rfl, HSj, HKj⟩ := hrel
        have bPk := blk_kept3 (blk_kept3 HP2.out HK6.out (.inl (.inr rfl))) HKj.out (.inl (.inl (.inr rfl)))
        have p0 := bPk.cell 0
        have p1 := bPk.cell 1
        have p2 := bPk.cell 2
        simp only [List.getElem?_toArray, List.getElem?_cons_zero, List.getElem?_cons_succ] at p0 p1 p2
        clear bPk
        by_cases hjk : j < (freeP m pb).length
        · obtain ⟨ad6, hA6, e6⟩ := HROW6.out.at_ HSj.out.bel HKj.out (fun j h1 h2 => .inr ⟨h1, h2⟩) j hjk
          subst hA6
          have hq6 : PrAt m ⟨pa, (freeP m pb).getD j 0, true⟩ := HPR.out _ (by rw [HSPR.out]; exact List.mem_append_right _ (List.mem_map.2 ⟨_, getD_mem _ j 0 hjk, rfl⟩))
          have hst6 : goL st1 (((freeP m pb).take (j + 1)).map (fun o => (⟨pa, o, true⟩ : Pr))) src = reachP (goL st1 (((freeP m pb).take j).map (fun o => (⟨pa, o, true⟩ : Pr))) src) ⟨pa, (freeP m pb).getD j 0, true⟩ src 0 false := by
            rw [take_snoc' (freeP m pb) j 0 hjk, List.map_append, List.map_cons, List.map_nil, goL_one]
          have hs6 : src < (goL st1 (((freeP m pb).take j).map (fun o => (⟨pa, o, true⟩ : Pr))) src).all.length := Int.lt_of_lt_of_le hsk (Int.ofNat_le.2 (goL_len _ _ _))
          have HST6 := Aside0.mk hst6
          have hj0 : (0 : Int) ≤ j := by omega
          have hj1 : (j : Int) < (freeP m pb).length := by omega
          clear hst6
          generalize goL st1 (((freeP m pb).take j).map (fun o => (⟨pa, o, true⟩ : Pr))) src = stj at *
          generalize (freeP m pb).getD j 0 = o at *
          go_wp2_with fail
          refine (HRC.out _ _ _ ⟨pa, o, true⟩ hq6 ⟨hs.1, hs6⟩ HSj.out).mono ?_
          rintro e w7 ⟨rfl, hS7, hK7⟩
          go_wp2_with fail
          exact ⟨⟨j + 1, by omega, by go_num, ⟨by rw [HST6.out]; exact hS7⟩, ⟨HKj.out.trans hK7⟩⟩, by simp [intOf]; omega⟩
        · obtain rfl : j = (freeP m pb).length := by omega
          go_wp2_with fail
          go_end0
          refine ⟨rfl, ?_, HK2.out.trans ((HK6.out.less (fun k hk => .inl (.inl hk))).trans (HKj.out.less (fun k hk => .inl (.inl (.inl hk)))))⟩
          rw [HFIN.out]
          have := HSj.out.more (RowKit.Below.refl _ _) (L' := L) (fun k hk => .inl (.inl (.inl (.inl hk))))
          rwa [List.take_length] at this

theorem spread_calls (w0 : World) (m : List Node) (g gm : Nat) (A : Option Addr) (c : Nat) (hC0 : kNode.C w0 A m.length m) (hM : mayB m = true) (hm : m.length ≤ 1000) (hF : ∀ x ∈ m, x.f2.length ≤ 1000000) (L : Nat → Prop) (st : SrS) (p : Pr) (hp : PrIn m p) (src : Int) (hs : -1 ≤ src ∧ src < st.all.length) (w : World) (h : SrAt w0 w m g gm A c L st) :
    Calls Try.prog 41 #[.pointer (some ⟨g, 0, none⟩), valPr p, .int .i64 src] w fun e w' => e = .returned (.tuple #[]) ∧ SrAt w0 w' m g gm A c L (goL st (sprL m p) src) ∧ Kept3 w w' L := by
  obtain ⟨pa, pb, pap⟩ := p
  cases pap
  · exact spread_false w0 m g gm A c hC0 hM hm hF L st pa pb hp src hs w h
  · exact spread_true w0 m g gm A c hC0 hM hm hF L st pa pb hp src hs w h

end Go.Proofs.Ytcbflajacioinaa

/- twin: on by a byte. -/
set_option linter.unusedSimpArgs false
set_option linter.unusedVariables false
namespace Go.Proofs.Ytcbflajacioinaa
open Go.RowKit Go.Shelf Go.Proofs.YtcbflajacioinaaW.PrintWords Go.Proofs.YtcbflajacioinaaW.PrintLast

theorem goE_append (st : SrS) (l1 l2 : List (Pr × Int)) (src : Int) : goE st (l1 ++ l2) src = goE (goE st l1 src) l2 src := by unfold goE; rw [List.foldl_append]
theorem goE_len (st : SrS) (l : List (Pr × Int)) (src : Int) : st.all.length ≤ (goE st l src).all.length := by
  obtain ⟨k, hk⟩ := goE_all (src := src) l st
  rw [hk, List.length_append]; omega
/-- A node of a machine as it lay in the first world, in every later one. -/
theorem node0 {w0 : World} {A : Option Addr} {m : List Node} (hC0 : kNode.C w0 A m.length m) (i : Int) (h0 : 0 ≤ i) (h1 : i < m.length) : ∃ ad A1 c1 A2 c2, A = some ad ∧
    (∀ W, RowKit.Below w0.heap.size w0 W → W.cell? (ad.add (i.toNat * 5)) = some (.int .i64 (rd_Node m i).f0) ∧ W.cell? ⟨(ad.add (i.toNat * 5)).block, (ad.add (i.toNat * 5)).off + 1, none⟩ = some (.slice A1 (rd_Node m i).f1.length c1) ∧ W.cell? ⟨(ad.add (i.toNat * 5)).block, (ad.add (i.toNat * 5)).off + 2, none⟩ = some (.slice A2 (rd_Node m i).f2.length c2)) ∧
    kEdge.C w0 A1 (rd_Node m i).f1.length (rd_Node m i).f1 ∧ (Kd.int .i64).C w0 A2 (rd_Node m i).f2.length (rd_Node m i).f2 := by
  obtain ⟨ad, A1, c1, A2, c2, hA, x0, x1, x2, x3, x4, hl1, g1, hl2, g2⟩ := at_Node hC0 i h0 h1
  exact ⟨ad, A1, c1, A2, c2, hA, fun W hb => ⟨(hb.cell (World.block_lt_of_cell? _ _ x0)).trans x0, (hb.cell (World.block_lt_of_cell? _ _ x1)).trans x1, (hb.cell (World.block_lt_of_cell? _ _ x2)).trans x2⟩, g1, g2⟩
theorem eatAt_step (e : Edge) (ap : Bool) (l : List Edge) (j : Nat) (hj : j < l.length) : eatAt e ap (l.take (j + 1)) = eatAt e ap (l.take j) ++ (if bothB e (rd_Edge l (j : Int)) = true then [(⟨e.f2, (rd_Edge l (j : Int)).f2, ap⟩, max e.f0 (rd_Edge l (j : Int)).f0)] else []) := by
  unfold eatAt rd_Edge
  rw [Int.toNat_natCast, take_snoc' l j zEdge hj, List.filter_append, List.map_append]
  congr 1
  by_cases h : bothB e (l.getD j zEdge) = true
  · rw [List.filter_cons_of_pos h, if_pos h]; rfl
  · rw [List.filter_cons_of_neg h, if_neg h]; rfl

set_option maxRecDepth 100000 in
set_option maxHeartbeats 4000000 in
theorem eat_calls (w0 : World) (m : List Node) (g gm : Nat) (A : Option Addr) (c : Nat) (hC0 : kNode.C w0 A m.length m) (hM : mayB m = true) (hN : ∀ x ∈ m, NodeOk x) (hm : m.length ≤ 1000) (L : Nat → Prop) (st : SrS) (p : Pr) (hp : PrIn m p) (src : Int) (hs : -1 ≤ src ∧ src < st.all.length) (w : World) (h : SrAt w0 w m g gm A c L st) :
    Calls Try.prog 42 #[.pointer (some ⟨g, 0, none⟩), valPr p, .int .i64 src] w fun e w' => e = .returned (.tuple #[]) ∧ SrAt w0 w' m g gm A c L (goE st (eatL m p) src) ∧ Kept3 w w' L := by
  have hin := eat_in hM hN hp
  obtain ⟨pa, pb, pap⟩ := p
  obtain ⟨hp0, hp1, hp2⟩ := hp
  dsimp only at hp0 hp1 hp2
  have hmx : m.length ≤ 9223372036854775807 := hC0.2.1
  have hE : eatL m ⟨pa, pb, pap⟩ = (rd_Node m pa).f1.flatMap (fun e => eatAt e pap (rd_Node m pb).f1) := rfl
  rw [hE] at hin ⊢
  obtain ⟨ad, A1, c1, A2, c2, hA, hx, hga, _⟩ := node0 hC0 pa hp0 (by omega)
  obtain ⟨ad', B1, d1, B2, d2, hA', hy, hgb, _⟩ := node0 hC0 pb (by omega) hp2
  rw [hA] at hA'
  obtain rfl := Option.some.inj hA'
  subst hA
  have hla := (hN _ (rd_Node_mem m pa hp0 (by omega))).2.1
  have hlb := (hN _ (rd_Node_mem m pb (by omega) hp2)).2.1
  have hea : ∀ e ∈ (rd_Node m pa).f1, EdgeOk e := (hN _ (rd_Node_mem m pa hp0 (by omega))).1
  have heb : ∀ e ∈ (rd_Node m pb).f1, EdgeOk e := (hN _ (rd_Node_mem m pb (by omega) hp2)).1
  generalize rd_Node m pa = xa at *
  generalize rd_Node m pb = xb at *
  obtain ⟨xa0, xa1, xa2, xa3, xa4⟩ := xa
  obtain ⟨xb0, xb1, xb2, xb3, xb4⟩ := xb
  dsimp only at *
  have hb1 := below_alloc (RowKit.Below.refl w.heap.size w) (.cells #[.int .i64 pa, .int .i64 pb, .bool pap] 92)
  have hS1 := h.more hb1 (L' := fun k => L k ∨ k = w.heap.size) (fun k hk => by
    rcases hk with hk | hk
    · exact .inl hk
    · exact .inr ⟨by omega, by simp; omega⟩)
  have bP := Blk.new w 92 #[.int .i64 pa, .int .i64 pb, .bool pap]
  have hK1 : Kept3 w (w.alloc (.cells #[.int .i64 pa, .int .i64 pb, .bool pap] 92)) L := fun k hk => hb1.block k (h.g0.2.2.2.2 k hk)
  have HS := Aside0.mk hS1
  have HK1 := Aside0.mk hK1
  have HX := Aside0.mk hx
  have HY := Aside0.mk hy
  have HGA := Aside0.mk hga
  have HGB := Aside0.mk hgb
  have HEA := Aside0.mk hea
  have HEB := Aside0.mk heb
  have HIN := Aside0.mk hin
  have HP := Aside0.mk bP
  have RC := fun (W : World) (L' : Nat → Prop) (st' : SrS) (q : Pr) (cc : Int) (hq : PrAt m q) (hs' : -1 ≤ src ∧ src < st'.all.length) (hcc : 0 ≤ cc ∧ cc ≤ 255) (hh : SrAt w0 W m g gm (some ad) c L' st') => reach_calls w0 m g gm (some ad) c hm L' st' q hq src cc hs' hcc true W hh
  unfold valPr at RC
  have HRC := Aside0.mk RC
  have p0 := bP.cell 0
  have p1 := bP.cell 1
  have p2 := bP.cell 2
  obtain ⟨_, _, _, v1, v3, D, bS, _⟩ := hS1
  have f0 := bS.cell 0
  simp only [List.getElem?_toArray, List.getElem?_cons_zero, List.getElem?_cons_succ] at p0 p1 p2 f0
  have y1 := (hx _ HS.out.bel).2.1
  have e0 : decide (0 ≤ pa) = true := decide_eq_true hp0
  have e1 : decide (pa < (m.length : Int)) = true := decide_eq_true (by omega)
  have e2 : decide (0 ≤ pb) = true := decide_eq_true (by omega)
  have e3 : decide (pb < (m.length : Int)) = true := decide_eq_true hp2
  have hp3 : pa < (m.length : Int) := by omega
  have hp4 : 0 ≤ pb := by omega
  clear RC h hb1 bP hK1 hE hC0 hx hy hga hgb hea heb hin bS hN
  unfold valPr
  go_enter Try.func42, Try.ntmps42
  go_wp2_with fail
  go_quiet (fail)
  go_wp2_with fail
  have HS2 := Aside0.mk (HS.out.drew nq)
  have HP2 : Aside0 (Blk ((w.alloc (.cells #[.int .i64 pa, .int .i64 pb, .bool pap] 92)).drewN nq) w.heap.size 92 #[.int .i64 pa, .int .i64 pb, .bool pap]) := ⟨HP.out⟩
  have HK2 : Aside0 (Kept3 w ((w.alloc (.cells #[.int .i64 pa, .int .i64 pb, .bool pap] 92)).drewN nq) L) := ⟨HK1.out⟩
  clear HS HP HK1 y1 p0 p1 p2 f0
  generalize (w.alloc (.cells #[.int .i64 pa, .int .i64 pb, .bool pap] 92)).drewN nq = w2 at *
  go_loopw [21] (fun iv wr => ∃ k : Nat, k ≤ xa1.length ∧ iv = .int .i64 k ∧ Aside0 (SrAt w0 wr m g gm (some ad) c (fun k => L k ∨ k = w.heap.size) (goE st ((xa1.take k).flatMap (fun e => eatAt e pap xb1)) src)) ∧ Aside0 (Kept3 w2 wr (fun k => L k ∨ k = w.heap.size))) (fun iv _ => xa1.length - (intOf iv).toNat)
  case atStart => exact ⟨0, Nat.zero_le _, rfl, HS2, ⟨Kept3.refl _ _⟩⟩
  case round =>
    obtain ⟨k, hk, rfl, HSk, HKk⟩ := hrel
    by_cases hlt : k < xa1.length
    · obtain ⟨ae, hAe, a0, a1, a2⟩ := at_Edge (Kd.C_below HGA.out HSk.out.bel) k (by omega) (by omega)
      simp only [Int.toNat_natCast] at a0 a1 a2
      subst hAe
      have hmem : rd_Edge xa1 (k : Int) ∈ xa1 := by unfold rd_Edge; rw [Int.toNat_natCast]; exact getD_mem _ _ _ hlt
      have heo := HEA.out _ hmem
      have hin := fun q hq => HIN.out q (List.mem_flatMap.2 ⟨_, hmem, hq⟩)
      have hrg : goE st ((xa1.take (k + 1)).flatMap (fun e => eatAt e pap xb1)) src = goE (goE st ((xa1.take k).flatMap (fun e => eatAt e pap xb1)) src) (eatAt (rd_Edge xa1 (k : Int)) pap xb1) src := by
        unfold rd_Edge
        rw [Int.toNat_natCast, take_snoc' xa1 k zEdge hlt, List.flatMap_append, goE_append, List.flatMap_cons, List.flatMap_nil, List.append_nil]
      have hsk : src < (goE st ((xa1.take k).flatMap (fun e => eatAt e pap xb1)) src).all.length := Int.lt_of_lt_of_le hs.2 (Int.ofNat_le.2 (goE_len _ _ _))
      have HRG := Aside0.mk hrg
      have HIN2 := Aside0.mk hin
      have hk0 : (0 : Int) ≤ k := by omega
      have hk1 : (k : Int) < xa1.length := by omega
      clear hmem hrg hin
      generalize goE st ((xa1.take k).flatMap (fun e => eatAt e pap xb1)) src = stk at *
      generalize rd_Edge xa1 (k : Int) = e at *
      obtain ⟨le, he, te⟩ := e
      unfold EdgeOk at heo
      dsimp only at a0 a1 a2 heo
      -- the box of the first edge
      have hbE := below_alloc (RowKit.Below.refl wr.heap.size wr) (.cells #[.int .u8 le, .int .u8 he, .int .i64 te] 52)
      have hSE := HSk.out.more hbE (L' := fun k => (L k ∨ k = w.heap.size) ∨ k = wr.heap.size) (fun k hk => by
        rcases hk with hk | hk
        · exact .inl hk
        · exact .inr ⟨by omega, by simp; omega⟩)
      have hKE : Kept3 w2 (wr.alloc (.cells #[.int .u8 le, .int .u8 he, .int .i64 te] 52)) (fun k => L k ∨ k = w.heap.size) := HKk.out.trans (fun k hk => hbE.block k (HSk.out.g0.2.2.2.2 k hk))
      have bE := Blk.new wr 52 #[.int .u8 le, .int .u8 he, .int .i64 te]
      have bPk := blk_kept3 HP2.out hKE (.inr rfl)
      have p0 := bPk.cell 0
      have p1 := bPk.cell 1
      have p2 := bPk.cell 2
      have hSE' := hSE
      obtain ⟨_, _, _, v1, v3, D, bS, _⟩ := hSE'
      have f0 := bS.cell 0
      simp only [List.getElem?_toArray, List.getElem?_cons_zero, List.getElem?_cons_succ] at p0 p1 p2 f0
      have y1 := (HY.out _ hSE.bel).2.1
      have HSE := Aside0.mk hSE
      have HKE := Aside0.mk hKE
      have HBE := Aside0.mk bE
      have HEL : Aside0 (wr.heap.size < (wr.alloc (.cells #[.int .u8 le, .int .u8 he, .int .i64 te] 52)).heap.size) := ⟨by simp⟩
      clear hbE hSE hKE bE bPk bS
      go_wp2_with fail
      go_quiet (fail)
      go_wp2_with fail
      have HS3 := Aside0.mk (HSE.out.drew nq)
      have HB3 : Aside0 (Blk ((wr.alloc (.cells #[.int .u8 le, .int .u8 he, .int .i64 te] 52)).drewN nq) wr.heap.size 52 #[.int .u8 le, .int .u8 he, .int .i64 te]) := ⟨HBE.out⟩
      have HK3 : Aside0 (Kept3 w2 ((wr.alloc (.cells #[.int .u8 le, .int .u8 he, .int .i64 te] 52)).drewN nq) (fun k => L k ∨ k = w.heap.size)) := ⟨HKE.out⟩
      clear HSE HBE HKE y1 p0 p1 p2 f0 a0 a1 a2 HEL
      generalize (wr.alloc (.cells #[.int .u8 le, .int .u8 he, .int .i64 te] 52)).drewN nq = w3 at *
      obtain ⟨w9, rfl⟩ : ∃ w9 : World, w9 = wr := ⟨_, rfl⟩
      go_loopw [35] (fun jv wq => ∃ j : Nat, j ≤ xb1.length ∧ jv = .int .i64 j ∧ Aside0 (SrAt w0 wq m g gm (some ad) c (fun k => (L k ∨ k = w.heap.size) ∨ k = w9.heap.size) (goE stk (eatAt ⟨le, he, te⟩ pap (xb1.take j)) src)) ∧ Aside0 (Kept3 w3 wq (fun k => (L k ∨ k = w.heap.size) ∨ k = w9.heap.size))) (fun jv _ => xb1.length - (intOf jv).toNat)
      case atStart => exact ⟨0, Nat.zero_le _, rfl, HS3, ⟨Kept3.refl _ _⟩⟩
      case round =>
        obtain ⟨j, hj, rfl, HSj, HKj⟩ := hrel
        by_cases hjl : j < xb1.length
        · obtain ⟨ao, hAo, o0, o1, o2⟩ := at_Edge (Kd.C_below HGB.out HSj.out.bel) j (by omega) (by omega)
          simp only [Int.toNat_natCast] at o0 o1 o2
          subst hAo
          have hmem : rd_Edge xb1 (j : Int) ∈ xb1 := by unfold rd_Edge; rw [Int.toNat_natCast]; exact getD_mem _ _ _ hjl
          have hoo := HEB.out _ hmem
          have hst := eatAt_step ⟨le, he, te⟩ pap xb1 j hjl
          have hin2 : bothB ⟨le, he, te⟩ (rd_Edge xb1 (j : Int)) = true → PrAt m ⟨te, (rd_Edge xb1 (j : Int)).f2, pap⟩ ∧ 0 ≤ max le (rd_Edge xb1 (j : Int)).f0 ∧ max le (rd_Edge xb1 (j : Int)).f0 ≤ 255 := fun hb => HIN2.out _ (List.mem_map.2 ⟨_, List.mem_filter.2 ⟨hmem, hb⟩, rfl⟩)
          have hsj : src < (goE stk (eatAt ⟨le, he, te⟩ pap (xb1.take j)) src).all.length := Int.lt_of_lt_of_le hsk (Int.ofNat_le.2 (goE_len _ _ _))
          have hst2 : goE stk (eatAt ⟨le, he, te⟩ pap (xb1.take (j + 1))) src = goE (goE stk (eatAt ⟨le, he, te⟩ pap (xb1.take j)) src) (if bothB ⟨le, he, te⟩ (rd_Edge xb1 (j : Int)) = true then [(⟨te, (rd_Edge xb1 (j : Int)).f2, pap⟩, max le (rd_Edge xb1 (j : Int)).f0)] else []) src := by rw [hst, goE_append]
          have HST := Aside0.mk hst2
          have HIN3 := Aside0.mk hin2
          have hj0 : (0 : Int) ≤ j := by omega
          have hj1 : (j : Int) < xb1.length := by omega
          clear hmem hst hst2 hin2
          generalize goE stk (eatAt ⟨le, he, te⟩ pap (xb1.take j)) src = stj at *
          generalize rd_Edge xb1 (j : Int) = o at *
          obtain ⟨lo, ho, ot⟩ := o
          unfold EdgeOk at hoo
          dsimp only at o0 o1 o2 hoo
          have bEk := blk_kept3 HB3.out HKj.out (.inr rfl)
          have bPk := blk_kept3 (blk_kept3 HP2.out HK3.out (.inr rfl)) HKj.out (.inl (.inr rfl))
          have t0 := bEk.cell 0
          have t1 := bEk.cell 1
          have t2 := bEk.cell 2
          have p2 := bPk.cell 2
          simp only [List.getElem?_toArray, List.getElem?_cons_zero, List.getElem?_cons_succ] at t0 t1 t2 p2
          have hbO := below_alloc (RowKit.Below.refl wr.heap.size wr) (.cells #[.int .u8 lo, .int .u8 ho, .int .i64 ot] 52)
          have u0 := (hbO.cell (World.block_lt_of_cell? _ _ t0)).trans t0
          have u1 := (hbO.cell (World.block_lt_of_cell? _ _ t1)).trans t1
          have u2 := (hbO.cell (World.block_lt_of_cell? _ _ t2)).trans t2
          have u3 := (hbO.cell (World.block_lt_of_cell? _ _ p2)).trans p2
          have HSO := Aside0.mk (HSj.out.more hbO (L' := fun k => (L k ∨ k = w.heap.size) ∨ k = w9.heap.size) (fun k hk => .inl hk))
          have HKO : Aside0 (Kept3 w3 (wr.alloc (.cells #[.int .u8 lo, .int .u8 ho, .int .i64 ot] 52)) (fun k => (L k ∨ k = w.heap.size) ∨ k = w9.heap.size)) := ⟨HKj.out.trans (fun k hk => hbO.block k (HSj.out.g0.2.2.2.2 k hk))⟩
          clear hbO bEk bPk t0 t1 t2 p2
          by_cases hb : max le lo ≤ min he ho
          · have hbb : bothB ⟨le, he, te⟩ ⟨lo, ho, ot⟩ = true := decide_eq_true hb
            have d0 : decide (max le lo ≤ min he ho) = true := decide_eq_true hb
            obtain ⟨hq, hc1, hc2⟩ := HIN3.out hbb
            have HST2 := Aside0.mk (HST.out.trans (congrArg (fun l => goE stj l src) (if_pos hbb)))
            clear hb hbb HST
            go_wp2_with fail
            refine (HRC.out _ _ _ ⟨te, ot, pap⟩ (max le lo) hq ⟨hs.1, hsj⟩ ⟨hc1, hc2⟩ HSO.out).mono ?_
            rintro e w7 ⟨rfl, hS7, hK7⟩
            go_wp2_with fail
            exact ⟨⟨j + 1, by omega, by go_num, ⟨by rw [HST2.out]; exact hS7⟩, ⟨HKO.out.trans hK7⟩⟩, by simp [intOf]; omega⟩
          · have hbb : ¬ bothB ⟨le, he, te⟩ ⟨lo, ho, ot⟩ = true := by unfold bothB; rw [decide_eq_false hb]; simp
            have d0 : decide (max le lo ≤ min he ho) = false := decide_eq_false hb
            have HST2 := Aside0.mk (HST.out.trans (congrArg (fun l => goE stj l src) (if_neg hbb)))
            clear hb hbb HST
            go_wp2_with fail
            exact ⟨⟨j + 1, by omega, by go_num, ⟨by rw [HST2.out]; exact HSO.out⟩, HKO⟩, by simp [intOf]; omega⟩
        · obtain rfl : j = xb1.length := by omega
          go_wp2_with fail
          refine ⟨⟨k + 1, by omega, by go_num, ⟨?_⟩, ⟨HK3.out.trans (HKj.out.less (fun k hk => .inl hk))⟩⟩, by simp [intOf]; omega⟩
          rw [HRG.out]
          have := HSj.out.more (RowKit.Below.refl _ _) (L' := fun k => L k ∨ k = w.heap.size) (fun k hk => .inl (.inl hk))
          rwa [List.take_length] at this
    · obtain rfl : k = xa1.length := by omega
      go_wp2_with fail
      go_end0
      refine ⟨rfl, ?_, HK2.out.trans (HKk.out.less (fun k hk => .inl hk))⟩
      have := HSk.out.more (RowKit.Below.refl _ _) (L' := L) (fun k hk => .inl (.inl hk))
      rwa [List.take_length] at this

end Go.Proofs.Ytcbflajacioinaa
