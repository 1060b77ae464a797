/- The document's May, evaluated: it is mayB. -/
import Derived.Test.YtcbflajacioinaaPx3
import Derived.Test.YtcbflajacioinaaFewP
import Derived.Test.YtcbflajacioinaaFindOf
import Derived.Test.YtcbflajacioinaaWayR
namespace Go.Proofs.Ytcbflajacioinaa
open Go.RowKit Go.Proofs.YtcbflajacioinaaW.PrintWords Go.Proofs.YtcbflajacioinaaW.PrintLast Go.Proofs.Ytcbflajacioinaa.P

theorem Ev_pos {α : Type} {c : Prop} [Decidable c] {g f : Nat → Option α} {r : α} (h : c) (k : Ev g r) : Ev (fun n => if c then g n else f n) r := Ev.congr (fun _ => if_pos h) k
theorem Ev_neg {α : Type} {c : Prop} [Decidable c] {g f : Nat → Option α} {r : α} (h : ¬ c) (k : Ev f r) : Ev (fun n => if c then g n else f n) r := Ev.congr (fun _ => if_neg h) k
theorem Ev_succ {α : Type} {g : Nat → Option α} {r : α} (h : Ev (fun n => g (n + 1)) r) : Ev g r := Ev.step (fun _ => rfl) h

/-! #### the document's eater -/
def apartB (a b : S72) : Bool := !(decide (a.f0 ≤ b.f1) && decide (b.f0 ≤ a.f1))
def edgeB (n : Int) (L : List S72) (i : Nat) : Bool := edgeGood n (toEdge (rd_T72 L i)) && (List.range i).all (fun j => apartB (rd_T72 L i) (rd_T72 L j))

theorem eater_l1 (n x0 x3 x4 : Int) (L : List S72) (F : List Int) (i : Nat) (hi : i < L.length) (hL : L.length ≤ 1000000) (R : Bool)
    (hR : Ev (fun k => phalaroperef16_eater.l0 k n ((i : Int) + 1) x0 L F x3 x4) R) :
    ∀ (d j : Nat), i - j = d → j ≤ i → Ev (fun k => phalaroperef16_eater.l1 k n i j x0 L F x3 x4 (rd_T72 L i).f0 (rd_T72 L i).f1 (rd_T72 L i).f2) ((List.range' j d).all (fun j => apartB (rd_T72 L i) (rd_T72 L j)) && R) := by
  intro d
  induction d with
  | zero =>
    intro j hd hj
    obtain rfl : j = i := by omega
    refine Ev.step (fun k => by rw [phalaroperef16_eater.l1, if_neg (by omega), w64 _ (by omega)]) ?_
    simpa using hR
  | succ d ih =>
    intro j hd hj
    have hji : j < i := by omega
    have ih := ih (j + 1) (by omega) (by omega)
    rw [show ((j + 1 : Nat) : Int) = (j : Int) + 1 from rfl] at ih
    rw [List.range'_succ, List.all_cons]
    by_cases h1 : (rd_T72 L i).f0 ≤ (rd_T72 L j).f1
    · by_cases h2 : (rd_T72 L j).f0 ≤ (rd_T72 L i).f1
      · have ha : apartB (rd_T72 L i) (rd_T72 L j) = false := by unfold apartB; simp [h1, h2]
        rw [ha]
        refine Ev.step (fun k => by rw [phalaroperef16_eater.l1, if_pos (by omega), if_pos (by omega), if_pos (by omega), if_pos h1, if_pos h2]) ?_
        exact Ev.now false
      · have ha : apartB (rd_T72 L i) (rd_T72 L j) = true := by unfold apartB; simp [h2]
        rw [ha, Bool.true_and]
        refine Ev.step (fun k => by rw [phalaroperef16_eater.l1, if_pos (by omega), if_pos (by omega), if_pos (by omega), if_pos h1, if_neg h2, w64 _ (by omega)]) ih
    · have ha : apartB (rd_T72 L i) (rd_T72 L j) = true := by unfold apartB; simp [h1]
      rw [ha, Bool.true_and]
      refine Ev.step (fun k => by rw [phalaroperef16_eater.l1, if_pos (by omega), if_pos (by omega), if_pos (by omega), if_neg h1, w64 _ (by omega)]) ih

theorem eater_l0 (n x0 x3 x4 : Int) (L : List S72) (F : List Int) (hL : L.length ≤ 1000000) :
    ∀ (d i : Nat), L.length - i = d → i ≤ L.length → Ev (fun k => phalaroperef16_eater.l0 k n i x0 L F x3 x4) ((List.range' i d).all (edgeB n L) && (decide (F.length = 0) && (x4 == 0))) := by
  intro d
  induction d with
  | zero =>
    intro i hd hi
    obtain rfl : i = L.length := by omega
    simp only [List.range'_zero, List.all_nil, Bool.true_and]
    by_cases hF : F.length = 0
    · rw [decide_eq_true hF, Bool.true_and]
      refine Ev.step (fun k => by rw [phalaroperef16_eater.l0, if_neg (by omega), if_pos (by omega)]) (Ev.now _)
    · rw [decide_eq_false hF, Bool.false_and]
      refine Ev.step (fun k => by rw [phalaroperef16_eater.l0, if_neg (by omega), if_neg (by omega)]) (Ev.now _)
  | succ d ih =>
    intro i hd hi
    have hlt : i < L.length := by omega
    have ih := ih (i + 1) (by omega) (by omega)
    rw [show ((i + 1 : Nat) : Int) = (i : Int) + 1 from rfl] at ih
    rw [List.range'_succ, List.all_cons, Bool.and_assoc]
    unfold edgeB
    by_cases h1 : (rd_T72 L i).f0 > (rd_T72 L i).f1
    · have hg : edgeGood n (toEdge (rd_T72 L i)) = false := by unfold edgeGood toEdge; simp; omega
      rw [hg, Bool.false_and, Bool.false_and]
      refine Ev.step (fun k => by rw [phalaroperef16_eater.l0, if_pos (by omega), if_pos (by omega), if_pos h1]) ?_
      refine Ev.step (fun k => by rw [phalaroperef16_eater.j1, if_pos rfl]) (Ev.now _)
    · by_cases h2 : (rd_T72 L i).f2 < 0
      · have hg : edgeGood n (toEdge (rd_T72 L i)) = false := by unfold edgeGood toEdge; simp; omega
        rw [hg, Bool.false_and, Bool.false_and]
        refine Ev.step (fun k => by rw [phalaroperef16_eater.l0, if_pos (by omega), if_pos (by omega), if_neg h1, if_pos h2]) ?_
        refine Ev.step (fun k => by rw [phalaroperef16_eater.j1, if_pos rfl]) (Ev.now _)
      · by_cases h3 : (rd_T72 L i).f2 ≥ n
        · have hg : edgeGood n (toEdge (rd_T72 L i)) = false := by unfold edgeGood toEdge; simp; omega
          rw [hg, Bool.false_and, Bool.false_and]
          refine Ev.step (fun k => by rw [phalaroperef16_eater.l0, if_pos (by omega), if_pos (by omega), if_neg h1, if_neg h2, decide_eq_true h3]) ?_
          refine Ev.step (fun k => by rw [phalaroperef16_eater.j1, if_pos rfl]) (Ev.now _)
        · have hg : edgeGood n (toEdge (rd_T72 L i)) = true := by unfold edgeGood toEdge; simp; omega
          rw [hg, Bool.true_and]
          refine Ev.step (fun k => by rw [phalaroperef16_eater.l0, if_pos (by omega), if_pos (by omega), if_neg h1, if_neg h2, decide_eq_false h3]) ?_
          refine Ev.step (fun k => by rw [phalaroperef16_eater.j1, if_neg (by simp)]) ?_
          have := eater_l1 n x0 x3 x4 L F i hlt hL _ ih i 0 (by omega) (by omega)
          rw [List.range_eq_range']
          exact this

theorem rd_T72_get {L : List S72} {i : Nat} (h : i < L.length) : rd_T72 L (i : Int) = L[i] := by
  unfold rd_T72; rw [Int.toNat_natCast, List.getD_eq_getElem?_getD, List.getElem?_eq_getElem h]; rfl
theorem edges_all (n : Int) (L : List S72) : (List.range L.length).all (edgeB n L) = eatsB n (L.map toEdge) := by
  rw [Bool.eq_iff_iff]
  unfold eatsB
  simp only [List.all_eq_true, List.mem_range, Bool.and_eq_true, decide_eq_true_eq, List.mem_map, forall_exists_index, and_imp, forall_apply_eq_imp_iff₂]
  have hap : ∀ a b : S72, apartB a b = true ↔ edgesApart (toEdge b) (toEdge a) := fun a b => by
    unfold apartB edgesApart toEdge
    simp <;> omega
  constructor
  · intro h
    refine ⟨fun x hx => ?_, ?_⟩
    · obtain ⟨i, hi, rfl⟩ := List.mem_iff_getElem.1 hx
      have h1 := h i hi
      unfold edgeB at h1
      rw [Bool.and_eq_true, rd_T72_get hi] at h1
      exact h1.1
    · rw [List.pairwise_iff_getElem]
      intro i j hi hj hij
      simp only [List.length_map] at hi hj
      have h1 := h j hj
      unfold edgeB at h1
      rw [Bool.and_eq_true, List.all_eq_true] at h1
      have h2 := h1.2 i (List.mem_range.2 hij)
      rw [rd_T72_get hi, rd_T72_get hj] at h2
      simpa using (hap _ _).1 h2
  · rintro ⟨h1, h2⟩ i hi
    unfold edgeB
    rw [Bool.and_eq_true, List.all_eq_true, rd_T72_get hi]
    refine ⟨h1 _ (List.getElem_mem hi), fun j hj => ?_⟩
    have hj := List.mem_range.1 hj
    rw [rd_T72_get (by omega), hap]
    rw [List.pairwise_iff_getElem] at h2
    have h3 := h2 j i (by simp; omega) (by simpa using hi) hj
    rw [List.getElem_map, List.getElem_map] at h3
    exact h3

theorem eater_eval (n x0 x3 x4 : Int) (L : List S72) (F : List Int) (hL : L.length ≤ 1000000) : Ev (fun k => phalaroperef16_eater.f k x0 L F x3 x4 n) (eatsB n (L.map toEdge) && (decide (F.length = 0) && (x4 == 0))) := by
  have h := eater_l0 n x0 x3 x4 L F hL L.length 0 (by omega) (by omega)
  rw [← List.range_eq_range', edges_all] at h
  exact h

/-! #### the document's May -/
def forkB (n i : Int) (x0 t : Int) : Bool := x0 == 2 && decide (i < t) && decide (t < n)
def nodeB (n i : Int) (x : S35) : Bool := decide (1 ≤ x.f0) && decide (x.f0 ≤ 4) && (if x.f0 = 1 then eatsB n (x.f1.map toEdge) && (decide (x.f2.length = 0) && (x.f4 == 0)) else decide (x.f1.length = 0)) && x.f2.all (forkB n i x.f0) && (if x.f0 = 3 then decide (i < x.f4) && decide (x.f4 < n) else x.f4 == 0)
theorem nodeB_right (n i : Int) (x : S35) : nodeB n i x = rightB (toNode x) i n := by
  rw [Bool.eq_iff_iff]
  unfold nodeB rightB upB toNode forkB
  dsimp only
  have hfe : ∀ l : List Int, l.length = 0 ↔ l = [] := fun l => List.length_eq_zero_iff
  by_cases h1 : x.f0 = 1
  · simp [h1]
    constructor
    · rintro ⟨⟨⟨a, b, c⟩, d⟩, e⟩; exact ⟨⟨b, c⟩, a⟩
    · rintro ⟨⟨b, c⟩, a⟩
      exact ⟨⟨⟨a, b, c⟩, fun t ht => by rw [b] at ht; cases ht⟩, c⟩
  · by_cases h2 : x.f0 = 2
    · simp [h2]
      constructor
      · rintro ⟨⟨a, b⟩, c⟩; exact ⟨⟨a, c⟩, b⟩
      · rintro ⟨⟨a, c⟩, b⟩; exact ⟨⟨a, b⟩, c⟩
    · by_cases h3 : x.f0 = 3
      · simp [h3]
        intro _ _ _
        exact ⟨fun b => List.eq_nil_iff_forall_not_mem.2 b, fun b t ht => by rw [b] at ht; cases ht⟩
      · by_cases h4 : x.f0 = 4
        · simp [h4]
          intro _ _
          exact ⟨fun b => List.eq_nil_iff_forall_not_mem.2 b, fun b t ht => by rw [b] at ht; cases ht⟩
        · simp [h1, h2, h3, h4]
          omega

theorem may_l1 (l : List S35) (i : Nat) (hi : i < l.length) (hl : l.length ≤ 1000) (x0 : Int) (E : List S72) (F : List Int) (x3 x4 : Int) (hF : F.length ≤ 1000000) (R : Bool) (hR : Ev (fun k => phalaroperef16_May.l0 k l ((i : Int) + 1)) R) :
    ∀ (d j : Nat), F.length - j = d → j ≤ F.length → Ev (fun k => phalaroperef16_May.l1 k l i j x0 E F x3 x4) ((F.drop j).all (forkB l.length i x0) && ((if x0 = 3 then decide ((i : Int) < x4) && decide (x4 < l.length) else x4 == 0) && R)) := by
  intro d
  induction d with
  | zero =>
    intro j hd hj
    obtain rfl : j = F.length := by omega
    rw [List.drop_length, List.all_nil, Bool.true_and]
    by_cases h3 : x0 = 3
    · rw [if_pos h3]
      by_cases h4 : x4 ≤ i
      · rw [decide_eq_false (by omega : ¬ (i : Int) < x4), Bool.false_and, Bool.false_and]
        exact Ev.step (fun k => by rw [phalaroperef16_May.l1, if_neg (by omega), if_pos h3, if_pos h4]) (Ev.now _)
      · rw [decide_eq_true (by omega : (i : Int) < x4), Bool.true_and]
        by_cases h5 : x4 ≥ l.length
        · rw [decide_eq_false (by omega : ¬ x4 < (l.length : Int)), Bool.false_and]
          exact Ev.step (fun k => by rw [phalaroperef16_May.l1, if_neg (by omega), if_pos h3, if_neg h4, if_pos h5]) (Ev.now _)
        · rw [decide_eq_true (by omega : x4 < (l.length : Int)), Bool.true_and]
          exact Ev.step (fun k => by rw [phalaroperef16_May.l1, if_neg (by omega), if_pos h3, if_neg h4, if_neg h5, w64 _ (by omega)]) hR
    · rw [if_neg h3]
      by_cases h4 : x4 = 0
      · rw [beq_iff_eq.2 h4, Bool.true_and]
        exact Ev.step (fun k => by rw [phalaroperef16_May.l1, if_neg (by omega), if_neg h3, if_pos h4, w64 _ (by omega)]) hR
      · rw [beq_eq_false_iff_ne.2 h4, Bool.false_and]
        exact Ev.step (fun k => by rw [phalaroperef16_May.l1, if_neg (by omega), if_neg h3, if_neg h4]) (Ev.now _)
  | succ d ih =>
    intro j hd hj
    have hlt : j < F.length := by omega
    have ih := ih (j + 1) (by omega) (by omega)
    rw [show ((j + 1 : Nat) : Int) = (j : Int) + 1 from rfl] at ih
    have hrd : rd F (j : Int) = F[j] := by unfold rd; rw [Int.toNat_natCast, List.getD_eq_getElem?_getD, List.getElem?_eq_getElem hlt]; rfl
    rw [List.drop_eq_getElem_cons hlt, List.all_cons]
    by_cases h2 : x0 = 2
    · by_cases h4 : F[j] ≤ (i : Int)
      · have : forkB l.length i x0 F[j] = false := by unfold forkB; simp [h2]; omega
        rw [this, Bool.false_and, Bool.false_and]
        exact Ev.step (fun k => by rw [phalaroperef16_May.l1, if_pos (by omega), if_pos h2, if_pos (by omega), hrd, if_pos h4]) (Ev.now _)
      · by_cases h5 : F[j] ≥ (l.length : Int)
        · have : forkB l.length i x0 F[j] = false := by unfold forkB; simp [h2]; omega
          rw [this, Bool.false_and, Bool.false_and]
          exact Ev.step (fun k => by rw [phalaroperef16_May.l1, if_pos (by omega), if_pos h2, if_pos (by omega), hrd, if_neg h4, if_pos h5]) (Ev.now _)
        · have : forkB l.length i x0 F[j] = true := by unfold forkB; simp [h2]; omega
          rw [this, Bool.true_and]
          exact Ev.step (fun k => by rw [phalaroperef16_May.l1, if_pos (by omega), if_pos h2, if_pos (by omega), hrd, if_neg h4, if_neg h5, w64 _ (by omega)]) ih
    · have : forkB l.length i x0 F[j] = false := by unfold forkB; simp [h2]
      rw [this, Bool.false_and, Bool.false_and]
      exact Ev.step (fun k => by rw [phalaroperef16_May.l1, if_pos (by omega), if_neg h2]) (Ev.now _)

theorem may_l0 (l : List S35) (hl : l.length ≤ 1000) (hx : ∀ x ∈ l, x.f1.length ≤ 1000000 ∧ x.f2.length ≤ 1000000) :
    ∀ (d i : Nat), l.length - i = d → i ≤ l.length → Ev (fun k => phalaroperef16_May.l0 k l i) ((List.range' i d).all (fun i => nodeB l.length i (rd_T35 l i)) && decide (1 ≤ l.length)) := by
  intro d
  induction d with
  | zero =>
    intro i hd hi
    obtain rfl : i = l.length := by omega
    simp only [List.range'_zero, List.all_nil, Bool.true_and]
    refine Ev.step (fun k => by rw [phalaroperef16_May.l0, if_neg (by omega)]) ?_
    by_cases h1 : 1 ≤ l.length
    · rw [decide_eq_true h1]
      exact Ev.step (fun k => by rw [phalaroperef16_May.j1, if_neg (by simp), if_pos (by omega), decide_eq_true (by omega)]) (Ev.now _)
    · rw [decide_eq_false h1]
      exact Ev.step (fun k => by rw [phalaroperef16_May.j1, if_neg (by simp), if_neg (by omega)]) (Ev.now _)
  | succ d ih =>
    intro i hd hi
    have hlt : i < l.length := by omega
    have ih := ih (i + 1) (by omega) (by omega)
    rw [show ((i + 1 : Nat) : Int) = (i : Int) + 1 from rfl] at ih
    rw [List.range'_succ, List.all_cons, Bool.and_assoc]
    have hg : rd_T35 l (i : Int) = l[i] := by unfold rd_T35; rw [Int.toNat_natCast, List.getD_eq_getElem?_getD, List.getElem?_eq_getElem hlt]; rfl
    obtain ⟨hE, hF⟩ := hx _ (List.getElem_mem hlt)
    refine Ev.step (fun k => by rw [phalaroperef16_May.l0, if_pos (by omega), decide_eq_true (by omega)]) ?_
    generalize ((List.range' (i + 1) d).all (fun i => nodeB l.length i (rd_T35 l i)) && decide (1 ≤ l.length)) = R at ih ⊢
    have hj2 : ∀ b : Bool, Ev (fun k => phalaroperef16_May.j2 k l i b (rd_T35 l i).f0 (rd_T35 l i).f1 (rd_T35 l i).f2 (rd_T35 l i).f3 (rd_T35 l i).f4) (!b && (((rd_T35 l i).f2.all (forkB l.length i (rd_T35 l i).f0)) && ((if (rd_T35 l i).f0 = 3 then decide ((i : Int) < (rd_T35 l i).f4) && decide ((rd_T35 l i).f4 < l.length) else (rd_T35 l i).f4 == 0) && R))) := fun b => by
      cases b
      · refine Ev.step (fun k => by rw [phalaroperef16_May.j2, if_neg (by simp)]) ?_
        have := may_l1 l i hlt hl (rd_T35 l i).f0 (rd_T35 l i).f1 (rd_T35 l i).f2 (rd_T35 l i).f3 (rd_T35 l i).f4 (by rw [hg]; exact hF) R ih _ 0 rfl (Nat.zero_le _)
        simpa using this
      · rw [Bool.not_true, Bool.false_and]
        exact Ev.step (fun k => by rw [phalaroperef16_May.j2, if_pos rfl]) (Ev.now _)
    unfold nodeB
    have hE' : (rd_T35 l i).f1.length ≤ 1000000 := by rw [hg]; exact hE
    generalize hxe : rd_T35 l (i : Int) = x at hj2 hE' ⊢
    by_cases h1 : x.f0 < 1
    · rw [decide_eq_false (by omega : ¬ 1 ≤ x.f0)]
      simp only [Bool.false_and]
      have := hj2 true
      refine Ev.step (fun k => by rw [phalaroperef16_May.j1, if_pos rfl, if_pos (by omega), if_pos (by omega), hxe, if_pos h1]) (by simpa using this)
    · rw [decide_eq_true (by omega : 1 ≤ x.f0), Bool.true_and]
      by_cases h4 : x.f0 > 4
      · rw [decide_eq_false (by omega : ¬ x.f0 ≤ 4)]
        simp only [Bool.false_and]
        have := hj2 true
        refine Ev.step (fun k => by rw [phalaroperef16_May.j1, if_pos rfl, if_pos (by omega), if_pos (by omega), hxe, if_neg h1, if_pos h4]) (by simpa using this)
      · rw [decide_eq_true (by omega : x.f0 ≤ 4), Bool.true_and]
        by_cases hk : x.f0 = 1
        · refine Ev.step (fun k => by rw [phalaroperef16_May.j1, if_pos rfl, if_pos (by omega), if_pos (by omega), hxe, if_neg h1, if_neg h4, if_pos hk]) ?_
          refine Ev.bind (eater_eval l.length x.f0 x.f3 x.f4 x.f1 x.f2 hE') ?_
          have := hj2 (!(eatsB l.length (x.f1.map toEdge) && (decide (x.f2.length = 0) && (x.f4 == 0))))
          rw [if_pos hk]
          simpa only [Bool.not_not, Bool.and_assoc] using this
        · rw [if_neg hk]
          by_cases h0 : (x.f1.length : Int) > 0
          · rw [decide_eq_false (by omega : ¬ x.f1.length = 0)]
            simp only [Bool.false_and]
            have := hj2 true
            refine Ev.step (fun k => by rw [phalaroperef16_May.j1, if_pos rfl, if_pos (by omega), if_pos (by omega), hxe, if_neg h1, if_neg h4, if_neg hk, if_pos h0]) (by simpa using this)
          · rw [decide_eq_true (by omega : x.f1.length = 0), Bool.true_and]
            have := hj2 false
            refine Ev.step (fun k => by rw [phalaroperef16_May.j1, if_pos rfl, if_pos (by omega), if_pos (by omega), hxe, if_neg h1, if_neg h4, if_neg hk, if_neg h0]) (by simpa only [Bool.not_false, Bool.true_and, Bool.and_assoc] using this)

theorem node_of {l : List S35} {i : Nat} (hi : i < l.length) : rd_Node (madeL l) (i : Int) = toNode (rd_T35 l (i : Int)) := by
  unfold rd_Node rd_T35 madeL
  rw [Int.toNat_natCast, List.getD_eq_getElem?_getD, List.getElem?_map, List.getElem?_eq_getElem hi, List.getD_eq_getElem?_getD, List.getElem?_eq_getElem hi]
  rfl
theorem made_len (l : List S35) : (madeL l).length = l.length := by simp [madeL]

theorem may_eval (l : List S35) (hl : l.length ≤ 1000) (hx : ∀ x ∈ l, x.f1.length ≤ 1000000 ∧ x.f2.length ≤ 1000000) : Ev (fun k => phalaroperef16_May.f k l) (mayB (madeL l)) := by
  have h := may_l0 l hl hx l.length 0 (by omega) (by omega)
  have e : ((List.range' 0 l.length).all (fun i => nodeB l.length i (rd_T35 l i)) && decide (1 ≤ l.length)) = mayB (madeL l) := by
    unfold mayB
    rw [made_len, decide_eq_true (by omega : l.length ≤ 100000), Bool.and_true, Bool.and_comm, ← List.range_eq_range']
    have e1 : (List.range l.length).all (fun i => nodeB l.length i (rd_T35 l i)) = (List.range l.length).all (fun i => rightB (rd_Node (madeL l) i) i l.length) := by
      rw [Bool.eq_iff_iff, List.all_eq_true, List.all_eq_true]
      refine ⟨fun h i hi => ?_, fun h i hi => ?_⟩
      · have := h i hi
        rw [node_of (List.mem_range.1 hi), ← nodeB_right]; exact this
      · have := h i hi
        rw [node_of (List.mem_range.1 hi), ← nodeB_right] at this; exact this
    rw [e1]
  rw [e] at h
  exact h

end Go.Proofs.Ytcbflajacioinaa
