/- The document's ways through a machine, evaluated: they are the program's. -/
import Derived.Test.YtcbflajacioinaaTellsM
import Derived.Test.YtcbflajacioinaaPx5
import Derived.Test.YtcbflajacioinaaPx6
namespace Go.Proofs.Ytcbflajacioinaa
open Go.RowKit Go.Proofs.YtcbflajacioinaaW.PrintWords Go.Proofs.YtcbflajacioinaaW.PrintLast Go.Proofs.Ytcbflajacioinaa.P

def toHit (h : Hit) : S75 := ⟨h.f0, h.f1⟩
def ofHit (h : Hit) : S31 := ⟨h.f0, h.f1⟩

theorem tab_row {l : List S35} {s : ByteArray} {p : Int} (h0 : 0 ≤ p) (h1 : p ≤ s.size) : P.rd_L4 (tabL l s) p = rowL l s p.toNat := by
  unfold P.rd_L4 tabL
  rw [List.getD_eq_getElem?_getD, List.getElem?_map, List.getElem?_range (by omega)]
  rfl
theorem row_len (l : List S35) (s : ByteArray) (q : Nat) : (rowL l s q).length = l.length := by simp [rowL]
theorem tab_len (l : List S35) (s : ByteArray) : (tabL l s).length = s.size + 1 := by simp [tabL]
theorem tab_rd {l : List S35} {s : ByteArray} {p i : Int} (h0 : 0 ≤ p) (h1 : p ≤ s.size) (h2 : 0 ≤ i) (h3 : i < l.length) : rd (P.rd_L4 (tabL l s) p) i = manyP (madeL l) s ⟨i, p⟩ := by
  rw [tab_row h0 h1]
  unfold rd rowL
  rw [List.getD_eq_getElem?_getD, List.getElem?_map, List.getElem?_range (by omega)]
  simp [Int.toNat_of_nonneg h0, Int.toNat_of_nonneg h2]
theorem tab_ok {l : List S35} {s : ByteArray} (hf : FewP l s) (hm : mayB (madeL l) = true) : tabOk l s = true := by
  obtain ⟨h1, h2, h3⟩ := hf
  unfold tabOk
  rw [hm, decide_eq_true (by omega), decide_eq_true (by omega), Bool.true_and, Bool.true_and, Bool.true_and, List.all_eq_true]
  intro x hx
  obtain ⟨a, b⟩ := h2 x hx
  rw [decide_eq_true (by omega), decide_eq_true (by omega)]; rfl
theorem tab_eval {l : List S35} {s : ByteArray} (hf : FewP l s) (hm : mayB (madeL l) = true) : Ev (fun k => phalaroperef17_Table.f k l s) (tabL l s) :=
  Ev.congr (fun k => by unfold phalaroperef17_Table.f; rw [if_pos (tab_ok hf hm)]) (Ev.now _)
theorem few_may {l : List S35} {s : ByteArray} (hf : FewP l s) : Ev (fun k => phalaroperef16_May.f k l) (mayB (madeL l)) :=
  may_eval l (by have := hf.1; omega) (fun x hx => by have := hf.2.1 x hx; omega)

theorem many_eval {l : List S35} {s : ByteArray} (hf : FewP l s) (kk : Int) : Ev (fun k => phalaroperef17_Many.f k l s kk) (manyOut (madeL l) s kk) := by
  unfold phalaroperef17_Many.f
  refine Ev.bind (few_may hf) ?_
  cases hm : mayB (madeL l)
  · have e : manyOut (madeL l) s kk = 0 := by unfold manyOut; rw [if_neg (by rw [hm]; simp)]
    rw [e]
    exact Ev_neg (by simp) (Ev.now _)
  · refine Ev_pos rfl ?_
    refine Ev.bind (tab_eval hf hm) ?_
    have hl := mayB_len hm
    rw [made_len] at hl
    refine Ev_pos (by rw [tab_len]; omega) ?_
    refine Ev_pos (by rw [tab_row (Int.le_refl _) (by omega), row_len]; omega) ?_
    rw [tab_rd (Int.le_refl _) (by omega) (Int.le_refl _) (by omega)]
    have e : manyOut (madeL l) s kk = mx 0 (mn kk (manyP (madeL l) s ⟨0, 0⟩)) := by
      have hr := manyP_range (madeL l) s ⟨0, 0⟩
      unfold manyOut mx mn
      by_cases h1 : 1 ≤ kk
      · rw [if_pos ⟨hm, h1⟩]; omega
      · rw [if_neg (fun h => h1 h.2)]; omega
    rw [e]
    exact Ev.now _

section
variable {l : List S35} {s : ByteArray}

theorem way_l1 (m : List Node) (p : Place) (F : List Int) (T : List (List Int)) (hT : ∀ t ∈ F, 0 ≤ t ∧ t < (P.rd_L4 T p.f1).length ∧ rd (P.rd_L4 T p.f1) t = manyP m s ⟨t, p.f1⟩) (hp : 0 ≤ p.f1 ∧ p.f1 < T.length) (hF : F.length ≤ 1000000)
    (out : List S75) (x0 : Int) (hx0 : x0 = 2) (E : List S72) (x3 x4 : Int) (PK : Place × Int) (R : List S75 × Bool)
    (hR : Ev (fun n => phalaroperef17_Way.l0 n l s PK.2 T out p.f1 PK.1.f0) R) :
    ∀ (d j : Nat) (k : Int), F.length - j = d → j ≤ F.length → 0 ≤ k → k ≤ 1000 → k < sumP m s ((F.drop j).map (fun t => (⟨t, p.f1⟩ : Place))) → pickP m s p ((F.drop j).map (fun t => (⟨t, p.f1⟩ : Place))) k = PK →
      Ev (fun n => phalaroperef17_Way.l1 n l s k T out p.f1 j x0 E F x3 x4) R := by
  intro d
  induction d with
  | zero =>
    intro j k hd hj h0 hk h1
    rw [List.drop_eq_nil_of_le (by omega)] at h1
    simp [sumP] at h1
    omega
  | succ d ih =>
    intro j k hd hj h0 hk h1 hpk
    have hlt : j < F.length := by omega
    have hrd : rd F (j : Int) = F[j] := by unfold rd; rw [Int.toNat_natCast, List.getD_eq_getElem?_getD, List.getElem?_eq_getElem hlt]; rfl
    obtain ⟨t0, t1, t2⟩ := hT _ (List.getElem_mem hlt)
    rw [List.drop_eq_getElem_cons hlt, List.map_cons] at h1 hpk
    rw [sumP_cons] at h1
    unfold pickP at hpk
    have hr := manyP_range m s ⟨F[j], p.f1⟩
    by_cases hc : k < manyP m s ⟨F[j], p.f1⟩
    · rw [if_pos hc] at hpk
      subst hpk
      refine Ev.step (fun n => by rw [phalaroperef17_Way.l1, if_pos hp.1, if_pos hp.2, if_pos (by omega), if_pos (by omega), hrd, if_pos t0, if_pos (by omega), t2, if_neg (by omega)]) ?_
      refine Ev.step (fun n => by rw [phalaroperef17_Way.j4, if_neg (by omega)]) ?_
      exact hR
    · rw [if_neg hc] at hpk
      refine Ev.step (fun n => by rw [phalaroperef17_Way.l1, if_pos hp.1, if_pos hp.2, if_pos (by omega), if_pos (by omega), hrd, if_pos t0, if_pos (by omega), t2, if_pos (by omega), w64 _ (by omega), w64 _ (by omega)]) ?_
      have := ih (j + 1) (k - manyP m s ⟨F[j], p.f1⟩) (by omega) (by omega) (by omega) (by omega) (by omega) hpk
      exact this

theorem rd_Edge_map (E : List S72) (j : Nat) (hj : j < E.length) : rd_Edge (E.map toEdge) (j : Int) = toEdge (rd_T72 E (j : Int)) := by
  unfold rd_Edge rd_T72
  rw [Int.toNat_natCast, List.getD_eq_getElem?_getD, List.getElem?_map, List.getElem?_eq_getElem hj, List.getD_eq_getElem?_getD, List.getElem?_eq_getElem hj]
  rfl

theorem way_l2 (p : Place) (E : List S72) (T : List (List Int)) (hp : 0 ≤ p.f1 ∧ p.f1 < s.size) (hs : s.size ≤ 1000000) (hE : E.length ≤ 1000000)
    (k : Int) (out : List S75) (x0 : Int) (F : List Int) (x3 x4 : Int) (R : List S75 × Bool) (i0 : Int)
    (hR : Ev (fun n => phalaroperef17_Way.l0 n l s k T out (p.f1 + 1) (foldTo s p.f1 i0 (E.map toEdge))) R) :
    ∀ (d j : Nat), E.length - j = d → j ≤ E.length → Ev (fun n => phalaroperef17_Way.l2 n l s k T out p.f1 (foldTo s p.f1 i0 ((E.map toEdge).take j)) j x0 E F x3 x4) R := by
  intro d
  induction d with
  | zero =>
    intro j hd hj
    obtain rfl : j = E.length := by omega
    refine Ev.step (fun n => by rw [phalaroperef17_Way.l2, if_neg (by omega), w64 _ (by omega)]) ?_
    rw [List.take_of_length_le (by simp)]
    exact hR
  | succ d ih =>
    intro j hd hj
    have hlt : j < E.length := by omega
    have ih := ih (j + 1) (by omega) (by omega)
    rw [show ((j + 1 : Nat) : Int) = (j : Int) + 1 from rfl, foldTo_step s p.f1 i0 (E.map toEdge) j (by simpa using hlt), rd_Edge_map E j hlt] at ih
    by_cases h1 : bt s p.f1 ≥ (rd_T72 E (j : Int)).f0
    · by_cases h2 : bt s p.f1 ≤ (rd_T72 E (j : Int)).f1
      · have ht : takesP s p.f1 (toEdge (rd_T72 E (j : Int))) = true := by unfold takesP toEdge; dsimp only; rw [decide_eq_true hp.2, decide_eq_true h1, decide_eq_true h2]; rfl
        rw [if_pos ht, show (toEdge (rd_T72 E (j : Int))).f2 = (rd_T72 E (j : Int)).f2 from rfl] at ih
        exact Ev.step (fun n => by rw [phalaroperef17_Way.l2, if_pos (by omega), if_pos hp.1, if_pos hp.2, if_pos (by omega), if_pos h1, if_pos h2, w64 _ (by omega)]) ih
      · have ht : ¬ takesP s p.f1 (toEdge (rd_T72 E (j : Int))) = true := by unfold takesP toEdge; dsimp only; rw [decide_eq_false h2]; simp
        rw [if_neg ht] at ih
        exact Ev.step (fun n => by rw [phalaroperef17_Way.l2, if_pos (by omega), if_pos hp.1, if_pos hp.2, if_pos (by omega), if_pos h1, if_neg h2, w64 _ (by omega)]) ih
    · have ht : ¬ takesP s p.f1 (toEdge (rd_T72 E (j : Int))) = true := by unfold takesP toEdge; dsimp only; rw [decide_eq_false h1]; simp
      rw [if_neg ht] at ih
      exact Ev.step (fun n => by rw [phalaroperef17_Way.l2, if_pos (by omega), if_pos hp.1, if_pos hp.2, if_pos (by omega), if_neg h1, w64 _ (by omega)]) ih

theorem way_l0 (hf : FewP l s) (hm : mayB (madeL l) = true) : ∀ (d : Nat) (p : Place) (k : Int) (out : List S75), muP (madeL l) s p < d → InP (madeL l) s p → 0 ≤ k → k < manyP (madeL l) s p → out.length + muP (madeL l) s p ≤ 1000000 →
    Ev (fun n => phalaroperef17_Way.l0 n l s k (tabL l s) out p.f1 p.f0) (out ++ (wayP (madeL l) s p k).map toHit, true) := by
  intro d
  induction d with
  | zero => intro p k out hd; omega
  | succ d ih =>
    intro p k out hd hp h0 h1 hb
    obtain ⟨hl, hx, hs⟩ := hf
    have hml := made_len l
    obtain ⟨p0, p1, p2, p3⟩ := hp
    have hpl : p.f0 < l.length := by omega
    have hpi : ((p.f0.toNat : Nat) : Int) = p.f0 := Int.toNat_of_nonneg p0
    have hnode : rd_Node (madeL l) p.f0 = toNode (rd_T35 l p.f0) := by rw [← hpi]; exact node_of (by omega)
    have hxl := hx (rd_T35 l p.f0) (by unfold rd_T35; rw [List.getD_eq_getElem?_getD, List.getElem?_eq_getElem (by omega)]; exact List.getElem_mem _)
    have hkr := manyP_range (madeL l) s p
    have hright := mayB_right hm p.f0 p0 p1
    by_cases hk4 : (rd_T35 l p.f0).f0 = 4
    · have he := kind4_ends hm ⟨p0, p1, p2, p3⟩ h0 h1 (by rw [hnode]; exact hk4)
      rw [wayP_end he, List.map_nil, List.append_nil]
      exact Ev.step (fun n => by rw [phalaroperef17_Way.l0, if_pos p0, if_pos hpl, if_pos hk4]) (Ev.now _)
    · have he : endsP (madeL l) s p = false := not4_ends (by rw [hnode]; exact hk4)
      have hps := pick_sum hm ⟨p0, p1, p2, p3⟩ he h1
      obtain ⟨_, q1, q2, q3, q4⟩ := pick_in hm ⟨p0, p1, p2, p3⟩ he h0 h1
      rw [wayP_step hm ⟨p0, p1, p2, p3⟩ he h0 h1]
      have ih := fun out' hb' => ih (pickP (madeL l) s p (nextsP (madeL l) s p) k).1 (pickP (madeL l) s p (nextsP (madeL l) s p) k).2 out' (by omega) q1 q3 q4 hb'
      by_cases hk3 : (rd_T35 l p.f0).f0 = 3
      · have hpk := pick_mark (p := p) (by rw [hnode]; exact hk3) hps
        rw [hpk] at ih q2 ⊢
        dsimp only at ih q2 ⊢
        rw [hnode] at ih q2 ⊢
        have hmk : markP (madeL l) p = [⟨(rd_T35 l p.f0).f3, p.f1⟩] := by unfold markP; rw [hnode, if_pos (by exact hk3)]; rfl
        rw [hmk]
        refine Ev.step (fun n => by rw [phalaroperef17_Way.l0, if_pos p0, if_pos hpl, if_neg hk4, if_pos hk3, if_pos (by omega)]) ?_
        refine Ev.step (fun n => by rw [phalaroperef17_Way.j2, if_neg (by omega)]) ?_
        refine Ev.step (fun n => by rw [phalaroperef17_Way.j4, if_neg (by omega)]) ?_
        have := ih (out ++ [⟨(rd_T35 l p.f0).f3, p.f1⟩]) (by rw [List.length_append, List.length_singleton]; omega)
        rw [List.append_assoc] at this
        exact this
      · have hmk : markP (madeL l) p = [] := by unfold markP; rw [hnode, if_neg (by exact hk3)]
        rw [hmk, List.nil_append]
        refine Ev.step (fun n => by rw [phalaroperef17_Way.l0, if_pos p0, if_pos hpl, if_neg hk4, if_neg hk3]) ?_
        by_cases hk2 : (rd_T35 l p.f0).f0 = 2
        · refine Ev.step (fun n => by rw [phalaroperef17_Way.j2, if_pos hk2]) ?_
          have hn := nexts_fork (s := s) (p := p) (m := madeL l) (by rw [hnode]; exact hk2)
          rw [hnode] at hn hright
          have hfk := (right_fork hright hk2).1
          have ih := ih out (by omega)
          rw [hn] at ih hps
          have q1' := q1
          rw [hn] at q1' ⊢
          generalize hPK : pickP (madeL l) s p ((toNode (rd_T35 l p.f0)).f2.map fun t => (⟨t, p.f1⟩ : Place)) k = PK at ih q1' ⊢
          have hq1 : PK.1.f1 = p.f1 := by
            have hmem := (pick_in hm ⟨p0, p1, p2, p3⟩ he h0 h1).1
            rw [hn, hPK] at hmem
            obtain ⟨t, _, e⟩ := List.mem_map.1 hmem
            rw [← e]
          rw [hq1] at ih
          exact way_l1 (madeL l) p (rd_T35 l p.f0).f2 (tabL l s) (fun t ht => by
              have := hfk t ht
              refine ⟨by omega, by rw [tab_row p2 p3, row_len]; omega, tab_rd p2 p3 (by omega) (by omega)⟩) ⟨p2, by rw [tab_len]; omega⟩ (by omega) out _ hk2 _ _ _ PK _ ih _ 0 k rfl (Nat.zero_le _) h0 (by omega) hps hPK
        · refine Ev.step (fun n => by rw [phalaroperef17_Way.j2, if_neg hk2]) ?_
          have hk1 : (rd_T35 l p.f0).f0 = 1 := by
            rw [hnode] at hright
            rcases right_kind hright with h | h | h | h
            · exact h
            · exact absurd h hk2
            · exact absurd h hk3
            · exact absurd h hk4
          refine Ev.step (fun n => by rw [phalaroperef17_Way.j4, if_pos hk1]) ?_
          obtain ⟨hlt, hpk⟩ := pick_eat hm (p := p) ⟨p0, p1, p2, p3⟩ h0 (by rw [hnode]; exact hk1) hps p.f0
          have ih := ih out (by omega)
          rw [hpk, hnode] at ih ⊢
          dsimp only at ih ⊢
          have := way_l2 (l := l) (s := s) p (rd_T35 l p.f0).f1 (tabL l s) ⟨p2, hlt⟩ (by omega) (by omega) k out (rd_T35 l p.f0).f0 (rd_T35 l p.f0).f2 (rd_T35 l p.f0).f3 (rd_T35 l p.f0).f4 _ p.f0 ih _ 0 rfl (Nat.zero_le _)
          exact this

theorem way_eval (hf : FewP l s) (kk : Int) : Ev (fun k => phalaroperef17_Way.f k l s kk) ((wayL (madeL l) s kk).map toHit, wayB (madeL l) s kk) := by
  unfold phalaroperef17_Way.f
  refine Ev.bind (few_may hf) ?_
  unfold wayB wayL
  cases hm : mayB (madeL l)
  · have hno : ¬ wayOk (madeL l) s kk := fun h => by rw [h.1] at hm; cases hm
    rw [if_neg hno, decide_eq_false hno, List.map_nil]
    refine Ev_neg (by simp) ?_
    exact Ev.step (fun n => by rw [phalaroperef17_Way.j0, if_pos rfl]) (Ev.now _)
  · refine Ev_pos rfl ?_
    have hr := manyP_range (madeL l) s ⟨0, 0⟩
    by_cases h0 : kk < 0
    · have hno : ¬ wayOk (madeL l) s kk := fun h => by have := h.2.1; omega
      rw [if_neg hno, decide_eq_false hno, List.map_nil]
      refine Ev_pos h0 ?_
      exact Ev.step (fun n => by rw [phalaroperef17_Way.j0, if_pos rfl]) (Ev.now _)
    · refine Ev_neg h0 ?_
      by_cases h1 : kk ≥ 1000
      · have hno : ¬ wayOk (madeL l) s kk := fun h => by have := h.2.2; omega
        rw [if_neg hno, decide_eq_false hno, List.map_nil]
        exact Ev.step (fun n => by rw [decide_eq_true h1, phalaroperef17_Way.j0, if_pos rfl]) (Ev.now _)
      · refine Ev.step (fun n => by rw [decide_eq_false h1, phalaroperef17_Way.j0, if_neg (by simp)]) ?_
        refine Ev.bind (tab_eval hf hm) ?_
        have hl := mayB_len hm
        rw [made_len] at hl
        refine Ev_pos (by rw [tab_len]; omega) ?_
        refine Ev_pos (by rw [tab_row (Int.le_refl _) (by omega), row_len]; omega) ?_
        rw [tab_rd (Int.le_refl _) (by omega) (Int.le_refl _) (by omega)]
        by_cases h2 : kk ≥ manyP (madeL l) s ⟨0, 0⟩
        · have hno : ¬ wayOk (madeL l) s kk := fun h => by have := h.2.2; omega
          rw [if_neg hno, decide_eq_false hno, List.map_nil]
          exact Ev_pos h2 (Ev.now _)
        · have hyes : wayOk (madeL l) s kk := ⟨hm, by omega, by omega⟩
          rw [if_pos hyes, decide_eq_true hyes]
          refine Ev_neg h2 ?_
          have hin : InP (madeL l) s ⟨0, 0⟩ := ⟨Int.le_refl _, by rw [made_len]; dsimp only; omega, Int.le_refl _, by dsimp only; omega⟩
          have hmu : muP (madeL l) s ⟨0, 0⟩ ≤ 1000000 := by
            obtain ⟨a, _, c⟩ := hf
            have h5 : s.size * (l.length + 1) ≤ 200 * 61 := Nat.mul_le_mul c (by omega)
            unfold muP
            rw [made_len]
            simp
            omega
          have := way_l0 hf hm (muP (madeL l) s ⟨0, 0⟩ + 1) ⟨0, 0⟩ kk [] (Nat.lt_succ_self _) hin (by omega) (by omega) (by simpa using hmu)
          rw [List.nil_append] at this
          exact this
end

/-! #### hits -/
theorem real_l0 (l : List S31) (hl : l.length ≤ 1000000) : ∀ (d i : Nat) (out : List S75), l.length - i = d → i ≤ l.length → out.length = i → Ev (fun k => phalaropelaw17_real.l0 k l out i) (out ++ (l.drop i).map (fun h => (⟨h.f0, h.f1⟩ : S75))) := by
  intro d
  induction d with
  | zero =>
    intro i out hd hi ho
    rw [List.drop_eq_nil_of_le (by omega), List.map_nil, List.append_nil]
    exact Ev.step (fun n => by rw [phalaropelaw17_real.l0, if_neg (by omega)]) (Ev.now _)
  | succ d ih =>
    intro i out hd hi ho
    have hlt : i < l.length := by omega
    have hrd : rd_T31 l (i : Int) = l[i] := by unfold rd_T31; rw [Int.toNat_natCast, List.getD_eq_getElem?_getD, List.getElem?_eq_getElem hlt]; rfl
    have ih := ih (i + 1) (out ++ [⟨l[i].f0, l[i].f1⟩]) (by omega) (by omega) (by simp [ho])
    rw [show ((i + 1 : Nat) : Int) = (i : Int) + 1 from rfl] at ih
    rw [List.drop_eq_getElem_cons hlt, List.map_cons]
    rw [List.append_assoc] at ih
    exact Ev.step (fun n => by rw [phalaropelaw17_real.l0, if_pos (by omega), if_pos (by omega), if_pos (by omega), hrd, w64 _ (by omega)]) ih
theorem real_eval (l : List Hit) (hl : l.length ≤ 1000000) : Ev (fun k => phalaropelaw17_real.f k (l.map ofHit)) (l.map toHit) := by
  have := real_l0 (l.map ofHit) (by simpa using hl) _ 0 [] rfl (Nat.zero_le _) rfl
  simp only [List.nil_append, List.drop_zero, List.map_map] at this
  exact this
theorem same_l0 (l : List S75) (hl : l.length ≤ 1000000) : ∀ (d i : Nat), l.length - i = d → i ≤ l.length → Ev (fun k => phalaroperef17_Same.l0 k l l i) true := by
  intro d
  induction d with
  | zero =>
    intro i hd hi
    exact Ev.step (fun n => by rw [phalaroperef17_Same.l0, if_neg (by omega)]) (Ev.now _)
  | succ d ih =>
    intro i hd hi
    have ih := ih (i + 1) (by omega) (by omega)
    rw [show ((i + 1 : Nat) : Int) = (i : Int) + 1 from rfl] at ih
    exact Ev.step (fun n => by rw [phalaroperef17_Same.l0, if_pos (by omega), if_pos (by omega), if_pos (by omega), if_neg (by simp), w64 _ (by omega)]) ih
theorem same_eval (l : List S75) (hl : l.length ≤ 1000000) : Ev (fun k => phalaroperef17_Same.f k l l) true := by
  unfold phalaroperef17_Same.f
  exact Ev_pos rfl (same_l0 l hl _ 0 rfl (Nat.zero_le _))

end Go.Proofs.Ytcbflajacioinaa
