/- The guard few, told; and the law of hits, as plain Lean. -/
import Derived.Test.YtcbflajacioinaaMadeK
import Derived.Test.YtcbflajacioinaaFindWay
namespace Go.Proofs.Ytcbflajacioinaa
open Go.RowKit Go.Proofs.YtcbflajacioinaaW.PrintWords Go.Proofs.YtcbflajacioinaaW.PrintLast Go.Proofs.Ytcbflajacioinaa.P

def FewP (l : List S35) (s : ByteArray) : Prop := l.length ≤ 60 ∧ (∀ x ∈ l, x.f1.length ≤ 20 ∧ x.f2.length ≤ 20) ∧ s.size ≤ 200

theorem w64 (i : Int) (h : -9223372036854775808 ≤ i ∧ i ≤ 9223372036854775807) : wrap64 i = i := by
  unfold wrap64
  first
    | exact IntWalk.i64_in _ h
    | omega

theorem few_l0 (l : List S35) : ∀ (d : Nat) (i : Nat), 61 - i ≤ d → i ≤ 61 → (∀ j, j < i → ∀ x, l[j]? = some x → x.f1.length ≤ 20 ∧ x.f2.length ≤ 20) →
    ∃ k r, phalaroperef16_Few.l0 k l (i : Int) = some r ∧ (r = true → l.length ≤ 60 ∧ ∀ x ∈ l, x.f1.length ≤ 20 ∧ x.f2.length ≤ 20) := by
  intro d
  induction d with
  | zero =>
    intro i hd hi hall
    obtain rfl : i = 61 := by omega
    refine ⟨2, decide ((l.length : Int) ≤ 60), ?_, ?_⟩
    · unfold phalaroperef16_Few.l0
      split
      · unfold phalaroperef16_Few.j1
        simp
      · unfold phalaroperef16_Few.j1
        simp
    · intro h
      have h := of_decide_eq_true h
      refine ⟨by omega, fun x hx => ?_⟩
      obtain ⟨j, hj, rfl⟩ := List.mem_iff_getElem.1 hx
      exact hall j (by omega) _ (List.getElem?_eq_getElem hj)
  | succ d ih =>
    intro i hd hi hall
    by_cases h61 : i = 61
    · exact ih i (by omega) hi hall
    by_cases hlt : i < l.length
    · have hg : rd_T35 l (i : Int) = l[i] := by unfold rd_T35; rw [Int.toNat_natCast, List.getD_eq_getElem?_getD, List.getElem?_eq_getElem hlt]; rfl
      by_cases h1 : l[i].f1.length ≤ 20
      · by_cases h2 : l[i].f2.length ≤ 20
        · obtain ⟨k, r, hk, hr⟩ := ih (i + 1) (by omega) (by omega) (fun j hj x hx => by
            by_cases e : j = i
            · subst e
              rw [List.getElem?_eq_getElem hlt] at hx
              obtain rfl := Option.some.inj hx
              exact ⟨h1, h2⟩
            · exact hall j (by omega) x hx)
          refine ⟨k + 2, r, ?_, hr⟩
          rw [phalaroperef16_Few.l0, if_pos (by omega), phalaroperef16_Few.j1, if_pos (by simp; omega), if_pos (by omega), if_pos (by omega), hg, if_neg (by omega), if_neg (by omega), w64 _ (by omega)]
          exact hk
        · refine ⟨2, false, ?_, fun h => by cases h⟩
          rw [phalaroperef16_Few.l0, if_pos (by omega), phalaroperef16_Few.j1, if_pos (by simp; omega), if_pos (by omega), if_pos (by omega), hg, if_neg (by omega), if_pos (by omega)]
      · refine ⟨2, false, ?_, fun h => by cases h⟩
        rw [phalaroperef16_Few.l0, if_pos (by omega), phalaroperef16_Few.j1, if_pos (by simp; omega), if_pos (by omega), if_pos (by omega), hg, if_pos (by omega)]
    · refine ⟨2, decide ((l.length : Int) ≤ 60), ?_, ?_⟩
      · rw [phalaroperef16_Few.l0, if_neg (by omega), phalaroperef16_Few.j1]
        rfl
      · intro h
        have h := of_decide_eq_true h
        refine ⟨by omega, fun x hx => ?_⟩
        obtain ⟨j, hj, rfl⟩ := List.mem_iff_getElem.1 hx
        exact hall j (by omega) _ (List.getElem?_eq_getElem hj)

theorem few_eval (l : List S35) (s : ByteArray) : ∃ k r, phalaropelaw17_few.f k l s = some r ∧ (r = true → FewP l s) := by
  obtain ⟨k, r, hk, hr⟩ := few_l0 l 61 0 (by omega) (by omega) (fun j hj => by omega)
  have hk : phalaroperef16_Few.f k l = some r := hk
  cases r
  · exact ⟨k, false, by unfold phalaropelaw17_few.f; rw [hk]; rfl, fun h => by cases h⟩
  · refine ⟨k, decide ((s.size : Int) ≤ 200), by unfold phalaropelaw17_few.f; rw [hk]; rfl, fun h => ?_⟩
    have h := of_decide_eq_true h
    have hr := hr rfl
    exact ⟨hr.1, hr.2, by omega⟩

/-- What a hit is: a mark's, at a place of the text. -/
def HitOk (m : List Node) (s : ByteArray) (a : Int) (h : Hit) : Prop := a ≤ h.f1 ∧ h.f1 ≤ s.size ∧ ∃ x ∈ m, x.f0 = 3 ∧ x.f3 = h.f0

theorem nexts_at {m : List Node} {s : ByteArray} {p q : Place} (h : q ∈ nextsP m s p) : p.f1 ≤ q.f1 := by
  unfold nextsP at h
  split at h
  · obtain rfl : q = _ := by simpa using h
    exact Int.le_refl _
  · split at h
    · obtain ⟨t, _, rfl⟩ := List.mem_map.1 h; exact Int.le_refl _
    · split at h
      · obtain ⟨t, _, rfl⟩ := List.mem_map.1 h; dsimp only; omega
      · cases h

theorem way_hits {m : List Node} {s : ByteArray} (hm : mayB m = true) : ∀ (d : Nat) (p : Place) (k : Int), muP m s p < d → InP m s p → 0 ≤ k → k < manyP m s p →
    (∀ h ∈ wayP m s p k, HitOk m s p.f1 h) ∧ (wayP m s p k).Pairwise (fun a b => a.f1 ≤ b.f1) :=
  way_ind hm (fun p k => (∀ h ∈ wayP m s p k, HitOk m s p.f1 h) ∧ (wayP m s p k).Pairwise (fun a b => a.f1 ≤ b.f1)) (fun p k _ he => by rw [wayP_end he]; simp) (fun p k hp he h0 h1 ih => by
    obtain ⟨hmem, a, b, c1, c2⟩ := pick_in hm hp he h0 h1
    have hle := nexts_at hmem
    rw [wayP_step hm hp he h0 h1]
    have hmk : ∀ h ∈ markP m p, HitOk m s p.f1 h ∧ h.f1 = p.f1 := by
      intro h hh
      unfold markP at hh
      split at hh
      · rename_i h3
        obtain rfl : h = _ := by simpa using hh
        exact ⟨⟨Int.le_refl _, hp.2.2.2, _, rd_Node_mem m p.f0 hp.1 hp.2.1, h3, rfl⟩, rfl⟩
      · cases hh
    have hmp : (markP m p).Pairwise (fun a b => a.f1 ≤ b.f1) := by unfold markP; split <;> simp
    refine ⟨fun h hh => ?_, ?_⟩
    · rcases List.mem_append.1 hh with hh | hh
      · exact (hmk h hh).1
      · obtain ⟨x1, x2, x3⟩ := ih.1 h hh
        exact ⟨Int.le_trans hle x1, x2, x3⟩
    · rw [List.pairwise_append]
      refine ⟨hmp, ih.2, fun x hx y hy => ?_⟩
      have e1 := (hmk x hx).2
      have e2 := (ih.1 y hy).1
      omega)

end Go.Proofs.Ytcbflajacioinaa
