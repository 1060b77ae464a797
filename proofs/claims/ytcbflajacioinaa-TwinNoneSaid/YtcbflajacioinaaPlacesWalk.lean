/- FindPlaces: the walk. -/
import Derived.BigQuiet
import Derived.Deep.RegionHeld3
import Derived.Outline
import Derived.Deep.QuietTactic
import Derived.Test.YtcbflajacioinaaMade17
import Derived.Test.YtcbflajacioinaaAwake17
import Derived.Test.YtcbflajacioinaaFewP
namespace Go.Proofs.Ytcbflajacioinaa
open Go.RowKit Go.Shelf Go.Proofs.YtcbflajacioinaaW.PrintWords Go.Proofs.YtcbflajacioinaaW.PrintLast Go.Proofs.Ytcbflajacioinaa.P

/-- What a machine's nodes, made of the document's, keep of them. -/
theorem made_ok {l : List S35} {s : ByteArray} (h : FewP l s) (hw : ∀ x ∈ l, ∀ e ∈ x.f1, 0 ≤ e.f0 ∧ e.f0 ≤ 255) : ∀ x ∈ madeL l, NodeOk x := by
  intro x hx
  obtain ⟨y, hy, rfl⟩ := List.mem_map.1 hx
  obtain ⟨h1, h2⟩ := h.2.1 y hy
  refine ⟨fun e he => ?_, ?_, ?_⟩
  · obtain ⟨z, hz, rfl⟩ := List.mem_map.1 he
    exact hw y hy z hz
  · show (y.f1.map toEdge).length ≤ _
    rw [List.length_map]; omega
  · show y.f2.length ≤ _
    omega
theorem few_small {l : List S35} {s : ByteArray} (h : FewP l s) : s.size ≤ 9223372036854775807 ∧ (madeL l).length * (s.size + 1) < maxLen ∧ muP (madeL l) s ⟨0, 0⟩ ≤ 1000000000 := by
  obtain ⟨h1, _, h3⟩ := h
  have hm : (madeL l).length = l.length := by simp [madeL]
  rw [hm]
  have h4 : l.length * (s.size + 1) ≤ 60 * 201 := Nat.mul_le_mul h1 (by omega)
  have h5 : s.size * (l.length + 1) ≤ 200 * 61 := Nat.mul_le_mul h3 (by omega)
  refine ⟨by omega, by unfold maxLen; omega, ?_⟩
  unfold muP
  rw [hm]
  simp
  omega

/-- Is a tag one of the first so many nodes' marks? -/
def isB (l : List S35) (t : Int) (j : Nat) : Bool := (l.take j).any (fun x => x.f0 == 3 && x.f3 == t)
theorem isB_step (l : List S35) (t : Int) (j : Nat) (hj : j < l.length) : isB l t (j + 1) = (isB l t j || ((l.getD j z35).f0 == 3 && (l.getD j z35).f3 == t)) := by
  unfold isB; rw [take_snoc' l j z35 hj, List.any_append]; simp
theorem isB_all {l : List S35} {s : ByteArray} {a : Int} {h : Hit} (hh : HitOk (madeL l) s a h) : isB l h.f0 l.length = true := by
  obtain ⟨_, _, x, hx, h3, h4⟩ := hh
  obtain ⟨y, hy, rfl⟩ := List.mem_map.1 hx
  unfold isB
  rw [List.take_length, List.any_eq_true]
  exact ⟨y, hy, by simp [show y.f0 = 3 from h3, show y.f3 = h.f0 from h4]⟩

set_option maxRecDepth 100000 in
set_option maxHeartbeats 1000000 in
theorem places_walk (l : List S35) (s : ByteArray) (k : Int) (hk : 0 ≤ k ∧ k ≤ 255) (A : Option Addr) (c : Nat) (hc : l.length ≤ c) (hw : ∀ x ∈ l, ∀ e ∈ x.f1, 0 ≤ e.f0 ∧ e.f0 ≤ 255) (w : World) (hC : Kd.C k35 w A l.length l) :
    Calls Try.prog 3 #[.slice A l.length c, .string s, .int .u8 k] w fun e w' => e = .returned (.bool true) ∧ RowKit.Below w.heap.size w w' := by
  obtain ⟨kf, rf, hf, hr⟩ := few_eval l s
  have FC := Aside0.mk (fun (W : World) (h : Kd.C k35 W A l.length l) => phalaropelaw17_few.calls kf A c l s rf W h hc hf)
  clear hf
  cases rf
  · go_enter Try.func3, Try.ntmps3
    go_wp2_with (first
      | (go_at_call 10; refine (awake_calls _).mono ?_; rintro e w2 ⟨rfl, hb2⟩; have HC2 := Aside0.mk (Kd.C_below hC hb2))
      | (go_at_call 11; refine (FC.out _ HC2.out).mono ?_; rintro e w3 ⟨rfl, hd3⟩))
    go_ret
    exact ⟨rfl, hb2.trans (hd3.below.mono hb2.size)⟩
  · have hfew := hr rfl
    clear hr
    have hok := made_ok hfew hw
    have hl60 : l.length ≤ 60 := hfew.1
    obtain ⟨hs, hmul, hmu⟩ := few_small hfew
    have hlm : (madeL l).length = l.length := by simp [madeL]
    have MC := Aside0.mk (fun (W : World) (h : Kd.C k35 W A l.length l) => made_calls l A c W h (by have := hfew.1; omega) (fun x hx => by have := (hfew.2.1 x hx).1; omega))
    have hwr : IntKind.i64.wrap k = k := IntWalk.i64_in _ (by omega)
    by_cases hway : wayOk (madeL l) s k
    · have WC := Aside0.mk (fun (W : World) (A' : Option Addr) (c' : Nat) (h : kNode.C W A' (madeL l).length (madeL l)) => way_good (madeL l) s A' c' k hok hs hmul hmu hway W h)
      have HIT := Aside0.mk (way_hits hway.1 (muP (madeL l) s ⟨0, 0⟩ + 1) ⟨0, 0⟩ k (Nat.lt_succ_self _) ⟨Int.le_refl _, by have := mayB_len hway.1; dsimp only; omega, Int.le_refl _, by dsimp only; omega⟩ hway.2.1 hway.2.2)
      have HLEN := Aside0.mk (Nat.le_trans (way_len hway.1 (muP (madeL l) s ⟨0, 0⟩ + 1) ⟨0, 0⟩ k (Nat.lt_succ_self _) ⟨Int.le_refl _, by have := mayB_len hway.1; dsimp only; omega, Int.le_refl _, by dsimp only; omega⟩ hway.2.1 hway.2.2) hmu)
      rw [hlm] at WC
      generalize wayP (madeL l) s ⟨0, 0⟩ k = hits at WC HIT HLEN
      clear hway
      go_enter Try.func3, Try.ntmps3
      go_wp2_with (first
        | (go_at_call 10; refine (awake_calls _).mono ?_; rintro e w2 ⟨rfl, hb2⟩; have HC2 := Aside0.mk (Kd.C_below hC hb2))
        | (go_at_call 11; refine (FC.out _ HC2.out).mono ?_; rintro e w3 ⟨rfl, hd3⟩; have HC3 := Aside0.mk (Kd.C_below HC2.out hd3.below); have HB3 := Aside0.mk (hb2.trans (hd3.below.mono hb2.size)))
        | (go_at_call 13; refine (MC.out _ HC3.out).mono ?_; rintro e w4 ⟨A4, c4, rfl, hC4, hb4⟩; have HM4 := Aside0.mk hC4; have HC4 := Aside0.mk (Kd.C_below HC3.out hb4); have HB4 := Aside0.mk (HB3.out.trans (hb4.mono HB3.out.size)))
        | (go_at_call 12; refine (WC.out _ _ _ HM4.out).mono ?_; rintro e w5 ⟨v5, rfl, hown5, hb5⟩; obtain ⟨A5, c5, rfl, hh5⟩ := own_hits hown5))
      have HC5 := Aside0.mk (Kd.C_below HC4.out hb5)
      have HB5 := Aside0.mk (HB4.out.trans (hb5.mono HB4.out.size))
      have HH5 := Aside0.mk hh5
      clear hh5 hown5 hb5 hb2 hd3 hC4 hb4
      go_loopw [10] (fun iv wr => ∃ i : Nat, i ≤ hits.length ∧ iv = .int .i64 i ∧ Aside0 (RowKit.Below w5.heap.size w5 wr)) (fun iv _ => hits.length - (intOf iv).toNat)
      case atStart => exact ⟨0, Nat.zero_le _, rfl, ⟨RowKit.Below.refl _ _⟩⟩
      case round =>
        obtain ⟨i, hi, rfl, HBr⟩ := hrel
        by_cases hlt : i < hits.length
        · have hlen := HLEN.out
          obtain ⟨ad, rfl, e0, e1⟩ := HH5.out i hlt
          have E0 := Aside0.mk e0
          replace e0 := (HBr.out.cell (World.block_lt_of_cell? _ _ e0)).trans e0
          replace e1 := (HBr.out.cell (World.block_lt_of_cell? _ _ e1)).trans e1
          have hhit := HIT.out.1 (hits.getD i zHit) (by rw [List.getD_eq_getElem?_getD, List.getElem?_eq_getElem hlt]; exact List.getElem_mem _)
          have hprev : ∀ j, j < i → (hits.getD j zHit).f1 ≤ (hits.getD i zHit).f1 := fun j hj => by
            rw [List.getD_eq_getElem?_getD, List.getD_eq_getElem?_getD, List.getElem?_eq_getElem hlt, List.getElem?_eq_getElem (by omega : j < hits.length)]
            exact List.pairwise_iff_getElem.1 HIT.out.2 j i (by omega) hlt hj
          have hprev0 := hprev (i - 1)
          have hpc := fun h => HH5.out (i - 1) h
          generalize hits.getD i zHit = h at e0 e1 E0 hhit hprev0
          have d1 : decide (h.f1 < 0) = false := decide_eq_false (by have := hhit.1; omega)
          have d2 : decide ((s.size : Int) < h.f1) = false := decide_eq_false (by have := hhit.2.1; omega)
          have hi0 : (0 : Int) ≤ i := by omega
          have hi1 : (i : Int) < hits.length := by omega
          clear hprev
          have hC6 := Aside0.mk (Kd.C_below HC5.out HBr.out)
          have HALL := Aside0.mk (isB_all hhit)
          by_cases hi2 : 0 < i
          case' pos =>
            obtain ⟨ad', hA', p0, p1⟩ := hpc (by omega)
            obtain rfl : ad = ad' := by injection hA'
            replace p1 := (HBr.out.cell (World.block_lt_of_cell? _ _ p1)).trans p1
            have hp0 := hprev0 (by omega)
            generalize hits.getD (i - 1) zHit = h' at p0 p1 hp0
            have w1 : IntKind.i64.wrap ((i : Int) - 1) = (i : Int) - 1 := IntWalk.i64_in _ (by omega)
            have w2 : 0 ≤ (i : Int) - 1 := by omega
            have w2' : 1 ≤ (i : Int) := by omega
            have w5' : (i : Int) - 1 < (hits.length : Int) := by omega
            have w6 : ((i : Int) - 1).toNat = i - 1 := by omega
            have w3 : decide (0 < (i : Int)) = true := decide_eq_true (by omega)
            have w4 : decide (0 < i) = true := decide_eq_true (by omega)
            have d3 : decide (h.f1 < h'.f1) = false := decide_eq_false (by omega)
            clear p0 hp0
          case' neg =>
            obtain rfl : i = 0 := by omega
            have w3 : decide (0 < ((0 : Nat) : Int)) = false := rfl
            replace e0 : wr.cell? ad = some (.int .i64 h.f0) := e0
            replace E0 : Aside0 (w5.cell? ad = some (.int .i64 h.f0)) := E0
            replace e1 : wr.cell? ⟨ad.block, ad.off + 1, none⟩ = some (.int .i64 h.f1) := e1
          all_goals
            clear hprev0 hpc hhit
            go_wp2_with fail
            go_quiet (fail)
            go_wp2_with fail
            clear e0 e1
            go_loopw [11, 12] (fun isv jv wr' => ∃ j : Nat, j ≤ l.length ∧ jv = .int .i64 j ∧ isv = .bool (isB l h.f0 j) ∧ Aside0 (RowKit.Below w5.heap.size w5 wr')) (fun _ jv _ => l.length - (intOf jv).toNat)
            case atStart => exact ⟨0, Nat.zero_le _, rfl, rfl, ⟨pw_below_drewN HBr.out _⟩⟩
            case round =>
              obtain ⟨j, hj, rfl, rfl, HBq⟩ := hrel
              by_cases hjl : j < l.length
              · have hstep := isB_step l h.f0 j hjl
                have hC7 := Kd.C_below HC5.out HBq.out
                have e0 := (HBq.out.cell (World.block_lt_of_cell? _ _ E0.out)).trans E0.out
                obtain ⟨a2, A21, c21, A22, c22, hA2, y0, y1, y2, y3, y4, _, _, _, _⟩ := at_T35 hC7 j (by omega) (by omega)
                unfold rd_T35 at y0 y1 y2 y3 y4
                simp only [Int.toNat_natCast] at y0 y1 y2 y3 y4
                generalize l.getD j z35 = y at y0 y1 y2 y3 y4 hstep
                subst hA2
                have HST := Aside0.mk hstep
                have hj0 : (0 : Int) ≤ j := by omega
                have hj1 : (j : Int) < l.length := by omega
                have HJ := Aside0.mk (show j + 1 ≤ l.length by omega)
                clear hstep y1 y2 y4 hC7
                cases his : isB l h.f0 j
                · by_cases t3 : y.f0 = 3
                  · have f3 : (y.f0 == 3) = true := beq_iff_eq.2 t3
                    by_cases t4 : y.f3 = h.f0
                    · have f4 : (y.f3 == h.f0) = true := beq_iff_eq.2 t4
                      clear t3 t4
                      go_wp2_with fail
                      go_quiet (fail)
                      go_wp2_with fail
                      exact ⟨⟨j + 1, HJ.out, by go_num, by rw [HST.out, his, f3, f4]; rfl, ⟨pw_below_drewN HBq.out _⟩⟩, by have := HJ.out; simp [intOf]; omega⟩
                    · have f4 : (y.f3 == h.f0) = false := beq_eq_false_iff_ne.2 t4
                      clear t3 t4
                      go_wp2_with fail
                      go_quiet (fail)
                      go_wp2_with fail
                      exact ⟨⟨j + 1, HJ.out, by go_num, by rw [HST.out, his, f3, f4]; rfl, ⟨pw_below_drewN HBq.out _⟩⟩, by have := HJ.out; simp [intOf]; omega⟩
                  · have f3 : (y.f0 == 3) = false := beq_eq_false_iff_ne.2 t3
                    clear t3
                    go_wp2_with fail
                    go_quiet (fail)
                    go_wp2_with fail
                    exact ⟨⟨j + 1, HJ.out, by go_num, by rw [HST.out, his, f3]; rfl, ⟨pw_below_drewN HBq.out _⟩⟩, by have := HJ.out; simp [intOf]; omega⟩
                · go_wp2_with fail
                  go_quiet (fail)
                  go_wp2_with fail
                  exact ⟨⟨j + 1, HJ.out, by go_num, by rw [HST.out, his]; rfl, ⟨pw_below_drewN HBq.out _⟩⟩, by have := HJ.out; simp [intOf]; omega⟩
              · obtain rfl : j = l.length := by omega
                have hall := HALL.out
                go_wp2_with fail
                first
                  | exact ⟨⟨i + 1, by omega, by go_num, HBq⟩, by simp [intOf]; omega⟩
                  | exact ⟨⟨0 + 1, by omega, by go_num, HBq⟩, by simp [intOf]; omega⟩
        · go_wp2_with fail
          go_ret
          exact ⟨rfl, HB5.out.trans (HBr.out.mono HB5.out.size)⟩
    · have WC := Aside0.mk (fun (W : World) (A' : Option Addr) (c' : Nat) (h : kNode.C W A' (madeL l).length (madeL l)) => way_bad (madeL l) s A' c' k hok hs hmul hway W h)
      rw [hlm] at WC
      clear hway
      go_enter Try.func3, Try.ntmps3
      go_wp2_with (first
        | (go_at_call 10; refine (awake_calls _).mono ?_; rintro e w2 ⟨rfl, hb2⟩; have HC2 := Aside0.mk (Kd.C_below hC hb2))
        | (go_at_call 11; refine (FC.out _ HC2.out).mono ?_; rintro e w3 ⟨rfl, hd3⟩; have HC3 := Aside0.mk (Kd.C_below HC2.out hd3.below); have HB3 := Aside0.mk (hb2.trans (hd3.below.mono hb2.size)))
        | (go_at_call 13; refine (MC.out _ HC3.out).mono ?_; rintro e w4 ⟨A4, c4, rfl, hC4, hb4⟩; have HM4 := Aside0.mk hC4; have HB4 := Aside0.mk (HB3.out.trans (hb4.mono HB3.out.size)))
        | (go_at_call 12; refine (WC.out _ _ _ HM4.out).mono ?_; rintro e w5 ⟨rfl, hb5⟩; have HB5 := Aside0.mk (HB4.out.trans (hb5.mono HB4.out.size))))
      clear hb5 hb2 hd3 hC4 hb4
      go_loopw [10] (fun iv wr => iv = .int .i64 0 ∧ Aside0 (RowKit.Below w5.heap.size w5 wr)) (fun _ _ => 0)
      case atStart => exact ⟨rfl, ⟨RowKit.Below.refl _ _⟩⟩
      case round =>
        obtain ⟨rfl, HBr⟩ := hrel
        go_wp2_with fail
        go_ret
        exact ⟨rfl, HB5.out.trans (HBr.out.mono HB5.out.size)⟩

end Go.Proofs.Ytcbflajacioinaa
