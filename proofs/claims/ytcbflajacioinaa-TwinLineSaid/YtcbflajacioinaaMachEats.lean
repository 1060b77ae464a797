/- machine.eats: whether edges may be. -/
import Derived.BigQuiet
import Derived.Deep.QuietTactic
import Derived.IntWalk
import Derived.Test.YtcbflajacioinaaMachSort
namespace Go.Proofs.Ytcbflajacioinaa
open Go.RowKit Go.Shelf Go.Sort Go.Proofs.YtcbflajacioinaaW.PrintWords Go.Proofs.YtcbflajacioinaaW.PrintLast

theorem pmap_val (xs : List Edge) (h : ∀ x ∈ xs, EdgeOk x) : (xs.pmap (fun x hx => (⟨x, hx⟩ : EdgeB)) h).map (·.1) = xs := by
  rw [List.map_pmap]; simp

theorem sorted_calls (Bs : Nat) (A : Option Addr) (cap : Nat) (xs : List Edge) (hok : ∀ x ∈ xs, EdgeOk x) (hlen : xs.length ≤ 1000000000) (w : World) (hBs : Bs < w.heap.size) (hc : w.cell? ⟨Bs, 0, none⟩ = some (.slice A xs.length cap)) (hC : kEdge.C w A xs.length xs) :
    Calls Try.prog 50 #[.func (.func 56) #[] #[.pointer (some ⟨Bs, 0, none⟩)], .func (.func 52) #[] #[]] w fun e W' => ∃ A' c' ys, e = .returned (.slice A' ys.length c') ∧ ys.Perm xs ∧ ys.Pairwise (fun a b => a.f0 ≤ b.f0) ∧ kEdge.C W' A' ys.length ys ∧ RowKit.Below w.heap.size w W' := by
  have hcol := (callsIn_wide (n := 5)).1 (collect_in Fence.wide 5 trivial trivial trivial rfl (by omega) Bs A cap xs (by unfold maxLen; omega) (by omega) w hBs hc hC)
  rcases xs with _ | ⟨x, xs⟩
  · have hcol' : Calls Try.prog 54 #[.func (.func 56) #[] #[.pointer (some ⟨Bs, 0, none⟩)]] w fun e W' => e = .returned (.slice none 0 0) ∧ RowKit.Below w.heap.size w W' :=
      hcol.mono (by rintro e W' ⟨v, rfl, _, h2, h3⟩; exact ⟨by rw [h2.2 rfl], h3⟩)
    clear hcol hc
    have hs := fun W => AnyF.slices_SortFunc_none Try.sortEdge none 0 (.func (.func 52) #[] #[]) W
    change ∀ W, Calls Try.prog 55 _ _ _ at hs
    go_enter Try.func50, Try.ntmps50
    go_wp2_with (first | (go_at_call 54; refine hcol'.mono ?_; rintro e w' ⟨rfl, h3⟩) | (go_at_call 55; refine (hs _).mono ?_; rintro e w' ⟨rfl, rfl⟩))
    go_ret
    exact ⟨none, 0, [], rfl, List.Perm.refl _, List.Pairwise.nil, ⟨rfl, Nat.zero_le _, fun h => absurd h (Nat.lt_irrefl 0)⟩, h3⟩
  · obtain ⟨d, hd⟩ : ∃ d : Array EdgeB, d.toList.map (·.1) = x :: xs := ⟨((x :: xs).pmap (fun x hx => (⟨x, hx⟩ : EdgeB)) hok).toArray, by simpa using pmap_val (x :: xs) hok⟩
    have hdl : d.size = xs.length + 1 := by have := congrArg List.length hd; simpa using this
    have hfm : (x :: xs).flatMap encEdge = d.toList.flatMap encB := by rw [← hd, List.flatMap_map]; rfl
    have hcol' : Calls Try.prog 54 #[.func (.func 56) #[] #[.pointer (some ⟨Bs, 0, none⟩)]] w fun e W' => ∃ g cap, e = .returned (.slice (some ⟨g, 0, none⟩) d.size cap) ∧ HoldsK encB 3 W' g 0 d ∧ w.heap.size ≤ g ∧ g < W'.heap.size ∧ RowKit.Below w.heap.size w W' := by
      refine hcol.mono ?_
      rintro e W' ⟨v, rfl, h1, _, h3⟩
      obtain ⟨g, cap, rfl⟩ := ownsRow_succ (k := xs.length) h1
      have hlt : g < W'.heap.size := own_lt h1 g rfl
      have hge : w.heap.size ≤ g := own_base h1 g rfl
      refine ⟨g, cap, by rw [hdl], holdsK_of_cells encB_len W' g d (fun t u hu => ?_) (fun t => ?_), hge, hlt, h3⟩
      · have := h1.cells (g := g) rfl t u (by rw [hfm]; exact hu)
        rwa [add_plain] at this
      · rcases h1.2 with ⟨h', _⟩ | ⟨g', cap', cur, h', _, hh, _⟩
        · cases h'
        · have : g = g' := by injection h' with h'; injection h' with h'; injection h' with h'
          subst this
          simp [World.frozen?, hh]
    have hs : ∀ (W : World) (g cap : Nat), HoldsK encB 3 W g 0 d → w.heap.size ≤ g → g < W.heap.size → RowKit.Below w.heap.size w W → Calls Try.prog 55 #[.slice (some ⟨g, 0, none⟩) d.size cap, .func (.func 52) #[] #[]] W fun e W' => e = .returned (.tuple #[]) ∧ ∃ ys, ys.length = d.size ∧ ys.Perm (x :: xs) ∧ ys.Pairwise (fun a b => a.f0 ≤ b.f0) ∧ kEdge.C W' (some ⟨g, 0, none⟩) ys.length ys ∧ RowKit.Below w.heap.size w W' := by
      intro W g cap hH hge hlt hb
      refine (sort_calls g cap d W hH hlt (by simp at hlen; omega)).mono ?_
      rintro e W' ⟨rfl, d', hp, hsd, hH', hbel⟩
      have hdl' : d'.size = d.size := by simpa using hp.length_eq
      refine ⟨rfl, d'.toList.map (·.1), by simpa using hdl', by rw [← hd]; exact hp.map _, by rw [List.pairwise_map]; exact hsd, ?_, hb.trans (hbel _ hge hb.size)⟩
      have := readsRow_of_holdsK (R := kEdge.K W') (pr := fun y : EdgeB => y.1) encB_len (fun y => kEdge_mk W' y.1) hH' (by simp at hlen; omega)
      have e3 : (d'.toList.map fun y : EdgeB => y.1).length = d'.size := by simp
      unfold Kd.C
      rw [e3]
      exact this
    clear hcol hc hfm
    clear hC
    have HD := Aside0.mk hdl
    have HD2 := Aside0.mk hd
    clear hdl hd
    have hcol2 : Calls Try.prog 54 #[.func (.func 56) #[] #[.pointer (some ⟨Bs, 0, none⟩)]] w fun e W' => ∃ g cap, e = .returned (.slice (some ⟨g, 0, none⟩) d.size cap) ∧ Aside0 (HoldsK encB 3 W' g 0 d ∧ w.heap.size ≤ g ∧ g < W'.heap.size ∧ RowKit.Below w.heap.size w W') :=
      hcol'.mono (fun e W' ⟨g, cap, h1, h2⟩ => ⟨g, cap, h1, ⟨h2⟩⟩)
    clear hcol'
    go_enter Try.func50, Try.ntmps50
    go_wp2_with (first | (go_at_call 54; refine hcol2.mono ?_; rintro e W1 ⟨g, cap1, rfl, HH⟩) | (go_at_call 55; refine (hs _ _ _ HH.out.1 HH.out.2.1 HH.out.2.2.1 HH.out.2.2.2).mono ?_; rintro e W2 ⟨rfl, ys, hl, hp, hso, hC2, hb⟩; have HL := Aside0.mk hl; clear hl))
    go_ret
    exact ⟨some ⟨g, 0, none⟩, cap1, ys, by rw [HL.out]; rfl, hp, hso, hC2, hb⟩

/-- What the loop of eats asks of the edge at a place. -/
def goodAt (many : Int) (ys : List Edge) (i : Nat) : Bool :=
  decide ((rd_Edge ys i).f0 ≤ (rd_Edge ys i).f1) && decide (0 ≤ (rd_Edge ys i).f2) && decide ((rd_Edge ys i).f2 < many) && (decide (i = 0) || decide ((rd_Edge ys ((i : Int) - 1)).f1 < (rd_Edge ys i).f0))
def chainB (many : Int) (ys : List Edge) : Bool := (List.range ys.length).all (goodAt many ys)
theorem chain_no {many : Int} {ys : List Edge} {k : Nat} (hk : k < ys.length) (h : goodAt many ys k = false) : chainB many ys = false := by
  unfold chainB; rw [List.all_eq_false]; exact ⟨k, List.mem_range.2 hk, by rw [h]; decide⟩
theorem chain_yes {many : Int} {ys : List Edge} (h : ∀ j, j < ys.length → goodAt many ys j = true) : chainB many ys = true := by
  unfold chainB; rw [List.all_eq_true]; exact fun j hj => h j (List.mem_range.1 hj)

set_option maxRecDepth 100000 in
set_option maxHeartbeats 1000000 in
theorem eats_chain (A : Option Addr) (cap : Nat) (xs : List Edge) (many : Int) (hok : ∀ x ∈ xs, EdgeOk x) (hlen : xs.length ≤ 1000000000) (w : World) (hC : kEdge.C w A xs.length xs) :
    Calls Try.prog 47 #[.slice A xs.length cap, .int .i64 many] w fun e W' => ∃ ys : List Edge, ys.Perm xs ∧ ys.Pairwise (fun a b => a.f0 ≤ b.f0) ∧ e = .returned (.bool (chainB many ys)) ∧ RowKit.Below w.heap.size w W' := by
  have hv := fun W => (callsIn_wide (n := 5)).1 (values_in Fence.wide 5 trivial rfl A xs.length cap W)
  have hs := sorted_calls w.heap.size A cap xs hok hlen (w.alloc (.cells #[.slice A xs.length cap] 47)) (by simp) (by simp) (Kd.C_below hC (below_alloc (RowKit.Below.refl _ _) _))
  have HS : ∀ W, W = w.alloc (.cells #[.slice A xs.length cap] 47) → Calls Try.prog 50 #[.func (.func 56) #[] #[.pointer (some ⟨w.heap.size, 0, none⟩)], .func (.func 52) #[] #[]] W fun e W' => ∃ A' c' ys, e = .returned (.slice A' ys.length c') ∧ Aside0 (ys.Perm xs ∧ ys.Pairwise (fun a b => a.f0 ≤ b.f0) ∧ kEdge.C W' A' ys.length ys ∧ RowKit.Below w.heap.size w W') := by
    rintro W rfl
    refine hs.mono ?_
    rintro e W' ⟨A', c', ys, rfl, h1, h2, h3, h4⟩
    exact ⟨A', c', ys, rfl, ⟨h1, h2, h3, ((RowKit.Below.refl _ w).alloc (Nat.le_refl _) _).trans (h4.mono (by simp))⟩⟩
  clear hs hC
  go_enter Try.func47, Try.ntmps47
  go_wp2_with (first | (go_at_call 51; refine (hv _).mono ?_; rintro e w' ⟨rfl, rfl⟩) | (go_at_call 50; refine (HS _ rfl).mono ?_; rintro e W1 ⟨A1, c1, ys, rfl, HH⟩))
  have hn : ys.length ≤ 1000000000 := by have := HH.out.1.length_eq; omega
  clear HS hv
  go_loopw [12] (fun i wr => ∃ k : Nat, k ≤ ys.length ∧ i = .int .i64 k ∧ Aside0 (∀ j, j < k → goodAt many ys j = true) ∧ Aside0 (RowKit.Below W1.heap.size W1 wr)) (fun i _ => ys.length - (intOf i).toNat)
  case atStart => exact ⟨0, Nat.zero_le _, rfl, ⟨fun j hj => absurd hj (Nat.not_lt_zero _)⟩, ⟨RowKit.Below.refl _ _⟩⟩
  case round =>
    obtain ⟨k, hk, rfl, HG, HB⟩ := hrel
    by_cases hlt : k < ys.length
    · have hC1 := Kd.C_below HH.out.2.2.1 HB.out
      obtain ⟨ad, hA, c0, c1', c2⟩ := at_Edge hC1 k (by omega) (by omega)
      simp only [Int.toNat_natCast] at c0 c1' c2
      have hgd : goodAt many ys k = (decide ((rd_Edge ys k).f0 ≤ (rd_Edge ys k).f1) && decide (0 ≤ (rd_Edge ys k).f2) && decide ((rd_Edge ys k).f2 < many) && (decide (k = 0) || decide ((rd_Edge ys ((k : Int) - 1)).f1 < (rd_Edge ys k).f0))) := rfl
      generalize rd_Edge ys k = x at c0 c1' c2 hgd
      subst hA
      have hC2 := Kd.C_below hC1 (below_alloc (RowKit.Below.refl _ _) (.cells #[.int .u8 x.f0, .int .u8 x.f1, .int .i64 x.f2] 52))
      by_cases d1 : x.f1 < x.f0
      · have HNO := Aside0.mk (chain_no hlt (by rw [hgd, decide_eq_false (show ¬ x.f0 ≤ x.f1 by omega)]; rfl))
        clear hgd
        go_wp2
        go_quiet (fail)
        go_wp2
        go_ret
        exact ⟨ys, HH.out.1, HH.out.2.1, by rw [HNO.out]; rfl, HH.out.2.2.2.trans ((pw_below_drewN (HB.out.alloc HB.out.size _) _).mono HH.out.2.2.2.size)⟩
      have e1 : decide (x.f1 < x.f0) = false := decide_eq_false d1
      by_cases d2 : x.f2 < 0
      · have HNO := Aside0.mk (chain_no hlt (by rw [hgd, decide_eq_false (show ¬ 0 ≤ x.f2 by omega), Bool.and_false]; rfl))
        clear hgd
        go_wp2
        go_quiet (fail)
        go_wp2
        go_ret
        exact ⟨ys, HH.out.1, HH.out.2.1, by rw [HNO.out]; rfl, HH.out.2.2.2.trans ((pw_below_drewN (HB.out.alloc HB.out.size _) _).mono HH.out.2.2.2.size)⟩
      have e2 : decide (x.f2 < 0) = false := decide_eq_false d2
      by_cases d3 : many ≤ x.f2
      · have HNO := Aside0.mk (chain_no hlt (by rw [hgd, decide_eq_false (show ¬ x.f2 < many by omega), Bool.and_false]; rfl))
        clear hgd
        go_wp2
        go_quiet (fail)
        go_wp2
        go_ret
        exact ⟨ys, HH.out.1, HH.out.2.1, by rw [HNO.out]; rfl, HH.out.2.2.2.trans ((pw_below_drewN (HB.out.alloc HB.out.size _) _).mono HH.out.2.2.2.size)⟩
      have e3 : decide (many ≤ x.f2) = false := decide_eq_false d3
      by_cases d4 : 0 < k
      · obtain ⟨ad', hA', p0, p1, p2⟩ := at_Edge hC2 ((k : Int) - 1) (by omega) (by omega)
        obtain rfl : ad = ad' := by injection hA'
        generalize rd_Edge ys ((k : Int) - 1) = y at p0 p1 p2 hgd
        rw [show ((k : Int) - 1).toNat = k - 1 by omega] at p0 p1 p2
        have w1 : IntKind.i64.wrap ((k : Int) - 1) = (k : Int) - 1 := IntWalk.i64_in _ (by omega)
        have w2 : 0 ≤ (k : Int) - 1 := by omega
        have w2' : 1 ≤ (k : Int) := by omega
        have w5 : (k : Int) - 1 < (ys.length : Int) := by omega
        have w6 : ((k : Int) - 1).toNat < ys.length := by omega
        have w3 : decide (0 < (k : Int)) = true := decide_eq_true (by omega)
        have w4 : decide (0 < k) = true := decide_eq_true (by omega)
        by_cases d5 : x.f0 ≤ y.f1
        · have HNO := Aside0.mk (chain_no hlt (by rw [hgd, decide_eq_false (show ¬ y.f1 < x.f0 by omega), decide_eq_false (show ¬ k = 0 by omega), Bool.or_false, Bool.and_false]))
          clear hgd
          go_wp2
          go_quiet (fail)
          go_wp2
          go_ret
          exact ⟨ys, HH.out.1, HH.out.2.1, by rw [HNO.out]; rfl, HH.out.2.2.2.trans ((pw_below_drewN (HB.out.alloc HB.out.size _) _).mono HH.out.2.2.2.size)⟩
        · have HG1 : Aside0 (∀ j, j < k + 1 → goodAt many ys j = true) := ⟨fun j hj => by
            rcases Nat.lt_succ_iff_lt_or_eq.1 hj with h | rfl
            · exact HG.out j h
            · rw [hgd]; simp; omega⟩
          clear hgd
          go_wp2
          go_quiet (fail)
          go_wp2
          go_roundw
          case rel => exact ⟨k + 1, by omega, by go_num, HG1, ⟨pw_below_drewN (HB.out.alloc HB.out.size _) _⟩⟩
          case measure => simp [intOf]; omega
      · have HG1 : Aside0 (∀ j, j < k + 1 → goodAt many ys j = true) := ⟨fun j hj => by
            obtain rfl : j = k := by omega
            rw [hgd]; simp; omega⟩
        have w3 : decide (0 < (k : Int)) = false := decide_eq_false (by omega)
        have w4 : decide (0 < k) = false := decide_eq_false d4
        clear hgd d4
        go_wp2
        go_quiet (fail)
        go_wp2
        go_roundw
        case rel => exact ⟨k + 1, by omega, by go_num, HG1, ⟨pw_below_drewN (HB.out.alloc HB.out.size _) _⟩⟩
        case measure => simp [intOf]; omega
    · obtain rfl : k = ys.length := by omega
      go_wp2
      go_ret
      exact ⟨ys, HH.out.1, HH.out.2.1, by rw [chain_yes HG.out]; rfl, HH.out.2.2.2.trans (HB.out.mono HH.out.2.2.2.size)⟩

/-- Whether edges may be: each rises, leads to a node, and no two have a byte in common. -/
def edgeGood (many : Int) (e : Edge) : Bool := decide (e.f0 ≤ e.f1) && decide (0 ≤ e.f2) && decide (e.f2 < many)
def edgesApart (a b : Edge) : Prop := a.f1 < b.f0 ∨ b.f1 < a.f0
instance : DecidableRel edgesApart := fun a b => by unfold edgesApart; exact inferInstance
theorem edgesApart_symm {a b : Edge} (h : edgesApart a b) : edgesApart b a := by unfold edgesApart at *; omega
def eatsB (many : Int) (l : List Edge) : Bool := l.all (edgeGood many) && decide (l.Pairwise edgesApart)

theorem rd_Edge_get (ys : List Edge) (i : Nat) (h : i < ys.length) : rd_Edge ys (i : Int) = ys[i] := by
  unfold rd_Edge; simp [List.getD_eq_getElem?_getD, List.getElem?_eq_getElem h]
theorem rd_Edge_pred (ys : List Edge) (i : Nat) (h0 : 0 < i) (h : i < ys.length) : rd_Edge ys ((i : Int) - 1) = ys[i - 1] := by
  rw [show (i : Int) - 1 = ((i - 1 : Nat) : Int) by omega]; exact rd_Edge_get ys (i - 1) (by omega)

theorem chain_iff (many : Int) (ys : List Edge) : chainB many ys = true ↔ (∀ e ∈ ys, edgeGood many e = true) ∧ ∀ i (h0 : 0 < i) (h : i < ys.length), (ys[i - 1]'(by omega)).f1 < ys[i].f0 := by
  unfold chainB
  rw [List.all_eq_true]
  constructor
  · intro h
    refine ⟨fun e he => ?_, fun i h0 hi => ?_⟩
    · obtain ⟨i, hi, rfl⟩ := List.mem_iff_getElem.1 he
      have := h i (List.mem_range.2 hi)
      unfold goodAt at this
      rw [rd_Edge_get ys i hi] at this
      simp only [Bool.and_eq_true] at this
      unfold edgeGood
      simp only [Bool.and_eq_true]
      exact this.1
    · have := h i (List.mem_range.2 hi)
      unfold goodAt at this
      rw [rd_Edge_get ys i hi, rd_Edge_pred ys i h0 hi] at this
      simp at this
      omega
  · rintro ⟨h1, h2⟩ i hi
    have hi' := List.mem_range.1 hi
    have h3 := h1 _ (List.getElem_mem hi')
    unfold goodAt
    rw [rd_Edge_get ys i hi']
    unfold edgeGood at h3
    rw [h3]
    by_cases h0 : 0 < i
    · rw [rd_Edge_pred ys i h0 hi']
      have := h2 i h0 hi'
      simp [this]
    · have : i = 0 := by omega
      simp [this]

theorem chain_eats (many : Int) {ys xs : List Edge} (hp : ys.Perm xs) (hs : ys.Pairwise (fun a b => a.f0 ≤ b.f0)) : chainB many ys = eatsB many xs := by
  have e1 : eatsB many xs = eatsB many ys := by
    unfold eatsB
    rw [show xs.all (edgeGood many) = ys.all (edgeGood many) from by rw [Bool.eq_iff_iff, List.all_eq_true, List.all_eq_true]; exact ⟨fun h x hx => h x (hp.mem_iff.1 hx), fun h x hx => h x (hp.mem_iff.2 hx)⟩]
    congr 1
    exact decide_eq_decide.2 (hp.symm.pairwise_iff (fun {a b} h => edgesApart_symm h))
  rw [e1, Bool.eq_iff_iff, chain_iff]
  unfold eatsB
  rw [Bool.and_eq_true, List.all_eq_true, decide_eq_true_iff]
  constructor
  · rintro ⟨h1, h2⟩
    refine ⟨h1, ?_⟩
    rw [List.pairwise_iff_getElem]
    intro i j hi hj hij
    left
    have key : ∀ d, ∀ (hj : i + 1 + d < ys.length), ys[i].f1 < (ys[i + 1 + d]).f0 := by
      intro d
      induction d with
      | zero => intro hj; exact h2 (i + 1) (by omega) hj
      | succ d ih =>
        intro hj
        have a1 := ih (by omega)
        have a2 := h2 (i + 1 + (d + 1)) (by omega) hj
        have a3 := h1 _ (List.getElem_mem (show i + 1 + d < ys.length by omega))
        unfold edgeGood at a3
        simp only [Bool.and_eq_true, decide_eq_true_eq] at a3
        have a4 : ys[i + 1 + (d + 1) - 1]'(by omega) = ys[i + 1 + d]'(by omega) := by congr 1
        rw [a4] at a2
        omega
    have := key (j - i - 1) (by omega)
    have e : i + 1 + (j - i - 1) = j := by omega
    simpa only [e] using this
  · rintro ⟨h1, h2⟩
    refine ⟨h1, fun i h0 hi => ?_⟩
    rw [List.pairwise_iff_getElem] at h2 hs
    have b1 := h2 (i - 1) i (by omega) hi (by omega)
    have b2 := hs (i - 1) i (by omega) hi (by omega)
    have b3 := h1 _ (List.getElem_mem hi)
    unfold edgeGood at b3
    simp only [Bool.and_eq_true, decide_eq_true_eq] at b3
    unfold edgesApart at b1
    omega

theorem eats_calls (A : Option Addr) (cap : Nat) (xs : List Edge) (many : Int) (hok : ∀ x ∈ xs, EdgeOk x) (hlen : xs.length ≤ 1000000000) (w : World) (hC : kEdge.C w A xs.length xs) :
    Calls Try.prog 47 #[.slice A xs.length cap, .int .i64 many] w fun e W' => e = .returned (.bool (eatsB many xs)) ∧ RowKit.Below w.heap.size w W' :=
  (eats_chain A cap xs many hok hlen w hC).mono fun e W' ⟨ys, h1, h2, h3, h4⟩ => ⟨by rw [h3, chain_eats many h1 h2], h4⟩

end Go.Proofs.Ytcbflajacioinaa
