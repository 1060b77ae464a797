/- find: one of the ways. -/
import Derived.Test.YtcbflajacioinaaFindOf
import Derived.Test.YtcbflajacioinaaFindWayP
namespace Go.Proofs.Ytcbflajacioinaa
open Go.RowKit Go.Shelf Go.Proofs.YtcbflajacioinaaW.PrintWords Go.Proofs.YtcbflajacioinaaW.PrintLast

def wayOk (m : List Node) (s : ByteArray) (k : Int) : Prop := mayB m = true ∧ 0 ≤ k ∧ k < manyP m s ⟨0, 0⟩
instance (m : List Node) (s : ByteArray) (k : Int) : Decidable (wayOk m s k) := by unfold wayOk; infer_instance
def wayB (m : List Node) (s : ByteArray) (k : Int) : Bool := decide (wayOk m s k)
def wayL (m : List Node) (s : ByteArray) (k : Int) : List Hit := if wayOk m s k then wayP m s ⟨0, 0⟩ k else []
def encHit (x : Hit) : List Value := [.int .i64 x.f0, .int .i64 x.f1]
theorem encHit_new (x : Hit) (W : World) : ∀ j u, (encHit x)[j]? = some u → (W.alloc (.cells #[.int .i64 x.f0, .int .i64 x.f1] 31)).cell? ((⟨W.heap.size, 0, none⟩ : Addr).add j) = some u :=
  World.news_of_block (cs := #[.int .i64 x.f0, .int .i64 x.f1]) (t := 31) (fr := (0, 0)) (World.alloc_heap_new W _)
theorem encHit_one (x : Hit) : ∀ u ∈ encHit x, u.oneCell' = true := by simp [encHit, Value.oneCell']
theorem infoHit : (Try.prog.info? 31).map (fun i => (i.zero, i.size, i.bytes)) = some (some (.agg #[.int .i64 0, .int .i64 0]), 2, 16) := by kernel_rfl

set_option maxRecDepth 100000 in
set_option maxHeartbeats 1000000 in
theorem way_bad (m : List Node) (s : ByteArray) (A : Option Addr) (c : Nat) (k : Int) (hN : ∀ x ∈ m, NodeOk x) (hs : s.size ≤ 9223372036854775807) (hfew : m.length * (s.size + 1) < maxLen) (hk : ¬ wayOk m s k) (w : World) (hC : kNode.C w A m.length m) :
    Calls Try.prog 12 #[.slice A m.length c, .string s, .int .i64 k] w fun e w' => e = .returned (.tuple #[.slice none 0 0, .bool false]) ∧ RowKit.Below w.heap.size w w' := by
  cases hM : mayB m
  · go_enter Try.func12, Try.ntmps12
    go_wp2_with (go_at_call 29; refine (of_none m s A c hN hM _ hC).mono ?_; rintro e w2 ⟨rfl, hb2⟩)
    go_ret2
    exact ⟨rfl, hb2⟩
  · have hin : InP m s ⟨0, 0⟩ := ⟨Int.le_refl _, by have := mayB_len hM; dsimp only; omega, Int.le_refl _, by dsimp only; omega⟩
    by_cases h0 : 0 ≤ k
    · have d0 : decide (k < 0) = false := decide_eq_false (by omega)
      have d1 : decide (manyP m s ⟨0, 0⟩ ≤ k) = true := decide_eq_true (by unfold wayOk at hk; exact Int.not_lt.1 fun h => hk ⟨hM, h0, h⟩)
      go_enter Try.func12, Try.ntmps12
      go_wp2_with (first
        | (go_at_call 29; refine (of_some m s A c hN hM _ hC).mono ?_; rintro e w2 ⟨g, gm, rfl, hmade, hb2⟩)
        | (go_at_call 30; refine (many_calls m s A c g gm hN hM hs hfew hmade.2.2.2.2 w hmade.2.2.1 hC _ ⟨0, 0⟩ (Nat.lt_succ_self _) hin _ 0 _ hb2 hmade.1 hmade.2.1 ⟨fun q _ h => by simp [Maps.has] at h, Nat.zero_le _⟩).mono ?_; rintro e w3 ⟨rfl, hg3, _⟩))
      go_ret2
      exact ⟨rfl, hb2.grown hg3 hb2.size (fun j hj => by cases hj; exact hmade.2.2.1)⟩
    · have d0 : decide (k < 0) = true := decide_eq_true (by omega)
      go_enter Try.func12, Try.ntmps12
      go_wp2_with (go_at_call 29; refine (of_some m s A c hN hM _ hC).mono ?_; rintro e w2 ⟨g, gm, rfl, hmade, hb2⟩)
      go_ret2
      exact ⟨rfl, hb2⟩

theorem Blk.not_row {W : World} {B : Nat} {t e : TypeId} {cs : Array Value} (h : Blk W B t cs) (hte : t ≠ e) {base size k : Nat} {v : Value} {xs : List Value} (hr : W.ownsRow base e size v k xs) : some B ≠ v.ownBlock := fun e => by
  rcases hr.2 with ⟨rfl, _⟩ | ⟨g, cap, cur, rfl, _, hg, _⟩
  · cases e
  · have : B = g := by injection e
    subst this
    have h' : W.heap[B]? = some (.cells cs t (0, 0)) := h
    rw [h'] at hg
    injection hg with hg
    injection hg with _ hg
    exact hte hg
theorem map_not_row {W : World} {gm n : Nat} {D : DataW Value} (h : MapAt W gm n D) {e : TypeId} {base size k : Nat} {v : Value} {xs : List Value} (hr : W.ownsRow base e size v k xs) : some gm ≠ v.ownBlock := fun e => by
  obtain ⟨es, clock, hm, _⟩ := h
  rcases hr.2 with ⟨rfl, _⟩ | ⟨g, cap, cur, rfl, _, hg, _⟩
  · cases e
  · have : gm = g := by injection e
    subst this
    rw [hm] at hg
    injection hg with hg
    cases hg
theorem grown_set (W : World) (a : Addr) (v : Value) : W.grownBy (W.setCell a v) (some a.block) :=
  ⟨rfl, rfl, rfl, by simp, fun i _ hne => Below.heap_setCell W a v i (fun e => hne (by rw [e]))⟩
theorem Blk.free {W : World} {B : Nat} {t : TypeId} {cs : Array Value} (h : Blk W B t cs) (i : Nat) : W.frozen? ⟨B, i, none⟩ = false := by
  have h' : W.heap[B]? = some (.cells cs t (0, 0)) := h
  simp [World.frozen?, h']
theorem own_below {w w' : World} {base : Nat} {e : TypeId} {size : Nat} {v : Value} {n : Nat} {xs : List Value} (h : w.ownsRow base e size v n xs) (hb : RowKit.Below w.heap.size w w') : w'.ownsRow base e size v n xs :=
  h.kept (grown_of_below hb none) (by cases v.ownBlock <;> simp)
/-- The measure of a place that lies behind a pointer. -/
def muAt (m : List Node) (s : ByteArray) (v : Value) (W : World) : Nat := match v with
  | .pointer (some a) => match W.cell? ⟨a.block, 0, none⟩, W.cell? ⟨a.block, 1, none⟩ with
    | some (.int _ x), some (.int _ y) => muP m s ⟨x, y⟩
    | _, _ => 0
  | _ => 0
theorem muAt_blk {m : List Node} {s : ByteArray} {W : World} {B : Nat} {p : Place} (h : Blk W B 68 #[.int .i64 p.f0, .int .i64 p.f1]) : muAt m s (.pointer (some ⟨B, 0, none⟩)) W = muP m s p := by
  have h0 := h.cell 0
  have h1 := h.cell 1
  simp only [List.getElem?_toArray, List.getElem?_cons_zero, List.getElem?_cons_succ] at h0 h1
  unfold muAt
  simp only [h0, h1]

set_option maxRecDepth 100000 in
set_option maxHeartbeats 1000000 in
theorem way_good (m : List Node) (s : ByteArray) (A : Option Addr) (c : Nat) (k : Int) (hN : ∀ x ∈ m, NodeOk x) (hs : s.size ≤ 9223372036854775807) (hfew : m.length * (s.size + 1) < maxLen) (hmu : muP m s ⟨0, 0⟩ ≤ 1000000000) (hk : wayOk m s k) (w : World) (hC : kNode.C w A m.length m) :
    Calls Try.prog 12 #[.slice A m.length c, .string s, .int .i64 k] w fun e w' => ∃ v, e = .returned (.tuple #[v, .bool true]) ∧ w'.ownsRow w.heap.size 31 2 v (wayP m s ⟨0, 0⟩ k).length ((wayP m s ⟨0, 0⟩ k).flatMap encHit) ∧ RowKit.Below w.heap.size w w' := by
  obtain ⟨hM, h0, h1⟩ := hk
  have hin : InP m s ⟨0, 0⟩ := ⟨Int.le_refl _, by have := mayB_len hM; dsimp only; omega, Int.le_refl _, by dsimp only; omega⟩
  have d0 : decide (k < 0) = false := decide_eq_false (by omega)
  have d1 : decide (manyP m s ⟨0, 0⟩ ≤ k) = false := decide_eq_false (by omega)
  go_enter Try.func12, Try.ntmps12
  go_wp2_with (first
    | (go_at_call 29; refine (of_some m s A c hN hM _ hC).mono ?_; rintro e w2 ⟨g, gm, rfl, hmade, hb2⟩)
    | (go_at_call 30; refine (many_calls m s A c g gm hN hM hs hfew hmade.2.2.2.2 w hmade.2.2.1 hC _ ⟨0, 0⟩ (Nat.lt_succ_self _) hin _ 0 _ hb2 hmade.1 hmade.2.1 ⟨fun q _ h => by simp [Maps.has] at h, Nat.zero_le _⟩).mono ?_; rintro e w3 ⟨rfl, hg3, n3, D3, hm3, hfin3, _⟩))
  have hgmlt : gm < w3.heap.size := World.ownsMap.lt hm3
  have HB3 := Aside0.mk (hb2.grown hg3 hb2.size (fun j hj => by cases hj; exact hmade.2.2.1))
  have hF3 := hmade.1.kept hg3 (by have := hmade.2.2.2.2; simp; omega)
  have hsz3 : w.heap.size ≤ w3.heap.size := HB3.out.size
  have hglt : g < w3.heap.size := hF3.lt
  have hlen := way_len hM (muP m s ⟨0, 0⟩ + 1) ⟨0, 0⟩ k (Nat.lt_succ_self _) hin h0 h1
  have hgm0 := hmade.2.2.1
  have hggm := hmade.2.2.2.2
  clear hmade hg3 hb2 d0 d1
  have HLEN := Aside0.mk (Nat.le_trans hlen hmu)
  clear hlen hmu
  go_loopw [2, 9, 10] (fun kv v pv wr => ∃ (p : Place) (kk : Int) (pre : List Hit) (B : Nat), kv = .int .i64 kk ∧ pv = .pointer (some ⟨B, 0, none⟩) ∧ InP m s p ∧ 0 ≤ kk ∧ kk < manyP m s p ∧ Aside0 (wayP m s ⟨0, 0⟩ k = pre ++ wayP m s p kk) ∧
    Blk wr B 68 #[.int .i64 p.f0, .int .i64 p.f1] ∧ w.heap.size ≤ B ∧ gm < B ∧ B ≠ g ∧ wr.ownsRow w.heap.size 31 2 v pre.length (pre.flatMap encHit) ∧ FndAt wr g A m.length c s gm ∧ Aside0 (RowKit.Below w.heap.size w wr) ∧ ∃ n' D', MapAt wr gm n' D' ∧ FinD m s n' D') (fun _ _ pv wr => muAt m s pv wr)
  case atStart =>
    exact ⟨⟨0, 0⟩, k, [], w3.heap.size, rfl, rfl, hin, h0, h1, ⟨rfl⟩, Blk.new w3 _ _, hsz3, hgmlt, by omega, World.ownsRow_nil _ _ _ _, hF3.kept (World.grownBy_alloc w3 _ none) (by simp), ⟨HB3.out.alloc hsz3 _⟩, n3, D3, World.ownsMap.alloc hm3 _, hfin3⟩
  case round =>
    obtain ⟨p, kk, pre, B, rfl, rfl, hp, hk0, hk1, HW, hBlk, hwB, hgB, hBg, hown, hF, HB, n4, D4, hm4, hfin4⟩ := hrel
    have j0 := hBlk.cell 0
    have j1 := hBlk.cell 1
    simp only [List.getElem?_toArray, List.getElem?_cons_zero, List.getElem?_cons_succ] at j0 j1
    have hends := Aside0.mk (ends_calls m s A c g gm p hp wr (Kd.C_below hC HB.out) hF)
    unfold valPlace at hends
    cases hE : endsP m s p
    · have hnode := fun (w4 : World) (hb4 : RowKit.Below wr.heap.size wr w4) => at_Node (Kd.C_below hC (HB.out.trans (hb4.mono HB.out.size))) p.f0 hp.1 hp.2.1
      have HPK := Aside0.mk (pick_in hM hp hE hk0 hk1)
      have HST := Aside0.mk (wayP_step hM hp hE hk0 hk1)
      have e0 : decide (0 ≤ p.f0) = true := decide_eq_true hp.1
      have e1 : decide (p.f0 < (m.length : Int)) = true := decide_eq_true hp.2.1
      have hp1 := hp.1
      have hp2 := hp.2.1
      have hwB' := hBlk.lt
      have hsum : kk < sumP m s (nextsP m s p) := by
        have := manyP_sum (s := s) hM hp
        rw [hE] at this
        simp at this
        omega
      have hLm := nextsP_len hN s hp
      have hLin := Aside0.mk (fun q (hq : q ∈ nextsP m s p) => next_in hM hp hq)
      have hsz := HB.out.size
      by_cases hk3 : (rd_Node m p.f0).f0 = 3
      case' pos =>
        have hmk : markP m p = [⟨(rd_Node m p.f0).f3, p.f1⟩] := by unfold markP; rw [if_pos hk3]
        have e2 : ((rd_Node m p.f0).f0 == 3) = true := beq_iff_eq.2 hk3
        obtain ⟨i0, hi, hz0, hz1, hz2⟩ := info_parts infoHit
        have HW5 := Aside0.mk (HW.out.trans (congrArg (pre ++ ·) HST.out))
        rw [hmk, ← List.append_assoc] at HW5
        have hpl : pre.length + 1 ≤ 1000000000 := by
          have h := HLEN.out
          rw [HW5.out, List.length_append, List.length_append] at h
          simp at h
          omega
        have hb1 : pre.length + 1 ≤ maxLen := by unfold maxLen; omega
        have hb2 : (pre.length + 1) * 16 ≤ 140737488355328 := by omega
        generalize rd_Node m p.f0 = x at hnode hmk e2 HW5
        obtain ⟨y0, y1, y2, y3, y4⟩ := x
        dsimp only at hnode hmk e2 HW5
        go_wp2_with (first
          | (go_at_call 31; refine hends.out.mono ?_; rintro e w4 ⟨rfl, hb4⟩; obtain ⟨ad, A1, c1, A2, c2, hA, x0, x1, x2, x3, x4, hl1, g1, hl2, g2⟩ := hnode w4 hb4; subst hA; have k0 := (hb4.cell (p := ⟨B, 0, none⟩) hwB').trans j0; have k1 := (hb4.cell (p := ⟨B, 1, none⟩) hwB').trans j1; have q0 := World.new_ne _ _ k0; have k0' : ∀ o, (w4.alloc o).cell? ⟨B, 0, none⟩ = some (.int .i64 p.f0) := fun o => ((below_alloc (RowKit.Below.refl w4.heap.size w4) o).cell (World.block_lt_of_cell? w4 _ k0)).trans k0; have k1' : ∀ o, (w4.alloc o).cell? ⟨B, 1, none⟩ = some (.int .i64 p.f1) := fun o => ((below_alloc (RowKit.Below.refl w4.heap.size w4) o).cell (World.block_lt_of_cell? w4 _ k1)).trans k1; have hown4 := own_below hown hb4; have hnw := encHit_new ⟨y3, p.f1⟩ (w4.alloc (.cells #[.int .i64 y0, .slice A1 y1.length c1, .slice A2 y2.length c2, .int .i64 y3, .int .i64 y4] 49)); rw [World.size_alloc] at hnw)
          | (at_builtin; refine wpList_append_own _ rfl _ _ 25 rfl w.heap.size 31 i0 (.agg #[.int .i64 0, .int .i64 0]) 2 16 Try.underlying25 hi hz0 hz1 hz2 rfl (by decide) _ _ _ rfl ((hown4.alloc _).alloc _) ⟨w4.heap.size + 1, 0, none⟩ 1 1 (encHit ⟨y3, p.f1⟩) rfl rfl hnw (encHit_one _) hb1 hb2 (by simp; have := hb4.size; omega) ?_; intro v' w41 hown41 hgrow _; have hgA := (grown_of_below hb4 _).trans ((World.grownBy_alloc w4 _ _).trans ((World.grownBy_alloc _ _ _).trans hgrow)); have bB4 := hBlk.kept hgA (hBlk.not_row (by decide) hown); have t0 := bB4.cell 0; have t1 := bB4.cell 1; simp only [List.getElem?_toArray, List.getElem?_cons_zero, List.getElem?_cons_succ] at t0 t1; have HB4 := Aside0.mk (HB.out.grown hgA HB.out.size (own_base hown)); have hF4 := hF.kept hgA (Blk.not_row hF (by decide) hown); have hm41 := World.ownsMap.kept hm4 hgA (map_not_row hm4 hown))
          | (go_at_call 32; refine (next_calls m s _ c g gm p hp _ (Kd.C_below hC HB4.out) hF4 hN hM hs).mono ?_; rintro e w5 ⟨v5, rfl, hrow, hb5⟩; obtain ⟨AL, cL, rfl, hcell⟩ := own_places hrow))
        have bB5 := bB4.kept (grown_of_below hb5 none) (by simp)
        have hF5 := hF4.kept (grown_of_below hb5 none) (by simp)
        have hm5 := World.ownsMap.kept hm41 (grown_of_below hb5 none) (by simp)
        have hown5 : w5.ownsRow w.heap.size 31 2 v' (pre ++ [(⟨y3, p.f1⟩ : Hit)]).length ((pre ++ [(⟨y3, p.f1⟩ : Hit)]).flatMap encHit) := by
          have := own_below hown41 hb5
          rw [List.length_append, List.flatMap_append]
          simpa using this
        have HB5 := Aside0.mk (HB4.out.trans (hb5.mono HB4.out.size))
        have hcell5 := Aside0.mk (hcell gm (World.ownsMap.lt hm41))
        clear hown41 hgA bB4 t0 t1 hF4 hm41 hown4 hnw
      case' neg =>
        have hmk : markP m p = [] := by unfold markP; rw [if_neg hk3]
        have e2 : ((rd_Node m p.f0).f0 == 3) = false := beq_eq_false_iff_ne.2 hk3
        go_wp2_with (first
          | (go_at_call 31; refine hends.out.mono ?_; rintro e w4 ⟨rfl, hb4⟩; obtain ⟨ad, A1, c1, A2, c2, hA, x0, x1, x2, x3, x4, hl1, g1, hl2, g2⟩ := hnode w4 hb4; subst hA; have k0 := (hb4.cell (p := ⟨B, 0, none⟩) hwB').trans j0; have k1 := (hb4.cell (p := ⟨B, 1, none⟩) hwB').trans j1; have q0 := World.new_ne _ _ k0; have k0' : ∀ o, (w4.alloc o).cell? ⟨B, 0, none⟩ = some (.int .i64 p.f0) := fun o => ((below_alloc (RowKit.Below.refl w4.heap.size w4) o).cell (World.block_lt_of_cell? w4 _ k0)).trans k0; have k1' : ∀ o, (w4.alloc o).cell? ⟨B, 1, none⟩ = some (.int .i64 p.f1) := fun o => ((below_alloc (RowKit.Below.refl w4.heap.size w4) o).cell (World.block_lt_of_cell? w4 _ k1)).trans k1)
          | (go_at_call 32; refine (next_calls m s _ c g gm p hp _ (Kd.C_below hC ((HB.out.trans (hb4.mono HB.out.size)).alloc (Nat.le_trans hsz hb4.size) _)) ((hF.kept (grown_of_below hb4 none) (by simp)).kept (World.grownBy_alloc _ _ none) (by simp)) hN hM hs).mono ?_; rintro e w5 ⟨v5, rfl, hrow, hb5⟩; obtain ⟨AL, cL, rfl, hcell⟩ := own_places hrow))
        have hg45 : wr.grownBy w5 none := (grown_of_below hb4 none).trans ((World.grownBy_alloc w4 _ none).trans (grown_of_below hb5 none))
        have bB5 := hBlk.kept hg45 (by simp)
        have hF5 := hF.kept hg45 (by simp)
        have hm5 := World.ownsMap.kept hm4 hg45 (by simp)
        have hown5 := hown.kept hg45 (by cases u9.ownBlock <;> simp)
        have HB5 := Aside0.mk (HB.out.grown hg45 HB.out.size (fun j hj => by cases hj))
        have HW5 := Aside0.mk (HW.out.trans (congrArg (pre ++ ·) HST.out))
        rw [hmk, List.nil_append] at HW5
        have hcell5 := Aside0.mk (hcell gm (by rw [World.size_alloc]; have := hb4.size; omega))
      all_goals
        generalize hpk : pickP m s p (nextsP m s p) kk = PK at HPK HW5
        have HPE := Aside0.mk hpk
        clear hpk HST HW hends hnode
        generalize nextsP m s p = L at hcell5 hLm hLin hsum HPK HPE hrow ⊢
        clear hrow x0 x1 x2 x3 x4 hl1 g1 hl2 g2 hcell hb5 k0 k1 k0' k1' j0 j1
        go_loopw [2, 56] (fun kv i wr' => ∃ (j : Nat) (k' : Int), j ≤ L.length ∧ i = .int .i64 j ∧ kv = .int .i64 k' ∧ 0 ≤ k' ∧ k' ≤ kk ∧ k' < sumP m s (L.drop j) ∧ Aside0 (pickP m s p (L.drop j) k' = PK) ∧ Aside0 (w5.grownBy wr' (some gm)) ∧ ∃ n' D', MapAt wr' gm n' D' ∧ FinD m s n' D') (fun _ i _ => L.length - (intOf i).toNat)
        case atStart => exact ⟨0, kk, Nat.zero_le _, rfl, rfl, hk0, Int.le_refl _, hsum, HPE, ⟨grown_of_below (RowKit.Below.refl _ _) _⟩, n4, D4, hm5, hfin4⟩
        case round =>
          obtain ⟨j, k', hj, rfl, rfl, hk0', hkk, hk1', HPJ, HG6, n6, D6, hm6, hfin6⟩ := hrel
          have hjl : j < L.length := by
            rcases Nat.lt_or_ge j L.length with h | h
            · exact h
            · rw [List.drop_eq_nil_of_le h] at hk1'
              simp [sumP] at hk1'
              omega
          obtain ⟨al, hAL, y0, y1⟩ := hcell5.out wr HG6.out j hjl
          subst hAL
          have hgd : L.getD j zPlace = L[j] := by rw [List.getD_eq_getElem?_getD, List.getElem?_eq_getElem hjl]; rfl
          have hdr : L.drop j = L.getD j zPlace :: L.drop (j + 1) := by rw [hgd]; exact List.drop_eq_getElem_cons hjl
          have hq := hLin.out (L.getD j zPlace) (by rw [hgd]; exact List.getElem_mem _)
          rw [hdr] at hk1' HPJ
          clear hdr hgd
          generalize L.getD j zPlace = q at hk1' HPJ hq y0 y1
          have hpj := HPJ.out
          unfold pickP at hpj
          rw [sumP_cons] at hk1'
          have hr := manyP_range m s q
          have hrp := manyP_range m s p
          have hBw := below_of_grown HB5.out hgm0 HG6.out
          have hBwa := hBw.alloc hBw.size (.cells #[.int .i64 q.f0, .int .i64 q.f1] 68)
          have hFw := hF5.kept HG6.out (by simp; omega)
          have hga := World.grownBy_alloc wr (.cells #[.int .i64 q.f0, .int .i64 q.f1] 68) (some gm)
          have hFwa := hFw.kept hga (by simp; omega)
          have hwr : IntKind.i64.wrap (k' - manyP m s q) = k' - manyP m s q := IntWalk.i64_in _ (by omega)
          have mq := Aside0.mk (many_calls m s _ c g gm hN hM hs hfew hggm w hgm0 hC (muP m s q + 1) q (Nat.lt_succ_self _) hq.1 _ n6 D6 hBwa hFwa (World.ownsMap.alloc hm6 _) hfin6)
          unfold valPlace at mq
          have bB6 := bB5.kept HG6.out (by simp; omega)
          have hgm6 := World.ownsMap.lt hm6
          clear hcell5 HPJ hFw hBw
          by_cases hlt : k' < manyP m s q
          · have d1 : decide (k' < manyP m s q) = true := decide_eq_true hlt
            rw [if_pos hlt] at hpj
            subst hpj
            go_wp2_with (go_at_call 30; refine mq.out.mono ?_; rintro e w7 ⟨rfl, hg7, n7, D7, hm7, hfin7, _⟩; have z := (Blk.new wr 68 #[.int .i64 q.f0, .int .i64 q.f1]).kept hg7 (by simp; omega); have z0 := z.cell 0; have z1 := z.cell 1; have bB7 := (bB6.kept hga (by simp; omega)).kept hg7 (by simp; omega); have z2 := bB7.cell 0; have z3 := bB7.cell 1; have z4 := bB7.free 0; have z5 := bB7.free 1; simp only [List.getElem?_toArray, List.getElem?_cons_zero, List.getElem?_cons_succ] at z0 z1 z2 z3)
            have hgs := (grown_set w7 ⟨B, 0, none⟩ (.int .i64 q.f0)).trans (grown_set (w7.setCell ⟨B, 0, none⟩ (.int .i64 q.f0)) ⟨B, 1, none⟩ (.int .i64 q.f1))
            have hown6 := hown5.kept HG6.out (.inr (map_not_row hm5 hown5).symm)
            have hown7 := (hown6.kept hga (.inr (map_not_row hm6 hown6).symm)).kept hg7 (.inr (map_not_row hm6 hown6).symm)
            have hown8 := hown7.kept hgs (.inr (bB7.not_row (by decide) hown7).symm)
            have hF7 := hFwa.kept hg7 (by simp; omega)
            have hF8 := hF7.kept hgs (by simp; omega)
            have hb7 := below_of_grown hBwa hgm0 hg7
            have hb8 := (hb7.setCell (p := ⟨B, 0, none⟩) hwB (.int .i64 q.f0)).setCell (p := ⟨B, 1, none⟩) hwB (.int .i64 q.f1)
            have hm8 := World.ownsMap.setCell (World.ownsMap.setCell hm7 (a := ⟨B, 0, none⟩) (by simp; omega) (.int .i64 q.f0)) (a := ⟨B, 1, none⟩) (by simp; omega) (.int .i64 q.f1)
            have hnew := Blk.new ((w7.setCell ⟨B, 0, none⟩ (.int .i64 q.f0)).setCell ⟨B, 1, none⟩ (.int .i64 q.f1)) 68 #[.int .i64 q.f0, .int .i64 q.f1]
            have hS8 : ((w7.setCell ⟨B, 0, none⟩ (.int .i64 q.f0)).setCell ⟨B, 1, none⟩ (.int .i64 q.f1)).heap.size = w7.heap.size := by simp
            rw [hS8] at hnew
            have hlt7 := World.ownsMap.lt hm7
            have hg7' := hF7.lt
            have hs8 := hb7.size
            refine ⟨⟨q, k', _, w7.heap.size, rfl, rfl, hq.1, hk0', hlt, HW5, hnew, hb7.size, hlt7, by omega, hown8.alloc _, hF8.kept (World.grownBy_alloc _ _ none) (by simp), ⟨hb8.alloc (by rw [hS8]; exact hb7.size) _⟩, n7, D7, World.ownsMap.alloc hm8 _, hfin7⟩, ?_⟩
            rw [muAt_blk hnew, muAt_blk hBlk]
            exact hq.2
          · have d1 : decide (k' < manyP m s q) = false := decide_eq_false hlt
            rw [if_neg hlt] at hpj
            go_wp2_with (go_at_call 30; refine mq.out.mono ?_; rintro e w7 ⟨rfl, hg7, n7, D7, hm7, hfin7, _⟩)
            exact ⟨⟨j + 1, k' - manyP m s q, by omega, by go_num, rfl, by omega, by omega, by omega, ⟨hpj⟩, ⟨HG6.out.trans (hga.trans hg7)⟩, n7, D7, hm7, hfin7⟩, by simp [intOf]; omega⟩
    · go_wp2_with (go_at_call 31; refine hends.out.mono ?_; rintro e w4 ⟨rfl, hb4⟩)
      go_ret2
      have := HW.out
      rw [wayP_end hE, List.append_nil] at this
      rw [this]
      exact ⟨_, rfl, own_below hown hb4, HB.out.trans (hb4.mono HB.out.size)⟩

end Go.Proofs.Ytcbflajacioinaa
