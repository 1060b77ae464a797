/- find: how many ways there are from a place on. -/
import Derived.BigQuiet
import Derived.Deep.RegionHeld3
import Derived.Outline
import Derived.Deep.QuietTactic
import Derived.Test.YtcbflajacioinaaFindNext
import Derived.Test.YtcbflajacioinaaFindMap
namespace Go.Proofs.Ytcbflajacioinaa
open Go.RowKit Go.Shelf Go.Proofs.YtcbflajacioinaaW.PrintWords Go.Proofs.YtcbflajacioinaaW.PrintLast

abbrev MapAt (W : World) (gm n : Nat) (D : DataW Value) : Prop := W.ownsMap Try.prog 68 (plainElem Try.prog 3) gm n D

/-- The map holds no more than before, but places from which no more lies ahead. -/
def FinUp (m : List Node) (s : ByteArray) (d : Nat) (D D' : DataW Value) : Prop := ∀ q, InP m s q → d ≤ muP m s q → Maps.has D' (placeKey q.f0 q.f1) = Maps.has D (placeKey q.f0 q.f1)

theorem look_map {w : World} {gm n : Nat} {D : DataW Value} (h : MapAt w gm n D) {key : Value} {kl : Lit} (hkey : keyOf Try.prog 68 key = some kl) :
    ∃ c, D.atKey kl (.lit (.int .i64 0)) = .lit (.int .i64 c) ∧ (Instr.lookup 83 (.map (some gm)) key true).run Try.prog w = .ok (.tuple #[.int .i64 c, .bool (Maps.has D kl)]) w := by
  obtain ⟨v, ps, hrun, hv⟩ := World.ownsMap.look_ok h placeLaw Try.underlying83 (zeroInt w) (plainElem_int Try.underlying3 (by decide)) hkey
  obtain ⟨c, rfl, hc, hwc⟩ := plainElem_int_inv Try.underlying3 hv
  exact ⟨c, congrArg Prod.fst hc, hrun⟩
theorem upd_map {w : World} {gm n : Nat} {D : DataW Value} (h : MapAt w gm n D) (hn : n < maxLen) {key : Value} {kl : Lit} (hkey : keyOf Try.prog 68 key = some kl) (c : Int) (hc : (Lit.int .i64 c).wf = true) :
    ∃ w', (Instr.mapUpdate 83 (.map (some gm)) key (.int .i64 c)).run Try.prog w = .ok () w' ∧ MapAt w' gm (n + 1) (D.put kl (.lit (.int .i64 c))) ∧ w.grownBy w' (some gm) :=
  World.ownsMap.update h placeLaw Try.underlying83 hn hkey (plainElem_int Try.underlying3 hc)

theorem FinUp.refl (m : List Node) (s : ByteArray) (d : Nat) (D : DataW Value) : FinUp m s d D D := fun _ _ _ => rfl
theorem FinUp.trans {m : List Node} {s : ByteArray} {d : Nat} {D D' D'' : DataW Value} (h : FinUp m s d D D') (h' : FinUp m s d D' D'') : FinUp m s d D D'' := fun q hq hd => (h' q hq hd).trans (h q hq hd)
theorem FinUp.mono {m : List Node} {s : ByteArray} {d d' : Nat} {D D' : DataW Value} (h : FinUp m s d D D') (hd : d ≤ d') : FinUp m s d' D D' := fun q hq hh => h q hq (Nat.le_trans hd hh)
theorem FinUp.put {m : List Node} {s : ByteArray} {D : DataW Value} {p : Place} (hp : InP m s p) (hm : m.length ≤ 9223372036854775807) (hs : s.size ≤ 9223372036854775807) (u : DataW Value) : FinUp m s (muP m s p + 1) D (D.put (placeKey p.f0 p.f1) u) := fun q hq hd =>
  Maps.has_put_other (placeKey_ne hq hp hm hs (fun e => by rw [e] at hd; omega)) _
theorem below_of_grown {w0 w w' : World} {gm : Nat} (h : RowKit.Below w0.heap.size w0 w) (h0 : w0.heap.size ≤ gm) (hg : w.grownBy w' (some gm)) : RowKit.Below w0.heap.size w0 w' := h.grown hg h.size (fun k hk => by cases hk; exact h0)
theorem own_places {w : World} {base : Nat} {v : Value} {l : List Place} (h : w.ownsRow base 68 2 v l.length (l.flatMap encPlace)) : ∃ A cap, v = .slice A l.length cap ∧ ∀ gm, gm < base → ∀ w', w.grownBy w' (some gm) → ∀ i, i < l.length → ∃ ad, A = some ad ∧
    w'.cell? (ad.add (i * 2)) = some (.int .i64 (l.getD i zPlace).f0) ∧ w'.cell? ⟨(ad.add (i * 2)).block, (ad.add (i * 2)).off + 1, none⟩ = some (.int .i64 (l.getD i zPlace).f1) := by
  rcases h.2 with ⟨rfl, hn⟩ | ⟨g, cap, cur, rfl, hb, hr⟩
  · rw [hn]
    exact ⟨none, 0, rfl, fun _ _ _ _ i hi => absurd hi (Nat.not_lt_zero _)⟩
  · refine ⟨_, _, rfl, fun gm hgm w' hg i hi => ⟨_, rfl, ?_⟩⟩
    have hk := h.kept hg (.inr (by simp [Value.ownBlock]; omega))
    have hc := hk.cells (g := g) rfl
    have e0 := flatMap_get (f := encPlace) (k := 2) (fun _ => rfl) l i 0 hi (by decide)
    have e1 := flatMap_get (f := encPlace) (k := 2) (fun _ => rfl) l i 1 hi (by decide)
    rw [List.getD_eq_getElem?_getD, List.getElem?_eq_getElem hi]
    exact ⟨hc _ _ e0, by rw [← add_field _ _ 1 (by omega)]; exact hc _ _ e1⟩

theorem nextsP_len {m : List Node} (hN : ∀ x ∈ m, NodeOk x) (s : ByteArray) {p : Place} (hp : InP m s p) : (nextsP m s p).length ≤ 1000000000 := by
  obtain ⟨_, h1, h2⟩ := hN _ (rd_Node_mem m p.f0 hp.1 hp.2.1)
  unfold nextsP
  split
  · simp
  · split
    · rw [List.length_map]; exact h2
    · split
      · rw [List.length_map]; exact Nat.le_trans (List.length_filter_le _ _) h1
      · simp

def preP (m : List Node) (s : ByteArray) (a : Int) (l : List Place) : Int := l.foldl (fun n q => min (n + manyP m s q) 1000) a
theorem preP_range (m : List Node) (s : ByteArray) (l : List Place) : ∀ a : Int, 0 ≤ a ∧ a ≤ 1000 → 0 ≤ preP m s a l ∧ preP m s a l ≤ 1000 := by
  unfold preP
  induction l with
  | nil => intro a h; exact h
  | cons q l ih => intro a h; have := manyP_range m s q; exact ih _ (by dsimp only; omega)
theorem preP_snoc (m : List Node) (s : ByteArray) (a : Int) (l : List Place) (q : Place) : preP m s a (l ++ [q]) = min (preP m s a l + manyP m s q) 1000 := by
  unfold preP; rw [List.foldl_append]; rfl

set_option maxRecDepth 100000 in
set_option maxHeartbeats 1000000 in
theorem many_calls (m : List Node) (s : ByteArray) (A : Option Addr) (c g gm : Nat) (hN : ∀ x ∈ m, NodeOk x) (hM : mayB m = true) (hs : s.size ≤ 9223372036854775807) (hfew : m.length * (s.size + 1) < maxLen) (hg : g ≠ gm) (w0 : World) (h0 : w0.heap.size ≤ gm) (hC : kNode.C w0 A m.length m) :
    ∀ (d : Nat) (p : Place), muP m s p < d → InP m s p → ∀ (w : World) (n : Nat) (D : DataW Value), RowKit.Below w0.heap.size w0 w → FndAt w g A m.length c s gm → MapAt w gm n D → FinD m s n D →
    Calls Try.prog 30 #[.pointer (some ⟨g, 0, none⟩), valPlace p] w fun e w' => e = .returned (.int .i64 (manyP m s p)) ∧ w.grownBy w' (some gm) ∧ ∃ n' D', MapAt w' gm n' D' ∧ FinD m s n' D' ∧ FinUp m s (muP m s p + 1) D D' := by
  intro d
  induction d with
  | zero => intro p hd; omega
  | succ d ih =>
    intro p hd hp w n D hB hF hown hfin
    have hm : m.length ≤ 9223372036854775807 := hC.2.1
    obtain ⟨hwa, hwb⟩ := InP_wf hp hm hs
    have hkey := key_place p.f0 p.f1 hwa hwb
    have b0 := hF
    have f0 := b0.cell 0
    have f1 := b0.cell 1
    have f2 := b0.cell 2
    simp only [List.getElem?_toArray, List.getElem?_cons_zero, List.getElem?_cons_succ] at f0 f1 f2
    unfold valPlace
    have p0 := (Blk.new w 68 #[.int .i64 p.f0, .int .i64 p.f1])
    have hown1 := World.ownsMap.drew (World.ownsMap.alloc hown (.cells #[.int .i64 p.f0, .int .i64 p.f1] 68))
    obtain ⟨c0, hc0, hlook⟩ := look_map hown1 hkey
    have q1 : w.heap.size ≠ g := fun e => by have := hF.lt; omega
    have f2' := hF.kept (World.grownBy_alloc w (.cells #[.int .i64 p.f0, .int .i64 p.f1] 68) none) (by simp)
    have k0 := p0.cell 0
    have k1 := p0.cell 1
    have k2 := f2'.cell 2
    simp only [List.getElem?_toArray, List.getElem?_cons_zero, List.getElem?_cons_succ] at k0 k1 k2
    have HB := Aside0.mk (World.grownBy_alloc w (.cells #[.int .i64 p.f0, .int .i64 p.f1] 68) (some gm))
    clear f0 f1 f2 b0
    generalize hw : w.alloc (.cells #[.int .i64 p.f0, .int .i64 p.f1] 68) = W at *
    by_cases hh : Maps.has D (placeKey p.f0 p.f1) = true
    · rw [hh] at hlook
      have hv := hfin.1 p hp hh
      rw [hc0] at hv
      have hv : c0 = manyP m s p := by injection hv with hv; injection hv with _ hv
      subst hv
      go_enter Try.func30, Try.ntmps30
      go_wp2_with fail
      go_region_held3 (fun w' => w'.cell? ⟨g, 2, none⟩ = some (.map (some gm)) ∧ w'.cell? ⟨w.heap.size, 0, none⟩ = some (.int .i64 p.f0) ∧ w'.cell? ⟨w.heap.size, 1, none⟩ = some (.int .i64 p.f1)) (go_keep) (fail)
      all_goals go_wp2_with fail
      go_ret
      exact ⟨rfl, HB.out.trans (grown_of_below (below_drew1 (RowKit.Below.refl _ _)) _), n, D, hown1, hfin, FinUp.refl _ _ _ _⟩
    · have hh : Maps.has D (placeKey p.f0 p.f1) = false := by simpa using hh
      rw [hh] at hlook
      have HG1 := Aside0.mk (HB.out.trans (grown_of_below (below_drew1 (RowKit.Below.refl W.heap.size W)) (some gm)))
      have hlt : gm < w.heap.size := World.ownsMap.lt hown
      have hltW : gm < W.drew.heap.size := World.ownsMap.lt hown1
      have hsz : w.heap.size < W.heap.size := p0.lt
      have hkW0 := World.block_lt_of_cell? W _ k0
      have hkW1 := World.block_lt_of_cell? W _ k1
      cases hE : endsP m s p
      all_goals
        go_enter Try.func30, Try.ntmps30
        go_wp2_with fail
        go_region_held3 (fun w' => w'.cell? ⟨g, 2, none⟩ = some (.map (some gm)) ∧ w'.cell? ⟨w.heap.size, 0, none⟩ = some (.int .i64 p.f0) ∧ w'.cell? ⟨w.heap.size, 1, none⟩ = some (.int .i64 p.f1)) (go_keep) (fail)
        go_wp2_with (first
          | (go_at_call 31; refine (ends_calls m s A c g gm p hp _ (Kd.C_below hC (below_of_grown hB h0 HG1.out)) (hF.kept HG1.out (by simp; omega))).mono ?_; rintro e w2 ⟨rfl, hb2⟩; have j0 := (hb2.cell hkW0).trans k0; have j1 := (hb2.cell hkW1).trans k1; have HG2 := Aside0.mk (HG1.out.trans (grown_of_below hb2 (some gm))))
          | (go_at_call 32; refine (next_calls m s A c g gm p hp _ (Kd.C_below hC (below_of_grown hB h0 HG2.out)) (hF.kept HG2.out (by simp; omega)) hN hM hs).mono ?_; rintro e w3 ⟨v, rfl, hrow, hb3⟩; obtain ⟨AL, cL, rfl, hcell⟩ := own_places hrow))
      all_goals
        have HG3 := Aside0.mk (HG2.out.trans (grown_of_below hb3 (some gm)))
        have hm3 : MapAt w3 gm n D := World.ownsMap.kept (World.ownsMap.kept hown1 (grown_of_below hb2 none) (by simp)) (grown_of_below hb3 none) (by simp)
        have hgw2 : gm < w2.heap.size := Nat.lt_of_lt_of_le hltW hb2.size
        have hcell := Aside0.mk (hcell gm hgw2)
        have hLm : (nextsP m s p).length ≤ 1000000000 := nextsP_len hN s hp
        have hLin := Aside0.mk (fun q (hq : q ∈ nextsP m s p) => next_in hM hp hq)
        have hEq := Aside0.mk (manyP_eq (s := s) hM hp)
        have hst : Aside0 ((0 : Int) ≤ (if endsP m s p then 1 else 0) ∧ (if endsP m s p then 1 else 0) ≤ (1000 : Int)) := ⟨by rw [hE]; decide⟩
        have hwg : w.heap.size ≠ gm := by omega
        have j0 := (hb3.cell (World.block_lt_of_cell? _ _ j0)).trans j0
        have j1 := (hb3.cell (World.block_lt_of_cell? _ _ j1)).trans j1
        generalize nextsP m s p = L at hcell hLm hLin hEq hrow ⊢
        clear hrow hb2 hb3 hlook k0 k1 k2 f2' hkW0 hkW1
        go_loopw [7, 28] (fun nv i wr => ∃ k : Nat, k ≤ L.length ∧ i = .int .i64 k ∧ nv = .int .i64 (preP m s (if endsP m s p then 1 else 0) (L.take k)) ∧ Aside0 (w3.grownBy wr (some gm)) ∧ ∃ n' D', MapAt wr gm n' D' ∧ FinD m s n' D' ∧ FinUp m s (muP m s p) D D') (fun _ i _ => L.length - (intOf i).toNat)
        case atStart => exact ⟨0, Nat.zero_le _, rfl, by rw [hE]; rfl, ⟨grown_of_below (RowKit.Below.refl _ _) _⟩, n, D, hm3, hfin, FinUp.refl _ _ _ _⟩
      all_goals
        obtain ⟨k, hk', rfl, rfl, HGr, n', D', hm', hfin', hup'⟩ := hrel
        have HGw := Aside0.mk (HG3.out.trans HGr.out)
        by_cases hlt : k < L.length
        · obtain ⟨al, hAL, e0, e1⟩ := hcell.out wr HGr.out k hlt
          subst hAL
          have hq := hLin.out (L.getD k zPlace) (by rw [List.getD_eq_getElem?_getD, List.getElem?_eq_getElem hlt]; exact List.getElem_mem _)
          have hts := take_snoc' L k zPlace hlt
          generalize L.getD k zPlace = q at e0 e1 hq hts
          have hps := preP_snoc m s (if endsP m s p then 1 else 0) (L.take k) q
          rw [← hts] at hps
          have HPS := Aside0.mk hps
          have hr1 := preP_range m s (L.take k) _ hst.out
          have hr2 := manyP_range m s q
          clear hps hts
          generalize preP m s (if endsP m s p then 1 else 0) (L.take k) = a at hr1 HPS ⊢
          have hga := World.grownBy_alloc wr (.cells #[.int .i64 q.f0, .int .i64 q.f1] 68) (some gm)
          have HG4 := Aside0.mk (HGw.out.trans hga)
          have ihq := Aside0.mk (ih q (by have := hq.2; omega) hq.1 _ n' D' (below_of_grown hB h0 HG4.out) (hF.kept HG4.out (by simp; omega)) (World.ownsMap.alloc hm' _) hfin')
          unfold valPlace at ihq
          have hwr : IntKind.i64.wrap (a + manyP m s q) = a + manyP m s q := IntWalk.i64_in _ (by omega)
          have HUP := Aside0.mk (fun D5 (h : FinUp m s (muP m s q + 1) D' D5) => hup'.trans (h.mono (by have := hq.2; omega)))
          clear hfin' hup' ih hm' hq
          generalize manyP m s q = b at *
          go_wp2_with (go_at_call 30; refine ihq.out.mono ?_; rintro e w5 ⟨rfl, hg5, n5, D5, hm5, hfin5, hup5⟩)
          exact ⟨⟨k + 1, by omega, by go_num, by rw [HPS.out], ⟨HGr.out.trans (hga.trans hg5)⟩, n5, D5, hm5, hfin5, HUP.out D5 hup5⟩, by simp [intOf]; omega⟩
        · obtain rfl : k = L.length := by omega
          rw [List.take_length]
          have hpe : preP m s (if endsP m s p then 1 else 0) L = manyP m s p := hEq.out.symm
          rw [hpe]
          have hr2 := manyP_range m s p
          have hn6 : n' < maxLen := Nat.lt_of_le_of_lt (Nat.le_trans hfin'.2 (cntD_le m s D')) hfew
          obtain ⟨w6, hupd, hm6, hg6⟩ := upd_map (World.ownsMap.drew hm') hn6 hkey (manyP m s p) (wf_i64 (by omega))
          have hno : Maps.has D' (placeKey p.f0 p.f1) = false := (hup' p hp (Nat.le_refl _)).trans hh
          have hfin6 := FinD_put hfin' (World.ownsMap.isMap hm') hp hm hs hno
          have hup6 := (hup'.mono (Nat.le_succ _)).trans (FinUp.put (D := D') hp hm hs (.lit (.int .i64 (manyP m s p))))
          have hlw3 : w.heap.size < w3.heap.size := World.block_lt_of_cell? _ _ j0
          have l0 := (HGr.out.cell_far ⟨w.heap.size, 0, none⟩ hlw3 (by simp; omega)).trans j0
          have l1 := (HGr.out.cell_far ⟨w.heap.size, 1, none⟩ hlw3 (by simp; omega)).trans j1
          have l2 := (hF.kept HGw.out (by simp; omega)).cell 2
          simp only [List.getElem?_toArray, List.getElem?_cons_zero, List.getElem?_cons_succ] at l2
          have hl2 : g < wr.heap.size := World.block_lt_of_cell? _ _ l2
          have hl0 : w.heap.size < wr.heap.size := World.block_lt_of_cell? _ _ l0
          have l0' := (hg6.cell_far ⟨w.heap.size, 0, none⟩ hl0 (by simp; omega)).trans l0
          have l1' := (hg6.cell_far ⟨w.heap.size, 1, none⟩ hl0 (by simp; omega)).trans l1
          have l2' := (hg6.cell_far ⟨g, 2, none⟩ hl2 (by simp; omega)).trans l2
          have HG6 := Aside0.mk (HGw.out.trans ((grown_of_below (below_drew1 (RowKit.Below.refl wr.heap.size wr)) (some gm)).trans hg6))
          go_wp2_with fail
          go_region_held3 (fun w' => w'.cell? ⟨g, 2, none⟩ = some (.map (some gm)) ∧ w'.cell? ⟨w.heap.size, 0, none⟩ = some (.int .i64 p.f0) ∧ w'.cell? ⟨w.heap.size, 1, none⟩ = some (.int .i64 p.f1)) (go_keep) (fail)
          all_goals go_wp2_with fail
          go_ret
          exact ⟨rfl, HG6.out, _, _, hm6, hfin6, hup6⟩

end Go.Proofs.Ytcbflajacioinaa
