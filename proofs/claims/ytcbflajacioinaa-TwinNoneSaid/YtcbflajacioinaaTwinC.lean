/- Texts of one kind, one behind the other: TwinText, TwinRun, TwinTop, TwinLaw, TwinFew, Made20, Awake20, TwinBfs, TwinWays. -/
import Derived.BigQuiet
import Derived.Deep.QuietTactic
import Derived.Outline
import Derived.Test.YtcbflajacioinaaPx7
import Derived.Test.YtcbflajacioinaaTellsM
import Derived.Test.YtcbflajacioinaaTwinA
import Derived.Deep.LoopGhost
import Derived.Test.YtcbflajacioinaaPlacesWalk
import Derived.Test.YtcbflajacioinaaMade17
import Derived.Test.YtcbflajacioinaaPx6
import Derived.Test.YtcbflajacioinaaAwake17
import Derived.Test.YtcbflajacioinaaWayR

/- twin: the text by which a step was reached. -/
set_option linter.unusedSimpArgs false
set_option linter.unusedVariables false
namespace Go.Proofs.Ytcbflajacioinaa
open Go.RowKit Go.Shelf Go.Proofs.YtcbflajacioinaaW.PrintWords Go.Proofs.YtcbflajacioinaaW.PrintLast Go.Proofs.Ytcbflajacioinaa.P

/-! #### slices.Reverse -/
theorem rev_l0 (l : List Int) (hl : l.length ≤ 1000000000) : ∀ (d i : Nat) (x : List Int), l.length - i = d → x.length = l.length → (∀ t, t < l.length → x[t]? = if t < i ∨ l.length ≤ t + i then l[l.length - 1 - t]? else l[t]?) → 2 * i ≤ l.length + 1 →
    Ev (fun k => slices_Reverse_byte_byte.l0 k x i ((l.length : Int) - 1 - i)) l.reverse := by
  intro d
  induction d using Nat.strongRecOn with
  | _ d ih =>
    intro i x hd hx hget hi
    by_cases hij : (i : Int) < (l.length : Int) - 1 - i
    · have hset : ∀ t, t < l.length → ((x.set (i : Int).toNat (rd x ((l.length : Int) - 1 - i))).set ((l.length : Int) - 1 - i).toNat (rd x i))[t]? = if t < i + 1 ∨ l.length ≤ t + (i + 1) then l[l.length - 1 - t]? else l[t]? := fun t ht => by
        have e1 : ((i : Int)).toNat = i := by omega
        have e2 : ((l.length : Int) - 1 - i).toNat = l.length - 1 - i := by omega
        have r1 : some (rd x ((l.length : Int) - 1 - i)) = l[l.length - 1 - i]? := by
          have h := hget (l.length - 1 - i) (by omega)
          rw [if_neg (by omega)] at h
          rw [← h]
          unfold rd
          rw [e2, List.getD_eq_getElem?_getD, List.getElem?_eq_getElem (by omega : l.length - 1 - i < x.length)]
          rfl
        have r2 : some (rd x (i : Int)) = l[i]? := by
          have h := hget i (by omega)
          rw [if_neg (by omega)] at h
          rw [← h]
          unfold rd
          rw [e1, List.getD_eq_getElem?_getD, List.getElem?_eq_getElem (by omega : i < x.length)]
          rfl
        rw [e1, e2, List.getElem?_set, List.getElem?_set]
        by_cases t1 : l.length - 1 - i = t
        · rw [if_pos t1, if_pos (by rw [List.length_set]; omega), if_pos (by omega), r2]
          congr 1; omega
        · rw [if_neg t1]
          by_cases t2 : i = t
          · rw [if_pos t2, if_pos (by omega), if_pos (by omega), r1]
            congr 1; omega
          · rw [if_neg t2, hget t ht]
            by_cases t3 : t < i ∨ l.length ≤ t + i
            · rw [if_pos t3, if_pos (by omega)]
            · rw [if_neg t3, if_neg (by omega)]
      have := ih (l.length - (i + 1)) (by omega) (i + 1) ((x.set (i : Int).toNat (rd x ((l.length : Int) - 1 - i))).set ((l.length : Int) - 1 - i).toNat (rd x i)) rfl (by simp [hx]) hset (by omega)
      rw [show ((l.length : Int) - 1 - ((i + 1 : Nat) : Int)) = (l.length : Int) - 1 - i - 1 by omega, show ((i + 1 : Nat) : Int) = (i : Int) + 1 from rfl] at this
      exact Ev.step (fun k => by rw [slices_Reverse_byte_byte.l0, if_pos hij, if_pos (by omega), if_pos (by omega), if_pos (by omega), if_pos (by omega), w64 _ (by omega), w64 _ (by omega)]) this
    · have hxe : x = l.reverse := by
        apply List.ext_getElem?
        intro t
        by_cases ht : t < l.length
        · rw [hget t ht, List.getElem?_reverse ht]
          by_cases t3 : t < i ∨ l.length ≤ t + i
          · rw [if_pos t3]
          · rw [if_neg t3]; congr 1; omega
        · rw [List.getElem?_eq_none (by omega), List.getElem?_eq_none (by rw [List.length_reverse]; omega)]
      rw [← hxe]
      exact Ev.step (fun k => by rw [slices_Reverse_byte_byte.l0, if_neg hij]) (Ev.now _)
theorem rev_eval (l : List Int) (hl : l.length ≤ 1000000000) : Ev (fun k => slices_Reverse_byte_byte.f k l) l.reverse := by
  unfold slices_Reverse_byte_byte.f
  rw [w64 _ (by omega)]
  have := rev_l0 l hl _ 0 l rfl rfl (fun t ht => by rw [if_neg (by omega)]) (by omega)
  simpa using this

/-! #### the way back -/
theorem backF_more {all : List Stp} (hs : ∀ (i : Nat) (x : Stp), all[i]? = some x → -1 ≤ x.src ∧ x.src < i) : ∀ (d d1 d2 : Nat) (a : Int), -1 ≤ a → a < all.length → (a + 1).toNat ≤ d → d < d1 → d < d2 → backF all d1 a = backF all d2 a := by
  intro d
  induction d with
  | zero =>
    intro d1 d2 a h0 h1 hd h2 h3
    obtain ⟨d1, rfl⟩ : ∃ k, d1 = k + 1 := ⟨d1 - 1, by omega⟩
    obtain ⟨d2, rfl⟩ : ∃ k, d2 = k + 1 := ⟨d2 - 1, by omega⟩
    unfold backF
    rw [if_neg (by omega), if_neg (by omega)]
  | succ d ih =>
    intro d1 d2 a h0 h1 hd h2 h3
    obtain ⟨d1, rfl⟩ : ∃ k, d1 = k + 1 := ⟨d1 - 1, by omega⟩
    obtain ⟨d2, rfl⟩ : ∃ k, d2 = k + 1 := ⟨d2 - 1, by omega⟩
    unfold backF
    by_cases ha : 0 ≤ a
    · rw [if_pos ha, if_pos ha]
      have hx : all[a.toNat]? = some (stpAt all a) := by unfold stpAt; rw [List.getD_eq_getElem?_getD, List.getElem?_eq_getElem (by omega)]; rfl
      obtain ⟨s0, s1⟩ := hs _ _ hx
      rw [ih d1 d2 _ s0 (by omega) (by omega) (by omega) (by omega)]
    · rw [if_neg ha, if_neg ha]
def backP (all : List Stp) (a : Int) : List Int := backF all (all.length + 1) a
theorem backP_neg {all : List Stp} {a : Int} (h : a < 0) : backP all a = [] := by unfold backP backF; rw [if_neg (by omega)]
theorem backP_step {all : List Stp} (hs : ∀ (i : Nat) (x : Stp), all[i]? = some x → -1 ≤ x.src ∧ x.src < i) {a : Int} (h0 : 0 ≤ a) (h1 : a < all.length) : backP all a = (if (stpAt all a).ate = true then [(stpAt all a).c] else []) ++ backP all (stpAt all a).src := by
  have hx : all[a.toNat]? = some (stpAt all a) := by unfold stpAt; rw [List.getD_eq_getElem?_getD, List.getElem?_eq_getElem (by omega)]; rfl
  obtain ⟨s0, s1⟩ := hs _ _ hx
  unfold backP
  rw [backF, if_pos h0]
  rw [backF_more hs ((stpAt all a).src + 1).toNat all.length (all.length + 1) _ s0 (by omega) (Nat.le_refl _) (by omega) (by omega)]
theorem textP_eq (all : List Stp) (a : Int) : textP all a = (backP all a).reverse := rfl

theorem own_stps {w : World} {base : Nat} {v : Value} {l : List Stp} (h : w.ownsRow base 94 6 v l.length (l.flatMap encStp)) : ∃ A cap, v = .slice A l.length cap ∧ ∀ i : Int, 0 ≤ i → i < l.length → ∃ ad, A = some ad ∧
    w.cell? (ad.add (i.toNat * 6)) = some (.int .i64 (stpAt l i).p.a) ∧ w.cell? ⟨(ad.add (i.toNat * 6)).block, (ad.add (i.toNat * 6)).off + 1, none⟩ = some (.int .i64 (stpAt l i).p.b) ∧ w.cell? ⟨(ad.add (i.toNat * 6)).block, (ad.add (i.toNat * 6)).off + 2, none⟩ = some (.bool (stpAt l i).p.ap) ∧ w.cell? ⟨(ad.add (i.toNat * 6)).block, (ad.add (i.toNat * 6)).off + 3, none⟩ = some (.int .i64 (stpAt l i).src) ∧ w.cell? ⟨(ad.add (i.toNat * 6)).block, (ad.add (i.toNat * 6)).off + 4, none⟩ = some (.int .u8 (stpAt l i).c) ∧ w.cell? ⟨(ad.add (i.toNat * 6)).block, (ad.add (i.toNat * 6)).off + 5, none⟩ = some (.bool (stpAt l i).ate) := by
  rcases h.2 with ⟨rfl, hn⟩ | ⟨g, cap, cur, rfl, hb, hr⟩
  · rw [hn]
    exact ⟨none, 0, rfl, fun i h0 hi => by omega⟩
  · refine ⟨_, _, rfl, fun i h0 hi => ⟨_, rfl, ?_⟩⟩
    have hi' : i.toNat < l.length := by omega
    have hc := h.cells (g := g) rfl
    have e := fun c (hc6 : c < 6) => flatMap_get (f := encStp) (k := 6) (fun _ => rfl) l i.toNat c hi' hc6
    have hst : stpAt l i = l[i.toNat] := by unfold stpAt; rw [List.getD_eq_getElem?_getD, List.getElem?_eq_getElem hi']; rfl
    rw [hst]
    exact ⟨hc _ _ (e 0 (by decide)), by rw [← add_field _ _ 1 (by omega)]; exact hc _ _ (e 1 (by decide)), by rw [← add_field _ _ 2 (by omega)]; exact hc _ _ (e 2 (by decide)), by rw [← add_field _ _ 3 (by omega)]; exact hc _ _ (e 3 (by decide)), by rw [← add_field _ _ 4 (by omega)]; exact hc _ _ (e 4 (by decide)), by rw [← add_field _ _ 5 (by omega)]; exact hc _ _ (e 5 (by decide))⟩

theorem infoU8 : (Try.prog.info? 5).map (fun i => (i.zero, i.size, i.bytes)) = some (some (.int .u8 0), 1, 1) := by kernel_rfl

set_option maxRecDepth 100000 in
set_option maxHeartbeats 2000000 in
theorem text_calls (w0 : World) (m : List Node) (g gm : Nat) (A : Option Addr) (c : Nat) (hm : m.length ≤ 1000) (L : Nat → Prop) (st : SrS) (at_ : Int) (ha : -1 ≤ at_ ∧ at_ < st.all.length) (w : World) (h : SrAt w0 w m g gm A c L st) :
    Calls Try.prog 38 #[.pointer (some ⟨g, 0, none⟩), .int .i64 at_] w fun e w' => e = .returned (.string (strOfNums (textP st.all at_))) ∧ RowKit.Below w.heap.size w w' := by
  have hsmall := h.small
  have htop : topP m ≤ 2000000 := by
    unfold topP
    have : 2 * m.length * m.length ≤ 2 * 1000 * 1000 := Nat.mul_le_mul (Nat.mul_le_mul (Nat.le_refl _) hm) hm
    omega
  obtain ⟨h1, h2, _, v1, v3, D, b1, b2, _⟩ := h
  obtain ⟨A1, k1, rfl, hrow⟩ := own_stps b2
  have f1 := b1.cell 1
  simp only [List.getElem?_toArray, List.getElem?_cons_zero, List.getElem?_cons_succ] at f1
  have F1 := Aside0.mk f1
  have HROW := Aside0.mk hrow
  have HSRC := Aside0.mk h2.src
  obtain ⟨i0, hi, hz0, hz1, hz2⟩ := info_parts infoU8
  clear h1 b1 b2 hrow f1
  go_enter Try.func38, Try.ntmps38
  go_wp2_with fail
  go_loopw [1, 5] (fun av bv wr => ∃ (a : Int) (bs : List Int), av = .int .i64 a ∧ -1 ≤ a ∧ a < st.all.length ∧ bs.length + (a + 1).toNat ≤ st.all.length ∧ wr.ownsRow w.heap.size 5 1 bv bs.length (bs.map (Value.int .u8)) ∧ Aside0 (backP st.all at_ = bs ++ backP st.all a) ∧ Aside0 (RowKit.Below w.heap.size w wr)) (fun av _ _ => (intOf av + 1).toNat)
  case atStart => exact ⟨at_, [], rfl, ha.1, ha.2, by simp; omega, World.ownsRow_nil _ _ _ _, ⟨rfl⟩, ⟨RowKit.Below.refl _ _⟩⟩
  case round =>
    obtain ⟨a, bs, rfl, ha0, ha1, hlen, hown, HBK, HB⟩ := hrel
    by_cases hneg : 0 ≤ a
    · obtain ⟨ad, hA, x0, x1, x2, x3, x4, x5⟩ := HROW.out a hneg ha1
      subst hA
      have y3 := (HB.out.cell (World.block_lt_of_cell? _ _ x3)).trans x3
      have y4 := (HB.out.cell (World.block_lt_of_cell? _ _ x4)).trans x4
      have y5 := (HB.out.cell (World.block_lt_of_cell? _ _ x5)).trans x5
      have f1 := (HB.out.cell (World.block_lt_of_cell? _ _ F1.out)).trans F1.out
      have hst := HBK.out.trans (congrArg (bs ++ ·) (backP_step HSRC.out hneg ha1))
      have hsrc := HSRC.out a.toNat (stpAt st.all a) (by unfold stpAt; rw [List.getD_eq_getElem?_getD, List.getElem?_eq_getElem (by omega)]; rfl)
      have hsz := HB.out.size
      generalize stpAt st.all a = x at *
      obtain ⟨xp, xs, xc, xe⟩ := x
      dsimp only at *
      have HST := Aside0.mk hst
      have X3 := Aside0.mk x3
      clear hst x0 x1 x2 x3 x4 x5
      have e0 : decide (0 ≤ a) = true := decide_eq_true hneg
      have e1 : decide (a < (st.all.length : Int)) = true := decide_eq_true ha1
      cases xe
      · go_wp2_with fail
        refine ⟨⟨xs, bs, rfl, hsrc.1, by omega, by omega, hown, ⟨by have := HST.out; simpa using this⟩, HB⟩, by simp [intOf]; omega⟩
      · have hb1 : bs.length + 1 ≤ maxLen := by unfold maxLen; omega
        have hb2 : (bs.length + 1) * 1 ≤ 140737488355328 := by omega
        have hnw : ∀ j u, ([Value.int .u8 xc] : List Value)[j]? = some u → (wr.alloc (.cells #[.int .u8 xc] 5)).cell? ((⟨wr.heap.size, 0, none⟩ : Addr).add j) = some u := World.news_of_block (cs := #[.int .u8 xc]) (t := 5) (fr := (0, 0)) (World.alloc_heap_new wr _)
        go_wp2_with (at_builtin; refine wpList_append_own _ rfl _ _ 53 rfl w.heap.size 5 i0 (.int .u8 0) 1 1 Try.underlying53 hi hz0 hz1 hz2 rfl (by decide) _ _ _ rfl (hown.alloc _) ⟨wr.heap.size, 0, none⟩ 1 1 [.int .u8 xc] rfl rfl hnw (by simp [Value.oneCell']) hb1 hb2 (by simp; omega) ?_; intro v' w1 hown1 hgrow1 _; have hgA := (World.grownBy_alloc wr (.cells #[.int .u8 xc] 5) _).trans hgrow1; have HB1 := Aside0.mk (HB.out.grown hgA HB.out.size (own_base hown)); have f1' := (HB1.out.cell (World.block_lt_of_cell? _ _ F1.out)).trans F1.out; have z3 : w1.cell? ⟨(ad.add (a.toNat * 6)).block, (ad.add (a.toNat * 6)).off + 3, none⟩ = some (.int .i64 xs) := (HB1.out.cell (World.block_lt_of_cell? _ _ X3.out)).trans X3.out)
        refine ⟨⟨xs, bs ++ [xc], rfl, hsrc.1, by omega, by simp; omega, by simpa using hown1, ⟨by have := HST.out; simpa using this⟩, HB1⟩, by simp [intOf]; omega⟩
    · have e0 : decide (0 ≤ a) = false := decide_eq_false hneg
      have hbs : backP st.all at_ = bs := HBK.out.trans (by rw [backP_neg (show a < 0 by omega), List.append_nil])
      obtain ⟨kr, hkr⟩ := (rev_eval bs (by omega)).rounds
      have HKR := Aside0.mk hkr
      have HBS := Aside0.mk hbs
      clear hkr hbs
      go_wp2_with (go_at_call 43; refine (slices_Reverse_byte_byte.calls kr (fun _ => True) _ bs bs.reverse w wr HB.out (Kd.R_of_own hown (fun _ _ => trivial)) HKR.out).mono ?_; rintro e w3 ⟨rfl, hR, hb3, _⟩; have hcv := own_string (P := Try.prog) Try.underlying53 Try.underlying5 Try.underlying9 (Kd.own_of_R hR))
      go_ret
      rw [textP_eq, HBS.out]
      exact ⟨rfl, hb3⟩

end Go.Proofs.Ytcbflajacioinaa

/- twin: the search goes on until an end is reached. -/
set_option linter.unusedSimpArgs false
set_option linter.unusedVariables false
namespace Go.Proofs.Ytcbflajacioinaa
open Go.RowKit Go.Shelf Go.Proofs.YtcbflajacioinaaW.PrintWords Go.Proofs.YtcbflajacioinaaW.PrintLast

theorem reach_diff (st : SrS) (p : Pr) (src c : Int) (ate : Bool) : (reachP st p src c ate).all.length + st.now.length = (reachP st p src c ate).now.length + st.all.length := by
  unfold reachP
  split
  · omega
  · simp only [List.length_append, List.length_singleton]; omega
theorem goL_diff (src : Int) : ∀ (l : List Pr) (st : SrS), (goL st l src).all.length + st.now.length = (goL st l src).now.length + st.all.length
  | [], st => by unfold goL; simp only [List.foldl_nil]; omega
  | q :: l, st => by
    have h1 := reach_diff st q src 0 false
    have h2 := goL_diff src l (reachP st q src 0 false)
    have h3 : goL st (q :: l) src = goL (reachP st q src 0 false) l src := rfl
    rw [h3]; omega
theorem goE_diff (src : Int) : ∀ (l : List (Pr × Int)) (st : SrS), (goE st l src).all.length + st.now.length = (goE st l src).now.length + st.all.length
  | [], st => by unfold goE; simp only [List.foldl_nil]; omega
  | q :: l, st => by
    have h1 := reach_diff st q.1 src q.2 true
    have h2 := goE_diff src l (reachP st q.1 src q.2 true)
    have h3 : goE st (q :: l) src = goE (reachP st q.1 src q.2 true) l src := rfl
    rw [h3]; omega
/-- The next level, as far as its first so many steps. -/
def nextTo (m : List Node) (st : SrS) (j : Nat) : SrS := (st.now.take j).foldl (fun s at_ => goE s (eatL m (stpAt s.all at_).p) at_) ⟨st.all, []⟩
theorem nextTo_step (m : List Node) (st : SrS) (j : Nat) (hj : j < st.now.length) : nextTo m st (j + 1) = goE (nextTo m st j) (eatL m (stpAt (nextTo m st j).all (st.now.getD j 0)).p) (st.now.getD j 0) := by
  unfold nextTo
  rw [take_snoc' st.now j 0 hj, List.foldl_append]
  rfl
theorem nextTo_all (m : List Node) (st : SrS) : ∀ j, ∃ k, (nextTo m st j).all = st.all ++ k := by
  unfold nextTo
  intro j
  generalize st.now.take j = l
  suffices h : ∀ (l : List Int) (s : SrS), ∃ k, (l.foldl (fun s at_ => goE s (eatL m (stpAt s.all at_).p) at_) s).all = s.all ++ k from h l ⟨st.all, []⟩
  intro l
  induction l with
  | nil => exact fun s => ⟨[], by simp⟩
  | cons a l ih =>
    intro s
    obtain ⟨k1, h1⟩ := goE_all (src := a) (eatL m (stpAt s.all a).p) s
    obtain ⟨k2, h2⟩ := ih (goE s (eatL m (stpAt s.all a).p) a)
    exact ⟨k1 ++ k2, by rw [List.foldl_cons, h2, h1, List.append_assoc]⟩
theorem nextTo_diff (m : List Node) (st : SrS) (j : Nat) : (nextTo m st j).all.length = (nextTo m st j).now.length + st.all.length := by
  unfold nextTo
  generalize st.now.take j = l
  suffices h : ∀ (l : List Int) (s : SrS), (l.foldl (fun s at_ => goE s (eatL m (stpAt s.all at_).p) at_) s).all.length + s.now.length = (l.foldl (fun s at_ => goE s (eatL m (stpAt s.all at_).p) at_) s).now.length + s.all.length by
    have := h l ⟨st.all, []⟩
    simpa using this
  intro l
  induction l with
  | nil => intro s; simp only [List.foldl_nil]; omega
  | cons a l ih =>
    intro s
    have h1 := goE_diff a (eatL m (stpAt s.all a).p) s
    have h2 := ih (goE s (eatL m (stpAt s.all a).p) a)
    rw [List.foldl_cons]; omega
theorem nextTo_full (m : List Node) (st : SrS) : nextTo m st st.now.length = nextLvl m st := by unfold nextTo nextLvl; rw [List.take_length]
/-- Where the row of the steps at which a search goes on lies. -/
theorem own_now {w : World} {base : Nat} {v : Value} {l : List Int} (h : w.ownsRow base 3 1 v l.length (l.map (Value.int .i64))) : ∃ A cap, v = .slice A l.length cap ∧ ∀ W : World, (∀ k, v.ownBlock = some k → W.heap[k]? = w.heap[k]?) → ∀ i : Nat, i < l.length → ∃ ad, A = some ad ∧ W.cell? (ad.add i) = some (.int .i64 (l.getD i 0)) := by
  rcases h.2 with ⟨rfl, hn⟩ | ⟨g, cap, cur, rfl, hb, hg, hr⟩
  · rw [hn]
    exact ⟨none, 0, rfl, fun W _ i hi => by omega⟩
  · refine ⟨_, _, rfl, fun W hW i hi => ⟨_, rfl, ?_⟩⟩
    have hc := h.cells (g := g) rfl i (.int .i64 (l.getD i 0)) (by rw [List.getElem?_map, List.getD_eq_getElem?_getD, List.getElem?_eq_getElem hi]; rfl)
    have hWg : W.heap[g]? = w.heap[g]? := hW g rfl
    have e : W.cell? ((⟨g, 0, none⟩ : Addr).add i) = w.cell? ((⟨g, 0, none⟩ : Addr).add i) := by
      rw [add_plain]
      simp only [World.cell?, hWg]
    rw [e]; exact hc

/-- What a level's end leads to. -/
def aftL (m : List Node) (two : Bool) (most : Int) (d : Nat) (x : Option Fnd × SrS) : Fnd :=
  match x with
  | (some r, _) => r
  | (none, st') => runF m two most d (nextLvl m st')
theorem runF_go (m : List Node) (two : Bool) (most : Int) (d : Nat) (st : SrS) (h : st.now.length ≠ 0) : runF m two most (d + 1) st = aftL m two most d (lvlF m two most (topP m + 1) 0 st) := by
  rw [runF, if_neg h]; rfl
theorem lvlF_stop (m : List Node) (two : Bool) (most : Int) (d i : Nat) (st : SrS) (h : ¬ i < st.now.length) : lvlF m two most (d + 1) i st = (none, st) := by
  rw [lvlF, if_neg h]
theorem lvlF_much (m : List Node) (two : Bool) (most : Int) (d i : Nat) (st : SrS) (h : i < st.now.length) (h1 : (st.all.length : Int) > most) : lvlF m two most (d + 1) i st = (some ⟨-1, false, st.all⟩, st) := by
  rw [lvlF, if_pos h, if_pos h1]
theorem lvlF_end (m : List Node) (two : Bool) (most : Int) (d i : Nat) (st : SrS) (h : i < st.now.length) (h1 : ¬ (st.all.length : Int) > most) (h2 : endB m two (stpAt st.all (st.now.getD i 0)).p = true) : lvlF m two most (d + 1) i st = (some ⟨st.now.getD i 0, true, st.all⟩, st) := by
  rw [lvlF, if_pos h, if_neg h1, if_pos h2]
theorem lvlF_on (m : List Node) (two : Bool) (most : Int) (d i : Nat) (st : SrS) (h : i < st.now.length) (h1 : ¬ (st.all.length : Int) > most) (h2 : ¬ endB m two (stpAt st.all (st.now.getD i 0)).p = true) : lvlF m two most (d + 1) i st = lvlF m two most d (i + 1) (goL st (sprL m (stpAt st.all (st.now.getD i 0)).p) (st.now.getD i 0)) := by
  rw [lvlF, if_pos h, if_neg h1, if_neg h2]

theorem sr_cells {w0 W : World} {m : List Node} {g gm : Nat} {A : Option Addr} {c : Nat} {L : Nat → Prop} {st : SrS} (h : SrAt w0 W m g gm A c L st) : ∃ A1 k1 A3 k3, W.cell? ⟨g, 0, none⟩ = some (.slice A m.length c) ∧ W.cell? ⟨g, 1, none⟩ = some (.slice A1 st.all.length k1) ∧ W.cell? ⟨g, 3, none⟩ = some (.slice A3 st.now.length k3) ∧
    (∀ i : Nat, i < st.now.length → ∃ ad, A3 = some ad ∧ W.cell? (ad.add i) = some (.int .i64 (st.now.getD i 0))) ∧
    (∀ i : Int, 0 ≤ i → i < st.all.length → ∃ ad, A1 = some ad ∧ W.cell? (ad.add (i.toNat * 6)) = some (.int .i64 (stpAt st.all i).p.a) ∧ W.cell? ⟨(ad.add (i.toNat * 6)).block, (ad.add (i.toNat * 6)).off + 1, none⟩ = some (.int .i64 (stpAt st.all i).p.b) ∧ W.cell? ⟨(ad.add (i.toNat * 6)).block, (ad.add (i.toNat * 6)).off + 2, none⟩ = some (.bool (stpAt st.all i).p.ap)) := by
  obtain ⟨_, _, _, v1, v3, D, b1, b2, b3, _⟩ := h
  obtain ⟨A1, k1, rfl, r1⟩ := own_stps b2
  obtain ⟨A3, k3, rfl, r3⟩ := own_now b3
  have f0 := b1.cell 0
  have f1 := b1.cell 1
  have f3 := b1.cell 3
  simp only [List.getElem?_toArray, List.getElem?_cons_zero, List.getElem?_cons_succ] at f0 f1 f3
  exact ⟨A1, k1, A3, k3, f0, f1, f3, fun i hi => r3 W (fun _ _ => rfl) i hi, fun i h0 h1 => by
    obtain ⟨ad, e, x0, x1, x2, _⟩ := r1 i h0 h1
    exact ⟨ad, e, x0, x1, x2⟩⟩

theorem sr_next {w0 W : World} {m : List Node} {g gm : Nat} {A : Option Addr} {c : Nat} {L : Nat → Prop} {st : SrS} (h : SrAt w0 W m g gm A c L st) {A3 : Option Addr} {k3 : Nat} (h3 : W.cell? ⟨g, 3, none⟩ = some (.slice A3 st.now.length k3)) :
    SrAt w0 (W.setCell ⟨g, 3, none⟩ (.slice none 0 0)) m g gm A c (fun k => L k ∨ (Value.slice A3 st.now.length k3).ownBlock = some k) ⟨st.all, []⟩ ∧
    ∀ W', Kept3 (W.setCell ⟨g, 3, none⟩ (.slice none 0 0)) W' (fun k => L k ∨ (Value.slice A3 st.now.length k3).ownBlock = some k) → ∀ i : Nat, i < st.now.length → ∃ ad, A3 = some ad ∧ W'.cell? (ad.add i) = some (.int .i64 (st.now.getD i 0)) := by
  obtain ⟨h1, h2, ⟨a1, a2, a3, a4, a5⟩, v1, v3, D, b1, b2, b3, b4, b5, b6, b7⟩ := h
  have f3 := b1.cell 3
  simp only [List.getElem?_toArray, List.getElem?_cons_zero, List.getElem?_cons_succ] at f3
  rw [f3] at h3
  obtain rfl := Option.some.inj h3
  have hgs := grown_set W ⟨g, 3, none⟩ (.slice none 0 0)
  have b1s := b1.set 3 (.slice none 0 0)
  have g2 := b2.kept hgs (.inr (b1.not_row (by decide) b2).symm)
  have g3 := b3.kept hgs (.inr (b1.not_row (by decide) b3).symm)
  have kM := World.ownsMap.kept b4 hgs (by simp; exact map_not_blk b4 b1)
  have hb := h1.setCell (p := ⟨g, 3, none⟩) a1 (.slice none 0 0)
  have n1 := b1.not_row (by decide) b3
  have n2 := seen_not_row b4 b3
  have n3 := row_not_row (by decide) b2 b3
  refine ⟨⟨hb, ⟨h2.inn, h2.one, h2.src, h2.byte, fun i hi => by simp at hi, Nat.zero_le _⟩, ⟨a1, a2, fun hk => ?_, fun hk => ?_, fun k hk => ?_⟩, v1, .slice none 0 0, D, b1s, g2, World.ownsRow_nil _ _ _ _, kM, b5, fun k hk hl => ?_, fun k hk => by cases hk⟩, ?_⟩
  · rcases hk with hk | hk
    · exact a3 hk
    · exact n1 hk.symm
  · rcases hk with hk | hk
    · exact a4 hk
    · exact n2 hk.symm
  · rw [World.size_setCell]
    rcases hk with hk | hk
    · exact a5 k hk
    · exact (World.ownsRow.lt b3 k hk).2
  · rcases hl with hl | hl
    · exact b6 k hk hl
    · rcases n3 with h | h
      · rw [h] at hk; cases hk
      · exact h (hk.trans hl.symm)
  · intro W' hW'
    obtain ⟨A', c', e, r⟩ := own_now g3
    injection e with e1 e2 e3
    subst e1
    exact fun i hi => r W' (fun k hk => hW' k (.inr hk)) i hi

set_option maxRecDepth 100000 in
set_option maxHeartbeats 4000000 in
theorem run_calls (w0 : World) (m : List Node) (g gm : Nat) (A : Option Addr) (c : Nat) (hC0 : kNode.C w0 A m.length m) (hM : mayB m = true) (hN : ∀ x ∈ m, NodeOk x) (hm : m.length ≤ 1000) (hF : ∀ x ∈ m, x.f2.length ≤ 1000000) (two : Bool) (most : Int) (w : World) (h : SrAt w0 w m g gm A c (fun k => k < w0.heap.size) ⟨[], []⟩) :
    Calls Try.prog 37 #[.pointer (some ⟨g, 0, none⟩), .bool two, .int .i64 most] w fun e w' => e = .returned (.tuple #[.int .i64 (runP m two most).at_, .bool (runP m two most).ok]) ∧ ∃ st', SrAt w0 w' m g gm A c (fun k => k < w0.heap.size) st' ∧ st'.all = (runP m two most).all ∧ -1 ≤ (runP m two most).at_ ∧ (runP m two most).at_ < st'.all.length := by
  have hl1 := mayB_len hM
  have htop : topP m ≤ 2000000 := by
    unfold topP
    have : 2 * m.length * m.length ≤ 2 * 1000 * 1000 := Nat.mul_le_mul (Nat.mul_le_mul (Nat.le_refl _) hm) hm
    omega
  have hz : PrAt m ⟨0, 0, false⟩ := by unfold PrAt; dsimp only; omega
  have RC := reach_calls w0 m g gm A c hm _ ⟨[], []⟩ ⟨0, 0, false⟩ hz (-1) 0 (by simp) ⟨by omega, by omega⟩ false w h
  unfold valPr at RC
  have HRC := Aside0.mk RC
  have SC := fun (W : World) (L' : Nat → Prop) (st' : SrS) (p : Pr) (at_ : Int) (hp : PrIn m p) (hs' : -1 ≤ at_ ∧ at_ < st'.all.length) (hh : SrAt w0 W m g gm A c L' st') => spread_calls w0 m g gm A c hC0 hM hm hF L' st' p hp at_ hs' W hh
  have EC := fun (W : World) (L' : Nat → Prop) (st' : SrS) (p : Pr) (at_ : Int) (hp : PrIn m p) (hs' : -1 ≤ at_ ∧ at_ < st'.all.length) (hh : SrAt w0 W m g gm A c L' st') => eat_calls w0 m g gm A c hC0 hM hN hm L' st' p hp at_ hs' W hh
  unfold valPr at SC EC
  have HSC := Aside0.mk SC
  have HEC := Aside0.mk EC
  have HND := Aside0.mk (fun (i : Int) (h0 : 0 ≤ i) (h1 : i < m.length) => node0 hC0 i h0 h1)
  clear RC SC EC h
  have hR : runP m two most = runF m two most (topP m + 2) (reachP ⟨[], []⟩ ⟨0, 0, false⟩ (-1) 0 false) := rfl
  have hst0 : reachP ⟨[], []⟩ ⟨0, 0, false⟩ (-1) 0 false = ⟨[⟨⟨0, 0, false⟩, -1, 0, false⟩], [0]⟩ := rfl
  rw [hst0] at hR HRC
  generalize runP m two most = R0 at *
  have HR := Aside0.mk hR
  clear hR hst0
  go_enter Try.func37, Try.ntmps37
  go_wp2_with fail
  refine HRC.out.mono ?_
  rintro e w1 ⟨rfl, hS1, _⟩
  have HS1 := Aside0.mk hS1
  clear hS1 HRC
  go_wp2_with fail
  go_loopg [8] (topP m + 2) (fun k iv wr => ∃ st, Aside0 (SrAt w0 wr m g gm A c (fun k => k < w0.heap.size) st) ∧ Aside0 (runF m two most k st = R0 ∧ topP m + 1 - (st.all.length - st.now.length) < k))
  case atStart => exact ⟨_, HS1, HR.out.symm, by simp⟩
  case round =>
    obtain ⟨st, HS, HF⟩ := hrel
    have hsmall := HS.out.small
    have hlen := HS.out.ok.len
    obtain ⟨A1, k1, A3, k3, f0, f1, f3, hnow, hall⟩ := sr_cells HS.out
    by_cases hz : st.now.length = 0
    · obtain ⟨d, rfl⟩ : ∃ d, gk = d + 1 := ⟨gk - 1, by have := HF.out.2; omega⟩
      have hr : R0 = ⟨-1, true, st.all⟩ := HF.out.1.symm.trans (by rw [runF, if_pos hz])
      have HRR := Aside0.mk hr
      have e0 : ¬ 0 < st.now.length := by omega
      have HLL := Aside0.mk hlen
      clear hr hnow hall hz hlen hsmall
      go_wp2_with fail
      go_ret2
      rw [HRR.out]
      exact ⟨rfl, st, HS.out, rfl, by dsimp only; omega, by dsimp only; omega⟩
    · have e0 : 0 < st.now.length := by omega
      obtain ⟨d, rfl⟩ : ∃ d, gk = d + 1 := ⟨gk - 1, by have := HF.out.2; omega⟩
      have HX : Aside0 (aftL m two most d (lvlF m two most (topP m + 1) 0 st) = R0 ∧ topP m + 1 - (st.all.length - st.now.length) < d + 1) := ⟨by rw [← runF_go m two most d st hz]; exact HF.out⟩
      have HL := Aside0.mk hlen
      have HZ := Aside0.mk hz
      clear hnow hall HF hlen hz hsmall
      go_wp2_with fail
      obtain ⟨w8, rfl⟩ : ∃ w8 : World, w8 = wr := ⟨_, rfl⟩
      go_loopw [8] (fun iv wr => ∃ (i : Nat) (st' : SrS), iv = .int .i64 i ∧ i ≤ st'.now.length ∧ Aside0 (SrAt w0 wr m g gm A c (fun k => k < w0.heap.size) st') ∧ Aside0 (lvlF m two most (topP m + 1) 0 st = lvlF m two most (topP m + 1 - i) i st' ∧ st'.all.length + st.now.length = st'.now.length + st.all.length ∧ st.now.length ≤ st'.now.length)) (fun iv _ => topP m + 1 - (intOf iv).toNat)
      case atStart => exact ⟨0, st, rfl, Nat.zero_le _, HS, ⟨rfl, by omega, Nat.le_refl _⟩⟩
      case round =>
        obtain ⟨i, st', rfl, hi, HSi, HFi⟩ := hrel
        have hsmall := HSi.out.small
        have hlen := HSi.out.ok.len
        obtain ⟨A1, k1, A3, k3, f0, f1, f3, hnow, hall⟩ := sr_cells HSi.out
        have hfu : topP m + 1 - i = (topP m - i) + 1 := by omega
        by_cases hil : i < st'.now.length
        · have e1 : decide ((i : Int) < (st'.now.length : Int)) = true := decide_eq_true (by omega)
          obtain ⟨a3, hA3, n0⟩ := hnow i hil
          subst hA3
          have hat := HSi.out.ok.now _ (getD_mem st'.now i 0 hil)
          obtain ⟨a1, hA1, x0, x1, x2⟩ := hall _ hat.1 hat.2
          subst hA1
          have hpin := HSi.out.ok.inn _ (stp_mem hat.1 hat.2)
          have lM := lvlF_much m two most (topP m - i) i st' hil
          have lE := lvlF_end m two most (topP m - i) i st' hil
          have lO := lvlF_on m two most (topP m - i) i st' hil
          rw [← hfu] at lM lE lO
          generalize hagen : st'.now.getD i 0 = a at *
          have HAG := Aside0.mk hagen
          clear hagen
          generalize hpgen : (stpAt st'.all a).p = p at *
          obtain ⟨pa, pb, pap⟩ := p
          obtain ⟨hp0, hp1, hp2⟩ := hpin
          dsimp only at x0 x1 x2 hp0 hp1 hp2
          have HPG := Aside0.mk hpgen
          have LM := Aside0.mk lM
          have LE := Aside0.mk lE
          have LO := Aside0.mk lO
          have HFU := Aside0.mk hfu
          have c0 : decide (0 ≤ a) = true := decide_eq_true hat.1
          have c1 : decide (a < (st'.all.length : Int)) = true := decide_eq_true hat.2
          have ha0 := hat.1
          have ha1 := hat.2
          obtain ⟨na, _, _, _, _, hna, hya, _⟩ := HND.out pa hp0 (by omega)
          obtain ⟨nb, _, _, _, _, hnb, hyb, _⟩ := HND.out pb (by omega) hp2
          rw [hna] at hnb
          obtain rfl := Option.some.inj hnb
          subst hna
          have hbP := below_alloc (RowKit.Below.refl wr.heap.size wr) (.cells #[.int .i64 pa, .int .i64 pb, .bool pap] 92)
          have bP := Blk.new wr 92 #[.int .i64 pa, .int .i64 pb, .bool pap]
          have p0 := bP.cell 0
          have p1 := bP.cell 1
          have p2 := bP.cell 2
          simp only [List.getElem?_toArray, List.getElem?_cons_zero, List.getElem?_cons_succ] at p0 p1 p2
          have u0 := (hbP.cell (World.block_lt_of_cell? _ _ f0)).trans f0
          have u1 := (hbP.cell (World.block_lt_of_cell? _ _ f1)).trans f1
          have HBP := Aside0.mk hbP
          have HSP := Aside0.mk (HSi.out.more hbP (L' := fun k => k < w0.heap.size) (fun k hk => .inl hk))
          have ya := (hya _ HSP.out.bel).1
          have yb := (hyb _ HSP.out.bel).1
          clear hnow hall hpgen lM lE lO hfu hat hbP bP hya hyb
          by_cases hmost : (st'.all.length : Int) > most
          · have c2 : decide (most < (st'.all.length : Int)) = true := decide_eq_true hmost
            have hx := LM.out hmost
            have hr : R0 = ⟨-1, false, st'.all⟩ := by rw [← HX.out.1, HFi.out.1, hx]; rfl
            have HRR := Aside0.mk hr
            have HLL := Aside0.mk hlen
            clear hx hr
            go_wp2_with fail
            go_ret2
            rw [HRR.out]
            exact ⟨rfl, st', HSP.out, rfl, by dsimp only; omega, by dsimp only; omega⟩
          · have c2 : decide (most < (st'.all.length : Int)) = false := decide_eq_false hmost
            go_wp2_with fail
            have HEN : Aside0 (endB m two ⟨pa, pb, pap⟩ = ((pap == two) && ((rd_Node m pa).f0 == 4) && ((rd_Node m pb).f0 == 4))) := ⟨rfl⟩
            generalize (rd_Node m pa).f0 = ka at *
            generalize (rd_Node m pb).f0 = kb at *
            by_cases b0 : (pap == two) = true
            · by_cases b1 : (ka == 4) = true
              · by_cases b2 : (kb == 4) = true
                · go_quiet (fail)
                  go_wp2_with fail
                  have hr : R0 = ⟨a, true, st'.all⟩ := by rw [← HX.out.1, HFi.out.1, LE.out hmost (by rw [HEN.out, b0, b1, b2]; rfl)]; rfl
                  have HRR := Aside0.mk hr
                  have HLL := Aside0.mk hlen
                  have hdr := HSP.out.drew nq
                  clear hr
                  go_ret2
                  rw [HRR.out]
                  exact ⟨rfl, st', hdr, rfl, by dsimp only; omega, by dsimp only; omega⟩
                · replace b2 := Bool.eq_false_iff.2 b2
                  go_quiet (fail)
                  go_wp2_with fail
                  refine (HSC.out _ _ st' ⟨pa, pb, pap⟩ a ⟨hp0, hp1, hp2⟩ ⟨by omega, ha1⟩ (HSP.out.drew nq)).mono ?_
                  rintro e w5 ⟨rfl, hS5, hK5⟩
                  have HS5 := Aside0.mk hS5
                  have hgd := goL_diff a (sprL m ⟨pa, pb, pap⟩) st'
                  have hgl := goL_len st' (sprL m ⟨pa, pb, pap⟩) a
                  have hx := LO.out hmost (by rw [HEN.out, b2]; simp)
                  rw [show topP m - i = topP m + 1 - (i + 1) by omega] at hx
                  have HXX := Aside0.mk hx
                  clear hS5 hK5 hx
                  generalize goL st' (sprL m ⟨pa, pb, pap⟩) a = stn at *
                  go_wp2_with fail
                  exact ⟨⟨i + 1, stn, by go_num, by omega, HS5, ⟨HFi.out.1.trans HXX.out, by have := HFi.out.2; omega, by have := HFi.out.2; omega⟩⟩, by simp [intOf]; omega⟩
              · replace b1 := Bool.eq_false_iff.2 b1
                go_quiet (fail)
                go_wp2_with fail
                refine (HSC.out _ _ st' ⟨pa, pb, pap⟩ a ⟨hp0, hp1, hp2⟩ ⟨by omega, ha1⟩ (HSP.out.drew nq)).mono ?_
                rintro e w5 ⟨rfl, hS5, hK5⟩
                have HS5 := Aside0.mk hS5
                have hgd := goL_diff a (sprL m ⟨pa, pb, pap⟩) st'
                have hgl := goL_len st' (sprL m ⟨pa, pb, pap⟩) a
                have hx := LO.out hmost (by rw [HEN.out, b1]; simp)
                rw [show topP m - i = topP m + 1 - (i + 1) by omega] at hx
                have HXX := Aside0.mk hx
                clear hS5 hK5 hx
                generalize goL st' (sprL m ⟨pa, pb, pap⟩) a = stn at *
                go_wp2_with fail
                exact ⟨⟨i + 1, stn, by go_num, by omega, HS5, ⟨HFi.out.1.trans HXX.out, by have := HFi.out.2; omega, by have := HFi.out.2; omega⟩⟩, by simp [intOf]; omega⟩
            · replace b0 := Bool.eq_false_iff.2 b0
              go_quiet (fail)
              go_wp2_with fail
              refine (HSC.out _ _ st' ⟨pa, pb, pap⟩ a ⟨hp0, hp1, hp2⟩ ⟨by omega, ha1⟩ (HSP.out.drew nq)).mono ?_
              rintro e w5 ⟨rfl, hS5, hK5⟩
              have HS5 := Aside0.mk hS5
              have hgd := goL_diff a (sprL m ⟨pa, pb, pap⟩) st'
              have hgl := goL_len st' (sprL m ⟨pa, pb, pap⟩) a
              have hx := LO.out hmost (by rw [HEN.out, b0]; simp)
              rw [show topP m - i = topP m + 1 - (i + 1) by omega] at hx
              have HXX := Aside0.mk hx
              clear hS5 hK5 hx
              generalize goL st' (sprL m ⟨pa, pb, pap⟩) a = stn at *
              go_wp2_with fail
              exact ⟨⟨i + 1, stn, by go_num, by omega, HS5, ⟨HFi.out.1.trans HXX.out, by have := HFi.out.2; omega, by have := HFi.out.2; omega⟩⟩, by simp [intOf]; omega⟩
        · obtain rfl : i = st'.now.length := by omega
          have HHI := Aside0.mk hil
          have hstop := lvlF_stop m two most (topP m - st'.now.length) st'.now.length st' hil
          rw [← hfu] at hstop
          have HST := Aside0.mk hstop
          have HLL := Aside0.mk hlen
          have hbig : st'.now.length ≤ 2000000 := by omega
          obtain ⟨sN, lN⟩ := sr_next HSi.out f3
          have HSN := Aside0.mk sN
          have HLN := Aside0.mk lN
          have HIN := Aside0.mk HSi.out.ok.now
          have hfz := HSi.out.mem
          obtain ⟨v1, v3, D, bS, _⟩ := hfz
          have z3 := bS.free 3
          clear bS hnow hall hfu hstop hsmall hlen sN lN
          go_wp2_with fail
          generalize wr.setCell ⟨g, 3, none⟩ (.slice none 0 0) = w9 at *
          clear f0 f1 f3 z3
          go_loopw [96] (fun iv wr => ∃ j : Nat, iv = .int .i64 j ∧ j ≤ st'.now.length ∧ Aside0 (SrAt w0 wr m g gm A c (fun k => k < w0.heap.size ∨ (Value.slice A3 st'.now.length k3).ownBlock = some k) (nextTo m st' j)) ∧ Aside0 (Kept3 w9 wr (fun k => k < w0.heap.size ∨ (Value.slice A3 st'.now.length k3).ownBlock = some k))) (fun iv _ => st'.now.length - (intOf iv).toNat)
          case atStart => exact ⟨0, rfl, Nat.zero_le _, HSN, ⟨Kept3.refl _ _⟩⟩
          case round =>
            obtain ⟨j, rfl, hj, HSj, HKj⟩ := hrel
            by_cases hjl : j < st'.now.length
            · obtain ⟨a3, hA3, n0⟩ := HLN.out wr HKj.out j hjl
              subst hA3
              have hat := HIN.out _ (getD_mem st'.now j 0 hjl)
              obtain ⟨kk, hkk⟩ := nextTo_all m st' j
              have hst := nextTo_step m st' j hjl
              obtain ⟨A1, k1, A4, k4, f0, f1, f3, _, hall⟩ := sr_cells HSj.out
              have hat2 : st'.now.getD j 0 < (nextTo m st' j).all.length := by rw [hkk, List.length_append]; omega
              obtain ⟨a1, hA1, x0, x1, x2⟩ := hall _ hat.1 hat2
              subst hA1
              have hpin := HSj.out.ok.inn _ (stp_mem hat.1 hat2)
              have ha0 := hat.1
              have HST2 := Aside0.mk hst
              clear hall hkk hst hat
              generalize nextTo m st' j = stj at *
              generalize st'.now.getD j 0 = a at *
              generalize hpgen : (stpAt stj.all a).p = p at *
              obtain ⟨pa, pb, pap⟩ := p
              dsimp only at x0 x1 x2
              have HPG := Aside0.mk hpgen
              have c0 : decide (0 ≤ a) = true := decide_eq_true ha0
              have c1 : decide (a < (stj.all.length : Int)) = true := decide_eq_true hat2
              have e1 : (j : Int) < (st'.now.length : Int) := by omega
              have e2 : (0 : Int) ≤ j := by omega
              clear hpgen
              go_wp2_with fail
              refine (HEC.out _ _ stj ⟨pa, pb, pap⟩ a hpin ⟨by omega, hat2⟩ HSj.out).mono ?_
              rintro e w7 ⟨rfl, hS7, hK7⟩
              go_wp2_with fail
              exact ⟨⟨j + 1, by go_num, by omega, ⟨by rw [HST2.out]; exact hS7⟩, ⟨HKj.out.trans hK7⟩⟩, by simp [intOf]; omega⟩
            · obtain rfl : j = st'.now.length := by omega
              have hnx : runF m two most d (nextLvl m st') = R0 := by rw [← HX.out.1, HFi.out.1, HST.out]; rfl
              have hnd := nextTo_diff m st' st'.now.length
              have hns := HSj.out.small
              rw [nextTo_full] at hnd hns
              have hsn := HSj.out.more (RowKit.Below.refl _ _) (L' := fun k => k < w0.heap.size) (fun k hk => .inl (.inl hk))
              rw [nextTo_full] at hsn
              have HSN2 := Aside0.mk hsn
              have HNX := Aside0.mk hnx
              have h3 := HFi.out.2
              have h4 := HX.out.2
              have h5 := HLL.out
              have h6 := HZ.out
              obtain ⟨kk, hkk⟩ := nextTo_all m st' st'.now.length
              have hkl := congrArg List.length hkk
              rw [nextTo_full, List.length_append] at hkl
              have hms : topP m + 1 - ((nextLvl m st').all.length - (nextLvl m st').now.length) < d := by omega
              have HMS := Aside0.mk hms
              clear hnd hns hsn hnx h3 h4 h5 h6 hkk hkl hms
              go_wp2_with fail
              go_roundg d
              case measure => omega
              case rel => exact ⟨_, HSN2, ⟨HNX.out, HMS.out⟩⟩

end Go.Proofs.Ytcbflajacioinaa

/- twin: a search; Twin, Short, Empty. -/
set_option linter.unusedSimpArgs false
set_option linter.unusedVariables false
namespace Go.Proofs.Ytcbflajacioinaa
open Go.RowKit Go.Shelf Go.Proofs.YtcbflajacioinaaW.PrintWords Go.Proofs.YtcbflajacioinaaW.PrintLast

set_option maxRecDepth 100000 in
set_option maxHeartbeats 1000000 in
theorem tof_none (m : List Node) (A : Option Addr) (c : Nat) (hN : ∀ x ∈ m, NodeOk x) (hM : mayB m = false) (w : World) (hC : kNode.C w A m.length m) :
    Calls Try.prog 36 #[.slice A m.length c] w fun e w' => e = .returned (.pointer none) ∧ RowKit.Below w.heap.size w w' := by
  have hm : m.length ≤ 9223372036854775807 := hC.2.1
  go_enter Try.func36, Try.ntmps36
  go_wp2_with (go_at_call 39; refine (may_calls A c m hN _ hC hm).mono ?_; rintro e w2 ⟨rfl, hb2⟩)
  go_ret
  exact ⟨rfl, hb2⟩

set_option maxRecDepth 100000 in
set_option maxHeartbeats 1000000 in
theorem tof_some (m : List Node) (A : Option Addr) (c : Nat) (hN : ∀ x ∈ m, NodeOk x) (hM : mayB m = true) (w : World) (hC : kNode.C w A m.length m) :
    Calls Try.prog 36 #[.slice A m.length c] w fun e w' => ∃ g gm, e = .returned (.pointer (some ⟨g, 0, none⟩)) ∧ SrAt w w' m g gm A c (fun k => k < w.heap.size) ⟨[], []⟩ := by
  have hm : m.length ≤ 9223372036854775807 := hC.2.1
  have hmm := @run_makeMap Try.prog
  go_enter Try.func36, Try.ntmps36
  go_wp2_with (go_at_call 39; refine (may_calls A c m hN _ hC hm).mono ?_; rintro e w2 ⟨rfl, hb2⟩)
  go_ret
  have h1 := World.ownsMap_made w2 Try.prog 92 (plainElem (H := Value) Try.prog 4)
  have hb3 := hb2.alloc hb2.size (.map #[] 0)
  have hb4 := hb3.alloc (by rw [World.size_alloc]; have := hb2.size; omega) (.cells #[.slice A m.length c, .slice none 0 0, .map (some w2.heap.size), .slice none 0 0] 89)
  have hs2 := hb2.size
  have hB := Blk.new (w2.alloc (.map #[] 0)) 89 #[.slice A m.length c, .slice none 0 0, .map (some w2.heap.size), .slice none 0 0]
  rw [World.size_alloc] at hB
  refine ⟨w2.heap.size + 1, w2.heap.size, rfl, hb4, ⟨by simp, by simp, by simp, by simp, by simp, Nat.le_refl _⟩, ⟨by omega, by omega, by omega, by omega, fun k hk => by simp; omega⟩, .slice none 0 0, .slice none 0 0, _, hB, World.ownsRow_nil _ _ _ _, World.ownsRow_nil _ _ _ _, World.ownsMap.alloc h1 _, ?_, (fun k hk => by cases hk), (fun k hk => by cases hk)⟩
  intro p hp
  simp [seenP, DataW.atKey]

/-- What Twin, and Short, tell. -/
def twinP (m : List Node) (most : Int) : List Int × Bool × Int :=
  if mayB m = true then
    (if (runP m true most).ok = false then ([], false, 7)
     else if (runP m true most).at_ < 0 then ([], false, 0)
     else (textP (runP m true most).all (runP m true most).at_, true, 0))
  else ([], false, 1)
def shortP (m : List Node) : List Int × Bool :=
  if mayB m = true then
    (if (runP m false (2 * m.length * m.length + 1)).at_ < 0 then ([], false)
     else (textP (runP m false (2 * m.length * m.length + 1)).all (runP m false (2 * m.length * m.length + 1)).at_, true))
  else ([], false)

set_option maxRecDepth 100000 in
set_option maxHeartbeats 1000000 in
theorem twin_calls (m : List Node) (A : Option Addr) (c : Nat) (hN : ∀ x ∈ m, NodeOk x) (hm : m.length ≤ 1000) (hF : ∀ x ∈ m, x.f2.length ≤ 1000000) (most : Int) (w : World) (hC : kNode.C w A m.length m) :
    Calls Try.prog 23 #[.slice A m.length c, .int .i64 most] w fun e w' => e = .returned (.tuple #[.string (strOfNums (twinP m most).1), .bool (twinP m most).2.1, .int .i64 (twinP m most).2.2]) ∧ RowKit.Below w.heap.size w w' := by
  cases hM : mayB m
  · have hr : twinP m most = ([], false, 1) := by unfold twinP; rw [if_neg (by rw [hM]; simp)]
    rw [hr]
    go_enter Try.func23, Try.ntmps23
    go_wp2_with (go_at_call 36; refine (tof_none m A c hN hM _ hC).mono ?_; rintro e w2 ⟨rfl, hb2⟩)
    go_ret3
    exact ⟨rfl, hb2⟩
  · have hr : twinP m most = (if (runP m true most).ok = false then ([], false, 7) else if (runP m true most).at_ < 0 then ([], false, 0) else (textP (runP m true most).all (runP m true most).at_, true, 0)) := by unfold twinP; rw [if_pos hM]
    have RC := fun W g gm h => run_calls w m g gm A c hC hM hN hm hF true most W h
    generalize hR : runP m true most = R at *
    obtain ⟨at_, ok, all⟩ := R
    dsimp only at hr RC
    have HRC := Aside0.mk RC
    have HRR := Aside0.mk hr
    clear RC hr hR
    cases ok
    · rw [HRR.out.trans (if_pos rfl)]
      go_enter Try.func23, Try.ntmps23
      go_wp2_with (first
        | (go_at_call 36; refine (tof_some m A c hN hM _ hC).mono ?_; rintro e w2 ⟨g, gm, rfl, hS2⟩; have HS2 := Aside0.mk hS2; clear hS2)
        | (go_at_call 37; refine (HRC.out _ _ _ HS2.out).mono ?_; rintro e w3 ⟨rfl, st', hS3, _⟩; have HS3 := Aside0.mk hS3; clear hS3))
      go_ret3
      exact ⟨rfl, HS3.out.bel⟩
    · by_cases hat : at_ < 0
      · rw [HRR.out.trans ((if_neg (by simp)).trans (if_pos hat))]
        have d1 : decide (at_ < 0) = true := decide_eq_true hat
        go_enter Try.func23, Try.ntmps23
        go_wp2_with (first
          | (go_at_call 36; refine (tof_some m A c hN hM _ hC).mono ?_; rintro e w2 ⟨g, gm, rfl, hS2⟩; have HS2 := Aside0.mk hS2; clear hS2)
          | (go_at_call 37; refine (HRC.out _ _ _ HS2.out).mono ?_; rintro e w3 ⟨rfl, st', hS3, _⟩; have HS3 := Aside0.mk hS3; clear hS3))
        go_ret3
        exact ⟨rfl, HS3.out.bel⟩
      · rw [HRR.out.trans ((if_neg (by simp)).trans (if_neg hat))]
        have d1 : decide (at_ < 0) = false := decide_eq_false hat
        go_enter Try.func23, Try.ntmps23
        go_wp2_with (first
          | (go_at_call 36; refine (tof_some m A c hN hM _ hC).mono ?_; rintro e w2 ⟨g, gm, rfl, hS2⟩; have HS2 := Aside0.mk hS2; clear hS2)
          | (go_at_call 37; refine (HRC.out _ _ _ HS2.out).mono ?_; rintro e w3 ⟨rfl, st', hS3, hall, h0, h1⟩; subst hall; have HS3 := Aside0.mk hS3; clear hS3)
          | (go_at_call 38; refine (text_calls w m g gm A c hm _ st' at_ ⟨h0, h1⟩ _ HS3.out).mono ?_; rintro e w4 ⟨rfl, hb4⟩))
        go_ret3
        exact ⟨rfl, HS3.out.bel.trans (hb4.mono HS3.out.bel.size)⟩

set_option maxRecDepth 100000 in
set_option maxHeartbeats 1000000 in
theorem short_calls (m : List Node) (A : Option Addr) (c : Nat) (hN : ∀ x ∈ m, NodeOk x) (hm : m.length ≤ 1000) (hF : ∀ x ∈ m, x.f2.length ≤ 1000000) (w : World) (hC : kNode.C w A m.length m) :
    Calls Try.prog 26 #[.slice A m.length c] w fun e w' => e = .returned (.tuple #[.string (strOfNums (shortP m).1), .bool (shortP m).2]) ∧ RowKit.Below w.heap.size w w' := by
  cases hM : mayB m
  · have hr : shortP m = ([], false) := by unfold shortP; rw [if_neg (by rw [hM]; simp)]
    rw [hr]
    go_enter Try.func26, Try.ntmps26
    go_wp2_with (go_at_call 36; refine (tof_none m A c hN hM _ hC).mono ?_; rintro e w2 ⟨rfl, hb2⟩)
    go_ret2
    exact ⟨rfl, hb2⟩
  · have hr : shortP m = (if (runP m false (2 * m.length * m.length + 1)).at_ < 0 then ([], false) else (textP (runP m false (2 * m.length * m.length + 1)).all (runP m false (2 * m.length * m.length + 1)).at_, true)) := by unfold shortP; rw [if_pos hM]
    have RC := fun W g gm h => run_calls w m g gm A c hC hM hN hm hF false (2 * m.length * m.length + 1) W h
    have hbig : (2 * m.length * m.length : Int) ≤ 2000000 := by
      have : 2 * m.length * m.length ≤ 2 * 1000 * 1000 := Nat.mul_le_mul (Nat.mul_le_mul (Nat.le_refl _) hm) hm
      exact Int.ofNat_le.2 this
    have hbig0 : (0 : Int) ≤ 2 * m.length * m.length := Int.natCast_nonneg (2 * m.length * m.length)
    have hmost : wrap64 (wrap64 (wrap64 (2 * (m.length : Int)) * (m.length : Int)) + 1) = 2 * m.length * m.length + 1 := by
      rw [w64 (2 * (m.length : Int)) (by omega), w64 (2 * (m.length : Int) * (m.length : Int)) (by omega), w64 _ (by omega)]
    generalize hR : runP m false (2 * m.length * m.length + 1) = R at *
    obtain ⟨at_, ok, all⟩ := R
    dsimp only at hr RC
    have HRC := Aside0.mk RC
    have HRR := Aside0.mk hr
    clear RC hr hR
    by_cases hat : at_ < 0
    · rw [HRR.out.trans (if_pos hat)]
      have d1 : decide (at_ < 0) = true := decide_eq_true hat
      go_enter Try.func26, Try.ntmps26
      go_wp2_with (first
        | (go_at_call 36; refine (tof_some m A c hN hM _ hC).mono ?_; rintro e w2 ⟨g, gm, rfl, hS2⟩; have HS2 := Aside0.mk hS2; clear hS2)
        | (go_at_call 37; refine (HRC.out _ _ _ HS2.out).mono ?_; rintro e w3 ⟨rfl, st', hS3, _⟩; have HS3 := Aside0.mk hS3; clear hS3))
      go_ret2
      exact ⟨rfl, HS3.out.bel⟩
    · rw [HRR.out.trans (if_neg hat)]
      have d1 : decide (at_ < 0) = false := decide_eq_false hat
      go_enter Try.func26, Try.ntmps26
      go_wp2_with (first
        | (go_at_call 36; refine (tof_some m A c hN hM _ hC).mono ?_; rintro e w2 ⟨g, gm, rfl, hS2⟩; have HS2 := Aside0.mk hS2; clear hS2)
        | (go_at_call 37; refine (HRC.out _ _ _ HS2.out).mono ?_; rintro e w3 ⟨rfl, st', hS3, hall, h0, h1⟩; subst hall; have HS3 := Aside0.mk hS3; clear hS3)
        | (go_at_call 38; refine (text_calls w m g gm A c hm _ st' at_ ⟨h0, h1⟩ _ HS3.out).mono ?_; rintro e w4 ⟨rfl, hb4⟩))
      go_ret2
      exact ⟨rfl, HS3.out.bel.trans (hb4.mono HS3.out.bel.size)⟩

set_option maxRecDepth 100000 in
set_option maxHeartbeats 1000000 in
theorem empty_calls (m : List Node) (A : Option Addr) (c : Nat) (hN : ∀ x ∈ m, NodeOk x) (hm : m.length ≤ 1000) (hF : ∀ x ∈ m, x.f2.length ≤ 1000000) (w : World) (hC : kNode.C w A m.length m) :
    Calls Try.prog 27 #[.slice A m.length c] w fun e w' => e = .returned (.bool (!(shortP m).2)) ∧ RowKit.Below w.heap.size w w' := by
  go_enter Try.func27, Try.ntmps27
  go_wp2_with (go_at_call 26; refine (short_calls m A c hN hm hF _ hC).mono ?_; rintro e w2 ⟨rfl, hb2⟩)
  go_ret
  exact ⟨rfl, hb2⟩

end Go.Proofs.Ytcbflajacioinaa

/- twin: what holds of all pairs that are reached; a machine with no fork. Plain Lean. -/
set_option linter.unusedVariables false
namespace Go.Proofs.Ytcbflajacioinaa
open Go.RowKit Go.Shelf Go.Proofs.YtcbflajacioinaaW.PrintWords Go.Proofs.YtcbflajacioinaaW.PrintLast

theorem sr_zero {m : List Node} {st : SrS} (h : SrOk m st) : SrOk m ⟨st.all, []⟩ := ⟨h.inn, h.one, h.src, h.byte, (fun i hi => by simp at hi), Nat.zero_le _⟩
theorem sr_start {m : List Node} (hm : mayB m = true) : SrOk m (reachP ⟨[], []⟩ ⟨0, 0, false⟩ (-1) 0 false) := by
  have hl := mayB_len hm
  refine reach_ok ⟨by simp, by simp, by simp, by simp, by simp, Nat.le_refl _⟩ ?_ ⟨by omega, by simp⟩ ⟨by omega, by omega⟩ false
  unfold PrAt; dsimp only; omega
def AllJ (J : Pr → Prop) (st : SrS) : Prop := ∀ x ∈ st.all, J x.p
theorem reach_J {J : Pr → Prop} {st : SrS} {p : Pr} {src c : Int} {ate : Bool} (h : AllJ J st) (hp : J (normP p)) : AllJ J (reachP st p src c ate) := by
  unfold reachP
  split
  · exact h
  · intro x hx
    rcases List.mem_append.1 hx with hx | hx
    · exact h x hx
    · obtain rfl := List.mem_singleton.1 hx
      exact hp
theorem goL_J {J : Pr → Prop} {src : Int} : ∀ (l : List Pr) {st : SrS}, AllJ J st → (∀ q ∈ l, J (normP q)) → AllJ J (goL st l src)
  | [], _, h, _ => h
  | q :: l, st, h, hq => goL_J l (reach_J (src := src) (c := 0) (ate := false) h (hq q List.mem_cons_self)) (fun x hx => hq x (List.mem_cons_of_mem _ hx))
theorem goE_J {J : Pr → Prop} {src : Int} : ∀ (l : List (Pr × Int)) {st : SrS}, AllJ J st → (∀ q ∈ l, J (normP q.1)) → AllJ J (goE st l src)
  | [], _, h, _ => h
  | q :: l, st, h, hq => goE_J l (reach_J (src := src) (c := q.2) (ate := true) h (hq q List.mem_cons_self)) (fun x hx => hq x (List.mem_cons_of_mem _ hx))
structure Clos (m : List Node) (J : Pr → Prop) : Prop where
  spr : ∀ p, PrIn m p → J p → ∀ q ∈ sprL m p, J (normP q)
  eat : ∀ p, PrIn m p → J p → ∀ q ∈ eatL m p, J (normP q.1)
structure RunOk (m : List Node) (two : Bool) (most : Int) (J : Pr → Prop) (r : Fnd) : Prop where
  all : ∀ x ∈ r.all, J x.p
  small : r.all.length ≤ topP m
  much : r.ok = false → (r.all.length : Int) > most
  fnd : 0 ≤ r.at_ → r.at_ < r.all.length ∧ endB m two (stpAt r.all r.at_).p = true
theorem lvlF_J {m : List Node} {two : Bool} {most : Int} (hm : mayB m = true) {J : Pr → Prop} (hJ : Clos m J) : ∀ (d i : Nat) (st : SrS), SrOk m st → AllJ J st →
    (SrOk m (lvlF m two most d i st).2 ∧ AllJ J (lvlF m two most d i st).2) ∧ ∀ f, (lvlF m two most d i st).1 = some f → RunOk m two most J f
  | 0, i, st, h, hj => ⟨⟨h, hj⟩, fun f hf => by simp [lvlF] at hf⟩
  | d + 1, i, st, h, hj => by
    by_cases h1 : i < st.now.length
    · by_cases h2 : (st.all.length : Int) > most
      · rw [lvlF_much _ _ _ _ _ _ h1 h2]
        refine ⟨⟨h, hj⟩, fun f hf => ?_⟩
        obtain rfl := Option.some.inj hf
        exact ⟨hj, all_le h, fun _ => h2, fun h0 => absurd (show (0 : Int) ≤ -1 from h0) (by decide)⟩
      · have hat := h.now _ (getD_mem st.now i 0 h1)
        by_cases h3 : endB m two (stpAt st.all (st.now.getD i 0)).p = true
        · rw [lvlF_end _ _ _ _ _ _ h1 h2 h3]
          refine ⟨⟨h, hj⟩, fun f hf => ?_⟩
          obtain rfl := Option.some.inj hf
          exact ⟨hj, all_le h, (fun hh => by cases hh), fun _ => ⟨hat.2, h3⟩⟩
        · rw [lvlF_on _ _ _ _ _ _ h1 h2 h3]
          have hp := h.inn _ (stp_mem hat.1 hat.2)
          exact lvlF_J hm hJ d (i + 1) _ (goL_ok _ h (spr_in hm hp) ⟨by omega, hat.2⟩) (goL_J _ hj (hJ.spr _ hp (hj _ (stp_mem hat.1 hat.2))))
    · rw [lvlF_stop _ _ _ _ _ _ h1]
      exact ⟨⟨h, hj⟩, fun f hf => by cases hf⟩
theorem foldE_J {m : List Node} (hm : mayB m = true) (hN : ∀ x ∈ m, NodeOk x) {J : Pr → Prop} (hJ : Clos m J) : ∀ (l : List Int) (s : SrS), SrOk m s → AllJ J s → (∀ i ∈ l, 0 ≤ i ∧ i < s.all.length) →
    SrOk m (l.foldl (fun s at_ => goE s (eatL m (stpAt s.all at_).p) at_) s) ∧ AllJ J (l.foldl (fun s at_ => goE s (eatL m (stpAt s.all at_).p) at_) s)
  | [], _, h, hj, _ => ⟨h, hj⟩
  | a :: l, s, h, hj, hl => by
    have hat := hl a List.mem_cons_self
    have hp := h.inn _ (stp_mem hat.1 hat.2)
    have h1 := goE_ok (src := a) (eatL m (stpAt s.all a).p) h (eat_in hm hN hp) ⟨by omega, hat.2⟩
    have h2 := goE_J (src := a) (eatL m (stpAt s.all a).p) hj (hJ.eat _ hp (hj _ (stp_mem hat.1 hat.2)))
    obtain ⟨k, hk⟩ := goE_all (src := a) (eatL m (stpAt s.all a).p) s
    exact foldE_J hm hN hJ l _ h1 h2 (fun i hi => by
      have := hl i (List.mem_cons_of_mem _ hi)
      rw [hk, List.length_append]; omega)
theorem next_J {m : List Node} (hm : mayB m = true) (hN : ∀ x ∈ m, NodeOk x) {J : Pr → Prop} (hJ : Clos m J) {st : SrS} (h : SrOk m st) (hj : AllJ J st) : SrOk m (nextLvl m st) ∧ AllJ J (nextLvl m st) :=
  foldE_J hm hN hJ st.now ⟨st.all, []⟩ (sr_zero h) hj h.now
theorem runF_J {m : List Node} {two : Bool} {most : Int} (hm : mayB m = true) (hN : ∀ x ∈ m, NodeOk x) {J : Pr → Prop} (hJ : Clos m J) : ∀ (d : Nat) (st : SrS), SrOk m st → AllJ J st → RunOk m two most J (runF m two most d st)
  | 0, st, h, hj => ⟨hj, all_le h, (fun hh => by cases hh), fun h0 => absurd (show (0 : Int) ≤ -1 from h0) (by decide)⟩
  | d + 1, st, h, hj => by
    by_cases hz : st.now.length = 0
    · rw [runF, if_pos hz]
      exact ⟨hj, all_le h, (fun hh => by cases hh), fun h0 => absurd (show (0 : Int) ≤ -1 from h0) (by decide)⟩
    · rw [runF_go _ _ _ _ _ hz]
      obtain ⟨⟨a1, a2⟩, a3⟩ := lvlF_J (two := two) (most := most) hm hJ (topP m + 1) 0 st h hj
      unfold aftL
      generalize lvlF m two most (topP m + 1) 0 st = x at a1 a2 a3
      obtain ⟨x1, x2⟩ := x
      cases x1 with
      | some f => exact a3 f rfl
      | none =>
        obtain ⟨b1, b2⟩ := next_J hm hN hJ a1 a2
        exact runF_J hm hN hJ d _ b1 b2
theorem runP_J {m : List Node} (two : Bool) (most : Int) (hm : mayB m = true) (hN : ∀ x ∈ m, NodeOk x) {J : Pr → Prop} (hJ : Clos m J) (h0 : J ⟨0, 0, false⟩) : RunOk m two most J (runP m two most) :=
  runF_J hm hN hJ _ _ (sr_start hm) (fun x hx => by
    have : x = ⟨⟨0, 0, false⟩, -1, 0, false⟩ := by simpa [reachP, seenP, normP] using hx
    rw [this]; exact h0)

/-! #### no fork -/
theorem both_one {n : Int} {l : List Edge} (h : eatsB n l = true) {e o : Edge} (he : e ∈ l) (ho : o ∈ l) (hb : bothB e o = true) : e = o := by
  have hp := eats_apart h
  have hb := of_decide_eq_true hb
  have h1 := eats_edge h e he
  have h2 := eats_edge h o ho
  obtain ⟨i, hi, rfl⟩ := List.mem_iff_getElem.1 he
  obtain ⟨j, hj, rfl⟩ := List.mem_iff_getElem.1 ho
  rcases Nat.lt_trichotomy i j with hij | hij | hij
  · have := List.pairwise_iff_getElem.1 hp i j hi hj hij
    unfold edgesApart at this; omega
  · subst hij; rfl
  · have := List.pairwise_iff_getElem.1 hp j i hj hi hij
    unfold edgesApart at this; omega
def OneJ (p : Pr) : Prop := p.a = p.b ∧ p.ap = false
theorem noFork_clos {m : List Node} (hm : mayB m = true) (hf : ∀ x ∈ m, x.f0 ≠ 2) : Clos m OneJ := by
  refine ⟨fun p hp hj q hq => ?_, fun p hp hj q hq => ?_⟩
  · obtain ⟨a, b, ap⟩ := p
    obtain ⟨rfl, rfl⟩ : a = b ∧ ap = false := hj
    obtain ⟨h0, h1, h2⟩ := hp
    dsimp only at h0 h1 h2
    have hlen : (freeP m a).length ≤ 1 := by
      have hr := mayB_right hm a h0 h2
      have hk := hf _ (rd_Node_mem m a h0 h2)
      unfold freeP
      split
      · simp
      · rcases right_kind hr with k | k | k | k
        · rw [(right_eat hr k).2.1]; simp
        · exact absurd k hk
        · contradiction
        · rw [(right_end hr k).2.1]; simp
    unfold sprL at hq
    dsimp only at hq
    rw [if_neg (by simp), List.append_nil] at hq
    obtain ⟨i, hi, hq⟩ := List.mem_flatMap.1 hq
    have hi := List.mem_range.1 hi
    obtain rfl : i = 0 := by omega
    unfold sprAt at hq
    dsimp only at hq
    rw [if_neg (by simp), List.take_zero, List.map_nil] at hq
    obtain rfl := List.mem_singleton.1 hq
    unfold OneJ normP
    dsimp only
    exact ⟨by omega, rfl⟩
  · obtain ⟨a, b, ap⟩ := p
    obtain ⟨rfl, rfl⟩ : a = b ∧ ap = false := hj
    obtain ⟨h0, h1, h2⟩ := hp
    dsimp only at h0 h1 h2
    have hr := mayB_right hm a h0 h2
    unfold eatL at hq
    obtain ⟨e, he, hq⟩ := List.mem_flatMap.1 hq
    unfold eatAt at hq
    obtain ⟨o, ho, rfl⟩ := List.mem_map.1 hq
    obtain ⟨ho, hb⟩ := List.mem_filter.1 ho
    have heo : e = o := by
      rcases right_kind hr with k | k | k | k
      · exact both_one (right_eat hr k).1 he ho hb
      · exact absurd k (hf _ (rd_Node_mem m a h0 h2))
      · rw [(right_mark hr k).2.2.1] at he; cases he
      · rw [(right_end hr k).1] at he; cases he
    subst heo
    unfold OneJ normP
    dsimp only
    exact ⟨by omega, rfl⟩
theorem endB_ap {m : List Node} {two : Bool} {p : Pr} (h : endB m two p = true) : p.ap = two ∧ (rd_Node m p.a).f0 = 4 ∧ (rd_Node m p.b).f0 = 4 := by
  unfold endB at h
  simpa [and_assoc] using h
theorem twin_noFork {m : List Node} {most : Int} (hm : mayB m = true) (hN : ∀ x ∈ m, NodeOk x) (hf : ∀ x ∈ m, x.f0 ≠ 2) (hmost : (topP m : Int) ≤ most) : twinP m most = ([], false, 0) := by
  have h := runP_J true most hm hN (noFork_clos hm hf) ⟨rfl, rfl⟩
  have hok : (runP m true most).ok = true := by
    cases hc : (runP m true most).ok
    · have := h.much hc; have := h.small; omega
    · rfl
  have hat : (runP m true most).at_ < 0 := by
    by_cases h0 : 0 ≤ (runP m true most).at_
    · obtain ⟨h1, h2⟩ := h.fnd h0
      have h3 := (h.all _ (stp_mem h0 h1)).2
      have h4 := (endB_ap h2).1
      rw [h3] at h4
      cases h4
    · omega
  unfold twinP
  rw [if_pos hm, if_neg (by rw [hok]; simp), if_pos hat]

end Go.Proofs.Ytcbflajacioinaa

/- The guard few of layer 20, told. -/
namespace Go.Proofs.Ytcbflajacioinaa
open Go.RowKit Go.Proofs.YtcbflajacioinaaW.PrintWords Go.Proofs.YtcbflajacioinaaW.PrintLast Go.Proofs.Ytcbflajacioinaa.P

def Few20 (l : List S35) : Prop := l.length ≤ 10 ∧ ∀ x ∈ l, x.f1.length ≤ 6 ∧ x.f2.length ≤ 6
theorem few20_l0 (l : List S35) : ∀ (d : Nat) (i : Nat), 11 - i ≤ d → i ≤ 11 → (∀ j, j < i → ∀ x, l[j]? = some x → x.f1.length ≤ 6 ∧ x.f2.length ≤ 6) →
    ∃ k r, phalaropelaw20_few.l0 k l (i : Int) = some r ∧ (r = true → Few20 l) := by
  intro d
  induction d with
  | zero =>
    intro i hd hi hall
    obtain rfl : i = 11 := by omega
    refine ⟨2, decide ((l.length : Int) ≤ 10), ?_, ?_⟩
    · unfold phalaropelaw20_few.l0
      split
      · unfold phalaropelaw20_few.j1
        simp
      · unfold phalaropelaw20_few.j1
        simp
    · intro h
      have h := of_decide_eq_true h
      refine ⟨by omega, fun x hx => ?_⟩
      obtain ⟨j, hj, rfl⟩ := List.mem_iff_getElem.1 hx
      exact hall j (by omega) _ (List.getElem?_eq_getElem hj)
  | succ d ih =>
    intro i hd hi hall
    by_cases h61 : i = 11
    · exact ih i (by omega) hi hall
    by_cases hlt : i < l.length
    · have hg : rd_T35 l (i : Int) = l[i] := by unfold rd_T35; rw [Int.toNat_natCast, List.getD_eq_getElem?_getD, List.getElem?_eq_getElem hlt]; rfl
      by_cases h1 : l[i].f1.length ≤ 6
      · by_cases h2 : l[i].f2.length ≤ 6
        · obtain ⟨k, r, hk, hr⟩ := ih (i + 1) (by omega) (by omega) (fun j hj x hx => by
            by_cases e : j = i
            · subst e
              rw [List.getElem?_eq_getElem hlt] at hx
              obtain rfl := Option.some.inj hx
              exact ⟨h1, h2⟩
            · exact hall j (by omega) x hx)
          refine ⟨k + 2, r, ?_, hr⟩
          rw [phalaropelaw20_few.l0, if_pos (by omega), phalaropelaw20_few.j1, if_pos (by simp; omega), if_pos (by omega), if_pos (by omega), hg, if_neg (by omega), if_neg (by omega), w64 _ (by omega)]
          exact hk
        · refine ⟨2, false, ?_, fun h => by cases h⟩
          rw [phalaropelaw20_few.l0, if_pos (by omega), phalaropelaw20_few.j1, if_pos (by simp; omega), if_pos (by omega), if_pos (by omega), hg, if_neg (by omega), if_pos (by omega)]
      · refine ⟨2, false, ?_, fun h => by cases h⟩
        rw [phalaropelaw20_few.l0, if_pos (by omega), phalaropelaw20_few.j1, if_pos (by simp; omega), if_pos (by omega), if_pos (by omega), hg, if_pos (by omega)]
    · refine ⟨2, decide ((l.length : Int) ≤ 10), ?_, ?_⟩
      · rw [phalaropelaw20_few.l0, if_neg (by omega), phalaropelaw20_few.j1]
        rfl
      · intro h
        have h := of_decide_eq_true h
        refine ⟨by omega, fun x hx => ?_⟩
        obtain ⟨j, hj, rfl⟩ := List.mem_iff_getElem.1 hx
        exact hall j (by omega) _ (List.getElem?_eq_getElem hj)
theorem few20_eval (l : List S35) : ∃ k r, phalaropelaw20_few.f k l = some r ∧ (r = true → Few20 l) := few20_l0 l 11 0 (by omega) (by omega) (fun j hj => by omega)
theorem few20_fewP {l : List S35} (h : Few20 l) : FewP l ByteArray.empty := ⟨by have := h.1; omega, fun x hx => by have := h.2 x hx; omega, by decide⟩
theorem made_ok20 {l : List S35} (h : Few20 l) (hw : ∀ x ∈ l, ∀ e ∈ x.f1, 0 ≤ e.f0 ∧ e.f0 ≤ 255) : ∀ x ∈ madeL l, NodeOk x := made_ok (few20_fewP h) hw
theorem made_f20 {l : List S35} (h : Few20 l) : ∀ x ∈ madeL l, x.f2.length ≤ 1000000 := by
  intro x hx
  obtain ⟨y, hy, rfl⟩ := List.mem_map.1 hx
  have := (h.2 y hy).2
  show y.f2.length ≤ _
  omega
theorem few20_may {l : List S35} (hf : Few20 l) : Ev (fun k => phalaroperef16_May.f k l) (mayB (madeL l)) :=
  may_eval l (by have := hf.1; omega) (fun x hx => by have := hf.2 x hx; omega)
theorem rd_made (l : List S35) (i : Nat) (hi : i < l.length) : (madeL l)[i]? = some (toNode (rd_T35 l (i : Int))) := by
  unfold madeL rd_T35
  rw [Int.toNat_natCast, List.getElem?_map, List.getD_eq_getElem?_getD, List.getElem?_eq_getElem hi]; rfl

end Go.Proofs.Ytcbflajacioinaa

/- The law's own (layer 20): a machine, as the program has it. -/
namespace Go.Proofs.Ytcbflajacioinaa
open Go.RowKit Go.Shelf Go.Proofs.YtcbflajacioinaaW.PrintWords Go.Proofs.YtcbflajacioinaaW.PrintLast Go.Proofs.Ytcbflajacioinaa.P

set_option linter.unusedSimpArgs false
set_option maxRecDepth 100000 in
set_option maxHeartbeats 1000000 in
theorem made20_own (l : List S35) (A : Option Addr) (c : Nat) (w : World) (hC : Kd.C k35 w A l.length l) (hl : l.length ≤ 1000000) (hle : ∀ x ∈ l, x.f1.length ≤ 1000000) :
    Calls Try.prog 24 #[.slice A l.length c] w fun e w' => ∃ (v : Value) (css : List (List Value)), e = .returned v ∧ css.length = l.length ∧ w'.ownsRow w.heap.size 49 5 v l.length css.flatten ∧ (∀ (j : Nat) x c, (madeL l)[j]? = some x → css[j]? = some c → NodeIn w w' x c) ∧ RowKit.Below w.heap.size w w' := by
  go_enter Try.func24, Try.ntmps24
  go_wp2_with fail
  go_loopw [3, 4] (fun ov iv wr => ∃ (i : Nat) (css : List (List Value)), i ≤ l.length ∧ iv = .int .i64 i ∧ css.length = i ∧ wr.ownsRow w.heap.size 49 5 ov i css.flatten ∧ Aside0 (∀ (j : Nat) x c, (madeL l)[j]? = some x → css[j]? = some c → NodeIn w wr x c) ∧ Aside0 (RowKit.Below w.heap.size w wr)) (fun _ i _ => l.length - (intOf i).toNat)
  case atStart => exact ⟨0, [], Nat.zero_le _, rfl, rfl, World.ownsRow_nil _ _ _ _, ⟨fun j x c _ h => by simp at h⟩, ⟨RowKit.Below.refl _ _⟩⟩
  case round =>
    obtain ⟨i, css, hi', rfl, hcl, hown, HN, HB⟩ := hrel
    by_cases hlt : i < l.length
    · obtain ⟨ad, A1, c1, A2, c2, hA, x0, x1, x2, x3, x4, hl1, g1, hl2, g2⟩ := at_T35 hC i (by omega) (by omega)
      simp only [Int.toNat_natCast] at x0 x1 x2 x3 x4
      replace x0 := (HB.out.cell (World.block_lt_of_cell? _ _ x0)).trans x0
      replace x1 := (HB.out.cell (World.block_lt_of_cell? _ _ x1)).trans x1
      replace x2 := (HB.out.cell (World.block_lt_of_cell? _ _ x2)).trans x2
      replace x3 := (HB.out.cell (World.block_lt_of_cell? _ _ x3)).trans x3
      replace x4 := (HB.out.cell (World.block_lt_of_cell? _ _ x4)).trans x4
      replace g1 := Kd.C_below g1 HB.out
      have hmem : rd_T35 l i ∈ l := by unfold rd_T35; rw [Int.toNat_natCast, List.getD_eq_getElem?_getD, List.getElem?_eq_getElem hlt]; exact List.getElem_mem _
      have hnode : (madeL l)[i]? = some (toNode (rd_T35 l i)) := by unfold madeL rd_T35; rw [Int.toNat_natCast, List.getElem?_map, List.getD_eq_getElem?_getD, List.getElem?_eq_getElem hlt]; rfl
      have hes := hle _ hmem
      generalize rd_T35 l i = x at x0 x1 x2 x3 x4 hl1 g1 hl2 g2 hmem hnode hes
      obtain ⟨y0, y1, y2, y3, y4⟩ := x
      dsimp only at x0 x1 x2 x3 x4 hl1 g1 hl2 g2 hnode hes
      subst hA
      have q0 := World.new_ne _ _ x0
      have HNODE := Aside0.mk hnode
      have HG1 := Aside0.mk g1
      have HG2 := Aside0.mk g2
      have hi0 : (0 : Int) ≤ i := by omega
      have hi1 : (i : Int) < l.length := by omega
      clear g1 g2 hnode hmem
      go_wp2_with fail
      go_region_held3 (fun w' => w'.cell? (ad.add (i * 5)) = some (.int .i64 y0) ∧ w'.cell? ⟨(ad.add (i * 5)).block, (ad.add (i * 5)).off + 1, none⟩ = some (.slice A1 y1.length c1) ∧ w'.cell? ⟨(ad.add (i * 5)).block, (ad.add (i * 5)).off + 2, none⟩ = some (.slice A2 y2.length c2) ∧ w'.cell? ⟨(ad.add (i * 5)).block, (ad.add (i * 5)).off + 3, none⟩ = some (.int .i64 y3) ∧ w'.cell? ⟨(ad.add (i * 5)).block, (ad.add (i * 5)).off + 4, none⟩ = some (.int .i64 y4)) (go_keep) (fail)
      all_goals go_wp2_with fail
      have bN := Blk.new wr 49 #[.int .i64 y0, .slice none 0 0, .slice A2 y2.length c2, .int .i64 y3, .int .i64 y4]
      have bN : Blk (wr.alloc (.cells #[.int .i64 y0, .slice none 0 0, .slice A2 y2.length c2, .int .i64 y3, .int .i64 y4] 49)).drew wr.heap.size 49 #[.int .i64 y0, .slice none 0 0, .slice A2 y2.length c2, .int .i64 y3, .int .i64 y4] := bN
      have hg5 := (World.grownBy_alloc wr (.cells #[.int .i64 y0, .slice none 0 0, .slice A2 y2.length c2, .int .i64 y3, .int .i64 y4] 49) none).trans (grown_of_below (below_drew1 (RowKit.Below.refl _ _)) none)
      have hs5 : (wr.alloc (.cells #[.int .i64 y0, .slice none 0 0, .slice A2 y2.length c2, .int .i64 y3, .int .i64 y4] 49)).drew.heap.size = wr.heap.size + 1 := by simp
      generalize (wr.alloc (.cells #[.int .i64 y0, .slice none 0 0, .slice A2 y2.length c2, .int .i64 y3, .int .i64 y4] 49)).drew = w5 at bN hg5 hs5 ⊢
      have HB5 := Aside0.mk (HB.out.grown hg5 HB.out.size (fun j hj => by cases hj))
      have hwr := HB.out.size
      have hlw := World.block_lt_of_cell? _ _ x0
      have X0 := Aside0.mk x0
      have X1 := Aside0.mk x1
      have hrb : wr.heap.size < w5.heap.size := by omega
      generalize hRb : wr.heap.size = Bn at bN hrb hwr q0 hlw hs5 ⊢
      clear x0 x1 x2 x3 x4
      go_loopw [6] (fun kv wq => ∃ (k : Nat) (v1 : Value), k ≤ y1.length ∧ kv = .int .i64 k ∧ Blk wq Bn 49 #[.int .i64 y0, v1, .slice A2 y2.length c2, .int .i64 y3, .int .i64 y4] ∧ wq.ownsRow w5.heap.size 52 3 v1 k (((y1.take k).map toEdge).flatMap encEdge) ∧ Aside0 (w5.grownBy wq (some Bn))) (fun iv _ => y1.length - (intOf iv).toNat)
      case atStart => exact ⟨0, _, Nat.zero_le _, rfl, bN, World.ownsRow_nil _ _ _ _, ⟨grown_of_below (RowKit.Below.refl _ _) _⟩⟩
      case round =>
        obtain ⟨k, v1, hk, rfl, hb, hrow, HGq⟩ := hrel
        have HGall := Aside0.mk (hg5.andThen HGq.out (fun j hj => .inl (by cases hj; rw [hRb]; exact Nat.le_refl _)))
        have x1 := (HGall.out.cell_far ⟨(ad.add (i * 5)).block, (ad.add (i * 5)).off + 1, none⟩ (by rw [hRb]; exact hlw) (by simp)).trans X1.out
        have b1 := hb.cell 1
        have f1 := hb.free 1
        simp only [List.getElem?_toArray, List.getElem?_cons_zero, List.getElem?_cons_succ] at b1
        obtain ⟨i0, hi, hz0, hz1, hz2⟩ := info_parts infoEdge
        have hq5 := HGq.out.size
        by_cases hkl : k < y1.length
        · obtain ⟨ad1, hA1, eo0, eo1, eo2⟩ := at_T72 HG1.out k (by omega) (by omega)
          simp only [Int.toNat_natCast] at eo0 eo1 eo2
          have hts : y1.take (k + 1) = y1.take k ++ [rd_T72 y1 k] := by unfold rd_T72; rw [Int.toNat_natCast]; exact take_snoc' y1 k z72 hkl
          generalize rd_T72 y1 k = x at eo0 eo1 eo2 hts
          have hle1 := World.block_lt_of_cell? _ _ eo0
          rw [hRb] at hle1
          have e0 := (HGall.out.cell_far (ad1.add (k * 3)) (by rw [hRb]; exact hle1) (by simp)).trans eo0
          have e1 := (HGall.out.cell_far ⟨(ad1.add (k * 3)).block, (ad1.add (k * 3)).off + 1, none⟩ (by rw [hRb]; exact hle1) (by simp)).trans eo1
          have e2 := (HGall.out.cell_far ⟨(ad1.add (k * 3)).block, (ad1.add (k * 3)).off + 2, none⟩ (by rw [hRb]; exact hle1) (by simp)).trans eo2
          subst hA1
          have HTS := Aside0.mk hts
          have hk0 : (0 : Int) ≤ k := by omega
          have hk1 : (k : Int) < y1.length := by omega
          have hb1 : k + 1 ≤ maxLen := by unfold maxLen; omega
          have hb2 : (k + 1) * 16 ≤ 140737488355328 := by omega
          have hnB : some Bn ≠ v1.ownBlock := hb.not_row (by decide) hrow
          have hfar : ∀ b, b < Bn → some b ≠ v1.ownBlock := fun b hbB e => by have := own_base hrow b e.symm; omega
          have hlB := hb.lt
          have q1 := World.new_ne _ _ x1
          have q2 := World.new_ne _ _ b1
          have q3 := World.new_ne _ _ e0
          have keepS : ∀ o w1, (wr.drew.alloc o).grownBy w1 v1.ownBlock → (w1.cell? ⟨Bn, 1, none⟩ = some v1 ∧ w1.cell? ⟨(ad.add (i * 5)).block, (ad.add (i * 5)).off + 1, none⟩ = some (.slice (some ad1) y1.length c1) ∧ w1.cell? (ad1.add (k * 3)) = some (.int .u8 x.f0) ∧ w1.cell? ⟨(ad1.add (k * 3)).block, (ad1.add (k * 3)).off + 1, none⟩ = some (.int .u8 x.f1) ∧ w1.cell? ⟨(ad1.add (k * 3)).block, (ad1.add (k * 3)).off + 2, none⟩ = some (.int .i64 x.f2)) ∧ w1.frozen? ⟨Bn, 1, none⟩ = false := fun o w1 hg => by
            have hg2 := (World.grownBy_alloc wr.drew o v1.ownBlock).trans hg
            refine ⟨⟨(hg2.cell_far ⟨Bn, 1, none⟩ hlB hnB).trans b1, (hg2.cell_far ⟨(ad.add (i * 5)).block, (ad.add (i * 5)).off + 1, none⟩ (Nat.lt_trans hlw hlB) (hfar _ hlw)).trans x1, (hg2.cell_far (ad1.add (k * 3)) (Nat.lt_trans hle1 hlB) (hfar _ hle1)).trans e0, (hg2.cell_far ⟨(ad1.add (k * 3)).block, (ad1.add (k * 3)).off + 1, none⟩ (Nat.lt_trans hle1 hlB) (hfar _ hle1)).trans e1, (hg2.cell_far ⟨(ad1.add (k * 3)).block, (ad1.add (k * 3)).off + 2, none⟩ (Nat.lt_trans hle1 hlB) (hfar _ hle1)).trans e2⟩, (hg2.frozen_far ⟨Bn, 1, none⟩ hlB hnB).trans f1⟩
          have grefl : ∀ (W : World) (row : Option Nat), W.grownBy W row := fun W row => grown_of_below (RowKit.Below.refl _ _) row
          clear eo0 eo1 eo2 hts
          go_wp2_with fail
          refine start_ (n := 34) (S := fun w' => w'.cell? ⟨Bn, 1, none⟩ = some v1 ∧ w'.cell? ⟨(ad.add (i * 5)).block, (ad.add (i * 5)).off + 1, none⟩ = some (.slice (some ad1) y1.length c1) ∧ w'.cell? (ad1.add (k * 3)) = some (.int .u8 x.f0) ∧ w'.cell? ⟨(ad1.add (k * 3)).block, (ad1.add (k * 3)).off + 1, none⟩ = some (.int .u8 x.f1) ∧ w'.cell? ⟨(ad1.add (k * 3)).block, (ad1.add (k * 3)).off + 2, none⟩ = some (.int .i64 x.f2)) (ds := [33]) #[false, false, false, false, false, false, false, false, false, false, false, false, false, false, false, false, false, false, false, false, false, false, false, false, false, false, false, false, false, false, false, false, false, false] (by kernel_rfl) rfl rfl ⟨b1, x1, e0, e1, e2⟩ (fun hHeld => ?_)
          refine pure_ (i := 0) (N := some 44) (v := ?_) (a' := ?_) #[true, false, false, false, false, false, false, false, false, false, false, false, false, false, false, false, false, false, false, false, false, false, false, false, false, false, false, false, false, false, false, false, false, false] rfl rfl (by kernel_rfl) (fun _ _ _ h => h) (Or.inl ⟨by rfl, ?_⟩) ?_ ?_
          rotate_left
          · intro w'
            go_simp
            with_reducible rfl
          rotate_left
          · simp only [Act.put, List.setIfInBounds_toArray, List.set_cons_zero, List.set_cons_succ, i64_w, i32_w]
            rfl
          refine pure_ (i := 2) (N := some 46) (v := ?_) (a' := ?_) #[true, false, true, false, false, false, false, false, false, false, false, false, false, false, false, false, false, false, false, false, false, false, false, false, false, false, false, false, false, false, false, false, false, false] rfl rfl (by kernel_rfl) (fun _ _ _ h => h) (Or.inl ⟨by rfl, ?_⟩) ?_ ?_
          rotate_left
          · intro w'
            go_simp
            with_reducible rfl
          rotate_left
          · simp only [Act.put, List.setIfInBounds_toArray, List.set_cons_zero, List.set_cons_succ, i64_w, i32_w]
            rfl
          refine pure_ (i := 3) (N := some 47) (v := ?_) (a' := ?_) #[true, false, true, true, false, false, false, false, false, false, false, false, false, false, false, false, false, false, false, false, false, false, false, false, false, false, false, false, false, false, false, false, false, false] rfl rfl (by kernel_rfl) (fun _ _ _ h => h) (Or.inl ⟨by rfl, ?_⟩) ?_ ?_
          rotate_left
          · intro w'
            go_simp
            with_reducible rfl
          rotate_left
          · simp only [Act.put, List.setIfInBounds_toArray, List.set_cons_zero, List.set_cons_succ, i64_w, i32_w]
            rfl
          refine pure_ (i := 4) (N := some 48) (v := ?_) (a' := ?_) #[true, false, true, true, true, false, false, false, false, false, false, false, false, false, false, false, false, false, false, false, false, false, false, false, false, false, false, false, false, false, false, false, false, false] rfl rfl (by kernel_rfl) (fun _ _ _ h => h) (Or.inl ⟨by rfl, ?_⟩) ?_ ?_
          rotate_left
          · intro w'
            go_simp
            with_reducible rfl
          rotate_left
          · simp only [Act.put, List.setIfInBounds_toArray, List.set_cons_zero, List.set_cons_succ, i64_w, i32_w]
            rfl
          refine pure_ (i := 5) (N := some 49) (v := ?_) (a' := ?_) #[true, false, true, true, true, true, false, false, false, false, false, false, false, false, false, false, false, false, false, false, false, false, false, false, false, false, false, false, false, false, false, false, false, false] rfl rfl (by kernel_rfl) (fun _ _ _ h => h) (Or.inl ⟨by rfl, ?_⟩) ?_ ?_
          rotate_left
          · intro w'
            go_simp
            with_reducible rfl
          rotate_left
          · simp only [Act.put, List.setIfInBounds_toArray, List.set_cons_zero, List.set_cons_succ, i64_w, i32_w]
            rfl
          refine pure_ (i := 7) (N := some 51) (v := ?_) (a' := ?_) #[true, false, true, true, true, true, false, true, false, false, false, false, false, false, false, false, false, false, false, false, false, false, false, false, false, false, false, false, false, false, false, false, false, false] rfl rfl (by kernel_rfl) (fun _ _ _ h => h) (Or.inl ⟨by rfl, ?_⟩) ?_ ?_
          rotate_left
          · intro w'
            go_simp
            with_reducible rfl
          rotate_left
          · simp only [Act.put, List.setIfInBounds_toArray, List.set_cons_zero, List.set_cons_succ, i64_w, i32_w]
            rfl
          refine pure_ (i := 11) (N := some 55) (v := ?_) (a' := ?_) #[true, false, true, true, true, true, false, true, false, false, false, true, false, false, false, false, false, false, false, false, false, false, false, false, false, false, false, false, false, false, false, false, false, false] rfl rfl (by kernel_rfl) (fun _ _ _ h => h) (Or.inl ⟨by rfl, ?_⟩) ?_ ?_
          rotate_left
          · intro w'
            go_simp
            with_reducible rfl
          rotate_left
          · simp only [Act.put, List.setIfInBounds_toArray, List.set_cons_zero, List.set_cons_succ, i64_w, i32_w]
            rfl
          refine pure_ (i := 12) (N := some 56) (v := ?_) (a' := ?_) #[true, false, true, true, true, true, false, true, false, false, false, true, true, false, false, false, false, false, false, false, false, false, false, false, false, false, false, false, false, false, false, false, false, false] rfl rfl (by kernel_rfl) (fun _ _ _ h => h) (Or.inl ⟨by rfl, ?_⟩) ?_ ?_
          rotate_left
          · intro w'
            go_simp
            with_reducible rfl
          rotate_left
          · simp only [Act.put, List.setIfInBounds_toArray, List.set_cons_zero, List.set_cons_succ, i64_w, i32_w]
            rfl
          refine pure_ (i := 13) (N := some 57) (v := ?_) (a' := ?_) #[true, false, true, true, true, true, false, true, false, false, false, true, true, true, false, false, false, false, false, false, false, false, false, false, false, false, false, false, false, false, false, false, false, false] rfl rfl (by kernel_rfl) (fun _ _ _ h => h) (Or.inl ⟨by rfl, ?_⟩) ?_ ?_
          rotate_left
          · intro w'
            go_simp
            with_reducible rfl
          rotate_left
          · simp only [Act.put, List.setIfInBounds_toArray, List.set_cons_zero, List.set_cons_succ, i64_w, i32_w]
            rfl
          refine pure_ (i := 14) (N := some 58) (v := ?_) (a' := ?_) #[true, false, true, true, true, true, false, true, false, false, false, true, true, true, true, false, false, false, false, false, false, false, false, false, false, false, false, false, false, false, false, false, false, false] rfl rfl (by kernel_rfl) (fun _ _ _ h => h) (Or.inl ⟨by rfl, ?_⟩) ?_ ?_
          rotate_left
          · intro w'
            go_simp
            with_reducible rfl
          rotate_left
          · simp only [Act.put, List.setIfInBounds_toArray, List.set_cons_zero, List.set_cons_succ, i64_w, i32_w]
            rfl
          refine pure_ (i := 16) (N := some 60) (v := ?_) (a' := ?_) #[true, false, true, true, true, true, false, true, false, false, false, true, true, true, true, false, true, false, false, false, false, false, false, false, false, false, false, false, false, false, false, false, false, false] rfl rfl (by kernel_rfl) (fun _ _ _ h => h) (Or.inl ⟨by rfl, ?_⟩) ?_ ?_
          rotate_left
          · intro w'
            go_simp
            with_reducible rfl
          rotate_left
          · simp only [Act.put, List.setIfInBounds_toArray, List.set_cons_zero, List.set_cons_succ, i64_w, i32_w]
            rfl
          refine pure_ (i := 20) (N := some 64) (v := ?_) (a' := ?_) #[true, false, true, true, true, true, false, true, false, false, false, true, true, true, true, false, true, false, false, false, true, false, false, false, false, false, false, false, false, false, false, false, false, false] rfl rfl (by kernel_rfl) (fun _ _ _ h => h) (Or.inl ⟨by rfl, ?_⟩) ?_ ?_
          rotate_left
          · intro w'
            go_simp
            with_reducible rfl
          rotate_left
          · simp only [Act.put, List.setIfInBounds_toArray, List.set_cons_zero, List.set_cons_succ, i64_w, i32_w]
            rfl
          refine pure_ (i := 21) (N := some 65) (v := ?_) (a' := ?_) #[true, false, true, true, true, true, false, true, false, false, false, true, true, true, true, false, true, false, false, false, true, true, false, false, false, false, false, false, false, false, false, false, false, false] rfl rfl (by kernel_rfl) (fun _ _ _ h => h) (Or.inl ⟨by rfl, ?_⟩) ?_ ?_
          rotate_left
          · intro w'
            go_simp
            with_reducible rfl
          rotate_left
          · simp only [Act.put, List.setIfInBounds_toArray, List.set_cons_zero, List.set_cons_succ, i64_w, i32_w]
            rfl
          refine pure_ (i := 22) (N := some 66) (v := ?_) (a' := ?_) #[true, false, true, true, true, true, false, true, false, false, false, true, true, true, true, false, true, false, false, false, true, true, true, false, false, false, false, false, false, false, false, false, false, false] rfl rfl (by kernel_rfl) (fun _ _ _ h => h) (Or.inl ⟨by rfl, ?_⟩) ?_ ?_
          rotate_left
          · intro w'
            go_simp
            with_reducible rfl
          rotate_left
          · simp only [Act.put, List.setIfInBounds_toArray, List.set_cons_zero, List.set_cons_succ, i64_w, i32_w]
            rfl
          refine pure_ (i := 23) (N := some 67) (v := ?_) (a' := ?_) #[true, false, true, true, true, true, false, true, false, false, false, true, true, true, true, false, true, false, false, false, true, true, true, true, false, false, false, false, false, false, false, false, false, false] rfl rfl (by kernel_rfl) (fun _ _ _ h => h) (Or.inl ⟨by rfl, ?_⟩) ?_ ?_
          rotate_left
          · intro w'
            go_simp
            with_reducible rfl
          rotate_left
          · simp only [Act.put, List.setIfInBounds_toArray, List.set_cons_zero, List.set_cons_succ, i64_w, i32_w]
            rfl
          refine pure_ (i := 25) (N := some 69) (v := ?_) (a' := ?_) #[true, false, true, true, true, true, false, true, false, false, false, true, true, true, true, false, true, false, false, false, true, true, true, true, false, true, false, false, false, false, false, false, false, false] rfl rfl (by kernel_rfl) (fun _ _ _ h => h) (Or.inl ⟨by rfl, ?_⟩) ?_ ?_
          rotate_left
          · intro w'
            go_simp
            with_reducible rfl
          rotate_left
          · simp only [Act.put, List.setIfInBounds_toArray, List.set_cons_zero, List.set_cons_succ, i64_w, i32_w]
            rfl
          refine take_ (i := 1) (N := some 45) (v := ?_) (a' := ?_) #[true, true, true, true, true, true, false, true, false, false, false, true, true, true, true, false, true, false, false, false, true, true, true, true, false, true, false, false, false, false, false, false, false, false] rfl rfl (by kernel_rfl) (fun _ _ _ h => h) (Or.inl ⟨by rfl, ?_⟩) hHeld ?_ ?_
          rotate_left
          · rintro w' ⟨s0, s1, s2, s3, s4⟩
            go_simp
            with_reducible rfl
          rotate_left
          · simp only [Act.put, List.setIfInBounds_toArray, List.set_cons_zero, List.set_cons_succ, i64_w, i32_w]
            rfl
          refine take_ (i := 6) (N := some 50) (v := ?_) (a' := ?_) #[true, true, true, true, true, true, true, true, false, false, false, true, true, true, true, false, true, false, false, false, true, true, true, true, false, true, false, false, false, false, false, false, false, false] rfl rfl (by kernel_rfl) (fun _ _ _ h => h) (Or.inl ⟨by rfl, ?_⟩) hHeld ?_ ?_
          rotate_left
          · rintro w' ⟨s0, s1, s2, s3, s4⟩
            go_simp
            with_reducible rfl
          rotate_left
          · simp only [Act.put, List.setIfInBounds_toArray, List.set_cons_zero, List.set_cons_succ, i64_w, i32_w]
            rfl
          refine pure_ (i := 8) (N := some 52) (v := ?_) (a' := ?_) #[true, true, true, true, true, true, true, true, true, false, false, true, true, true, true, false, true, false, false, false, true, true, true, true, false, true, false, false, false, false, false, false, false, false] rfl rfl (by kernel_rfl) (fun _ _ _ h => h) (Or.inl ⟨by rfl, ?_⟩) ?_ ?_
          rotate_left
          · intro w'
            go_simp
            with_reducible rfl
          rotate_left
          · simp only [Act.put, List.setIfInBounds_toArray, List.set_cons_zero, List.set_cons_succ, i64_w, i32_w]
            rfl
          refine pure_ (i := 9) (N := some 53) (v := ?_) (a' := ?_) #[true, true, true, true, true, true, true, true, true, true, false, true, true, true, true, false, true, false, false, false, true, true, true, true, false, true, false, false, false, false, false, false, false, false] rfl rfl (by kernel_rfl) (fun _ _ _ h => h) (Or.inl ⟨by rfl, ?_⟩) ?_ ?_
          rotate_left
          · intro w'
            go_simp
            with_reducible rfl
          rotate_left
          · simp only [Act.put, List.setIfInBounds_toArray, List.set_cons_zero, List.set_cons_succ, i64_w, i32_w]
            rfl
          refine take_ (i := 10) (N := some 54) (v := ?_) (a' := ?_) #[true, true, true, true, true, true, true, true, true, true, true, true, true, true, true, false, true, false, false, false, true, true, true, true, false, true, false, false, false, false, false, false, false, false] rfl rfl (by kernel_rfl) (fun _ _ _ h => h) (Or.inl ⟨by rfl, ?_⟩) hHeld ?_ ?_
          rotate_left
          · rintro w' ⟨s0, s1, s2, s3, s4⟩
            go_simp
            with_reducible rfl
          rotate_left
          · simp only [Act.put, List.setIfInBounds_toArray, List.set_cons_zero, List.set_cons_succ, i64_w, i32_w]
            rfl
          refine take_ (i := 15) (N := some 59) (v := ?_) (a' := ?_) #[true, true, true, true, true, true, true, true, true, true, true, true, true, true, true, true, true, false, false, false, true, true, true, true, false, true, false, false, false, false, false, false, false, false] rfl rfl (by kernel_rfl) (fun _ _ _ h => h) (Or.inl ⟨by rfl, ?_⟩) hHeld ?_ ?_
          rotate_left
          · rintro w' ⟨s0, s1, s2, s3, s4⟩
            go_simp
            with_reducible rfl
          rotate_left
          · simp only [Act.put, List.setIfInBounds_toArray, List.set_cons_zero, List.set_cons_succ, i64_w, i32_w]
            rfl
          refine pure_ (i := 17) (N := some 61) (v := ?_) (a' := ?_) #[true, true, true, true, true, true, true, true, true, true, true, true, true, true, true, true, true, true, false, false, true, true, true, true, false, true, false, false, false, false, false, false, false, false] rfl rfl (by kernel_rfl) (fun _ _ _ h => h) (Or.inl ⟨by rfl, ?_⟩) ?_ ?_
          rotate_left
          · intro w'
            go_simp
            with_reducible rfl
          rotate_left
          · simp only [Act.put, List.setIfInBounds_toArray, List.set_cons_zero, List.set_cons_succ, i64_w, i32_w]
            rfl
          refine pure_ (i := 18) (N := some 62) (v := ?_) (a' := ?_) #[true, true, true, true, true, true, true, true, true, true, true, true, true, true, true, true, true, true, true, false, true, true, true, true, false, true, false, false, false, false, false, false, false, false] rfl rfl (by kernel_rfl) (fun _ _ _ h => h) (Or.inl ⟨by rfl, ?_⟩) ?_ ?_
          rotate_left
          · intro w'
            go_simp
            with_reducible rfl
          rotate_left
          · simp only [Act.put, List.setIfInBounds_toArray, List.set_cons_zero, List.set_cons_succ, i64_w, i32_w]
            rfl
          refine take_ (i := 19) (N := some 63) (v := ?_) (a' := ?_) #[true, true, true, true, true, true, true, true, true, true, true, true, true, true, true, true, true, true, true, true, true, true, true, true, false, true, false, false, false, false, false, false, false, false] rfl rfl (by kernel_rfl) (fun _ _ _ h => h) (Or.inl ⟨by rfl, ?_⟩) hHeld ?_ ?_
          rotate_left
          · rintro w' ⟨s0, s1, s2, s3, s4⟩
            go_simp
            with_reducible rfl
          rotate_left
          · simp only [Act.put, List.setIfInBounds_toArray, List.set_cons_zero, List.set_cons_succ, i64_w, i32_w]
            rfl
          refine take_ (i := 24) (N := some 68) (v := ?_) (a' := ?_) #[true, true, true, true, true, true, true, true, true, true, true, true, true, true, true, true, true, true, true, true, true, true, true, true, true, true, false, false, false, false, false, false, false, false] rfl rfl (by kernel_rfl) (fun _ _ _ h => h) (Or.inl ⟨by rfl, ?_⟩) hHeld ?_ ?_
          rotate_left
          · rintro w' ⟨s0, s1, s2, s3, s4⟩
            go_simp
            with_reducible rfl
          rotate_left
          · simp only [Act.put, List.setIfInBounds_toArray, List.set_cons_zero, List.set_cons_succ, i64_w, i32_w]
            rfl
          refine pure_ (i := 26) (N := some 70) (v := ?_) (a' := ?_) #[true, true, true, true, true, true, true, true, true, true, true, true, true, true, true, true, true, true, true, true, true, true, true, true, true, true, true, false, false, false, false, false, false, false] rfl rfl (by kernel_rfl) (fun _ _ _ h => h) (Or.inl ⟨by rfl, ?_⟩) ?_ ?_
          rotate_left
          · intro w'
            go_simp
            with_reducible rfl
          rotate_left
          · simp only [Act.put, List.setIfInBounds_toArray, List.set_cons_zero, List.set_cons_succ, i64_w, i32_w]
            rfl
          refine pure_ (i := 27) (N := some 71) (v := ?_) (a' := ?_) #[true, true, true, true, true, true, true, true, true, true, true, true, true, true, true, true, true, true, true, true, true, true, true, true, true, true, true, true, false, false, false, false, false, false] rfl rfl (by kernel_rfl) (fun _ _ _ h => h) (Or.inl ⟨by rfl, ?_⟩) ?_ ?_
          rotate_left
          · intro w'
            go_simp
            with_reducible rfl
          rotate_left
          · simp only [Act.put, List.setIfInBounds_toArray, List.set_cons_zero, List.set_cons_succ, i64_w, i32_w]
            rfl
          refine take_ (i := 28) (N := some 72) (v := ?_) (a' := ?_) #[true, true, true, true, true, true, true, true, true, true, true, true, true, true, true, true, true, true, true, true, true, true, true, true, true, true, true, true, true, false, false, false, false, false] rfl rfl (by kernel_rfl) (fun _ _ _ h => h) (Or.inl ⟨by rfl, ?_⟩) hHeld ?_ ?_
          rotate_left
          · rintro w' ⟨s0, s1, s2, s3, s4⟩
            go_simp
            with_reducible rfl
          rotate_left
          · simp only [Act.put, List.setIfInBounds_toArray, List.set_cons_zero, List.set_cons_succ, i64_w, i32_w]
            rfl
          refine pure_ (i := 29) (N := some 73) (v := ?_) (a' := ?_) #[true, true, true, true, true, true, true, true, true, true, true, true, true, true, true, true, true, true, true, true, true, true, true, true, true, true, true, true, true, true, false, false, false, false] rfl rfl (by kernel_rfl) (fun _ _ _ h => h) (Or.inl ⟨by rfl, ?_⟩) ?_ ?_
          rotate_left
          · intro w'
            go_simp
            with_reducible rfl
          rotate_left
          · simp only [Act.put, List.setIfInBounds_toArray, List.set_cons_zero, List.set_cons_succ, i64_w, i32_w]
            rfl
          refine one_ (i := 30) (N := some 74) #[true, true, true, true, true, true, true, true, true, true, true, true, true, true, true, true, true, true, true, true, true, true, true, true, true, true, true, true, true, true, true, false, false, false] rfl rfl (by kernel_rfl) (by decide) (fun K hK => ?_)
          refine value_ (w1 := ?_) (v := ?_) (by rfl) rfl ?_ ?_
          rotate_left 2
          · go_simp
            constructor
            · rfl
            · rfl
          refine hK.out _ _ ⟨(keepS _ _ (grefl _ _)).1.1, (keepS _ _ (grefl _ _)).1.2.1, (keepS _ _ (grefl _ _)).1.2.2.1, (keepS _ _ (grefl _ _)).1.2.2.2.1, (keepS _ _ (grefl _ _)).1.2.2.2.2⟩ (fun hHeld => ?_)
          clear hK K
          refine norm_ (a' := ?_) ?_ ?_
          rotate_left
          · show Act.put _ (some 74) _ = _
            simp only [Act.put, List.setIfInBounds_toArray, List.set_cons_zero, List.set_cons_succ, i64_w, i32_w]
            rfl
          refine one_ (i := 31) (N := some 75) #[true, true, true, true, true, true, true, true, true, true, true, true, true, true, true, true, true, true, true, true, true, true, true, true, true, true, true, true, true, true, true, true, false, false] rfl rfl (by kernel_rfl) (by decide) (fun K hK => ?_)
          refine step_append_lies _ rfl _ _ 47 rfl w5.heap.size 52 i0 (.agg #[.int .u8 0, .int .u8 0, .int .i64 0]) 3 16 Try.underlying47 hi hz0 hz1 hz2 rfl (by decide) v1 k _ rfl (World.ownsRow.alloc (World.ownsRow.drew hrow) _) ⟨wr.heap.size, 0, none⟩ 1 1 (encEdge ⟨x.f0, x.f1, x.f2⟩) rfl rfl (encEdge_new ⟨x.f0, x.f1, x.f2⟩ wr.drew) (encEdge_one _) (by decide) hb1 hb2 (by simp; omega) _ rfl ?_
          intro g cap w1 hown1 hgrow hat hlt1
          have hfz := (keepS _ _ hgrow).2
          have hfc := (keepS _ _ hgrow).1.1
          refine hK.out _ _ ⟨(keepS _ _ hgrow).1.1, (keepS _ _ hgrow).1.2.1, (keepS _ _ hgrow).1.2.2.1, (keepS _ _ hgrow).1.2.2.2.1, (keepS _ _ hgrow).1.2.2.2.2⟩ (fun hHeld => ?_)
          clear hK K
          refine norm_ (a' := ?_) ?_ ?_
          rotate_left
          · show Act.put _ (some 75) _ = _
            simp only [Act.put, List.setIfInBounds_toArray, List.set_cons_zero, List.set_cons_succ, i64_w, i32_w]
            rfl
          refine pure_ (i := 32) (N := some 76) (v := ?_) (a' := ?_) #[true, true, true, true, true, true, true, true, true, true, true, true, true, true, true, true, true, true, true, true, true, true, true, true, true, true, true, true, true, true, true, true, true, false] rfl rfl (by kernel_rfl) (fun _ _ _ h => h) (Or.inl ⟨by rfl, ?_⟩) ?_ ?_
          rotate_left
          · intro w'
            go_simp
            with_reducible rfl
          rotate_left
          · simp only [Act.put, List.setIfInBounds_toArray, List.set_cons_zero, List.set_cons_succ, i64_w, i32_w]
            rfl
          refine last_ (i := 33) (N := none) #[true, true, true, true, true, true, true, true, true, true, true, true, true, true, true, true, true, true, true, true, true, true, true, true, true, true, true, true, true, true, true, true, true, true] rfl rfl (by kernel_rfl) (by decide) (fun K hK => ?_)
          refine skip_ (w1 := ?_) (by rfl) rfl ?_ ?_
          rotate_left
          · go_simp
            rfl
          refine hK.out _ _ ?_
          clear hK K
          refine done_ (by kernel_rfl) ?_
          go_wp2_with fail
          all_goals
            have hgw := (grown_of_below (below_drew1 (RowKit.Below.refl wr.heap.size wr)) v1.ownBlock).trans ((World.grownBy_alloc wr.drew _ v1.ownBlock).trans hgrow)
            have hB1 := hb.kept hgw hnB
            have hB2 := hB1.set 1 (.slice (some ⟨g, 0, none⟩) (k + 1) cap)
            have hrow2 := hown1.kept (grown_set w1 ⟨Bn, 1, none⟩ (.slice (some ⟨g, 0, none⟩) (k + 1) cap)) (.inr (hB1.not_row (by decide) hown1).symm)
            have hgs := (HGq.out.andThen hgw (fun j hj => .inl (own_base hrow j hj))).trans (grown_set w1 ⟨Bn, 1, none⟩ (.slice (some ⟨g, 0, none⟩) (k + 1) cap))
            exact ⟨⟨k + 1, _, by omega, by go_num, hB2, by rw [HTS.out, List.map_append, List.flatMap_append]; simpa [toEdge] using hrow2, ⟨hgs⟩⟩, by simp [intOf]; omega⟩
        · obtain rfl : k = y1.length := by omega
          have b0 := hb.cell 0
          have b2 := hb.cell 2
          have b3 := hb.cell 3
          have b4 := hb.cell 4
          simp only [List.getElem?_toArray, List.getElem?_cons_zero, List.getElem?_cons_succ] at b0 b2 b3 b4
          rw [List.take_length] at hrow
          obtain ⟨i1, hi1', hy0, hy1, hy2⟩ := info_parts infoNode
          have hownR := hown.kept HGall.out (by cases u3.ownBlock <;> simp)
          have hone : v1.oneCell' = true := by rcases hrow.2 with ⟨rfl, _⟩ | ⟨g, cap, cur, rfl, _⟩ <;> rfl
          have hones : ∀ u ∈ [Value.int .i64 y0, v1, .slice A2 y2.length c2, .int .i64 y3, .int .i64 y4], u.oneCell' = true := by
            intro u hu
            simp only [List.mem_cons, List.not_mem_nil, or_false] at hu
            rcases hu with rfl | rfl | rfl | rfl | rfl
            · rfl
            · exact hone
            · rfl
            · rfl
            · rfl
          have hnews := World.news_of_block (cs := #[.int .i64 y0, v1, .slice A2 y2.length c2, .int .i64 y3, .int .i64 y4]) (t := 49) (fr := (0, 0)) (World.alloc_heap_new wr _)
          have hb3 : i + 1 ≤ maxLen := by unfold maxLen; omega
          have hb4 : (i + 1) * 72 ≤ 140737488355328 := by omega
          have hwq := HGall.out.size
          go_wp2_with (at_builtin; refine wpList_append_own _ rfl _ _ 28 rfl w.heap.size 49 i1 (.agg #[.int .i64 0, .slice none 0 0, .slice none 0 0, .int .i64 0, .int .i64 0]) 5 72 Try.underlying28 hi1' hy0 hy1 hy2 rfl (by decide) _ _ _ rfl (hownR.alloc _) ⟨wr.heap.size, 0, none⟩ 1 1 [.int .i64 y0, v1, .slice A2 y2.length c2, .int .i64 y3, .int .i64 y4] rfl rfl hnews hones hb3 hb4 (by simp; omega) ?_; intro v' w2 hown2 hgrow2 _)
          have hgT := (grown_but HGall.out u3.ownBlock).trans ((World.grownBy_alloc wr (.cells #[.int .i64 y0, v1, .slice A2 y2.length c2, .int .i64 y3, .int .i64 y4] 49) u3.ownBlock).trans hgrow2)
          have hgU := (World.grownBy_alloc wr (.cells #[.int .i64 y0, v1, .slice A2 y2.length c2, .int .i64 y3, .int .i64 y4] 49) u3.ownBlock).trans hgrow2
          have htyp : ∀ b, u3.ownBlock = some b → ∃ cells, wr.heap[b]? = some (.cells cells 49 (0, 0)) := fun b hb => own_typed hownR b hb
          have HN2 : ∀ (j : Nat) x' c', (madeL l)[j]? = some x' → (css ++ [[Value.int .i64 y0, v1, .slice A2 y2.length c2, .int .i64 y3, .int .i64 y4]])[j]? = some c' → NodeIn w w2 x' c' := by
            intro j x' c' hx' hc'
            by_cases hj : j < css.length
            · rw [List.getElem?_append_left hj] at hc'
              exact ((HN.out j x' c' hx' hc').kept HGall.out (fun b hb => by cases hb)).kept hgU htyp
            · obtain rfl : j = css.length := by
                have := (List.getElem?_eq_some_iff.1 hc').1
                simp at this; omega
              rw [hcl, HNODE.out] at hx'
              simp at hc' hx'
              subst hc' hx'
              have hr1 := own_less hrow (show w.heap.size ≤ w5.heap.size by omega)
              have hr2 : w2.ownsRow w.heap.size 52 3 v1 y1.length ((y1.map toEdge).flatMap encEdge) := hr1.kept hgU (by
                cases hu : u3.ownBlock with
                | none => cases v1.ownBlock <;> simp
                | some b =>
                  obtain ⟨cells, hb⟩ := htyp b hu
                  exact .inr (Blk.not_row (W := wr) (t := 49) (cs := cells) hb (by decide) hr1).symm)
              have hv : ∃ A1' c1', v1 = .slice A1' y1.length c1' ∧ y1.length ≤ c1' := by
                rcases hrow.2 with ⟨rfl, hn⟩ | ⟨g, cap, cur, rfl, _, _, hcap, _⟩
                · exact ⟨none, 0, by rw [hn], by omega⟩
                · exact ⟨_, _, rfl, hcap⟩
              obtain ⟨A1', c1', rfl, hcap⟩ := hv
              refine ⟨A1', c1', A2, c2, ?_, ?_, hl2, ?_, HG2.out⟩
              · simp [toNode]
              · simpa [toNode] using hcap
              · simpa [toNode] using hr2
          exact ⟨⟨i + 1, css ++ [[.int .i64 y0, v1, .slice A2 y2.length c2, .int .i64 y3, .int .i64 y4]], by omega, by go_num, by simp [hcl], by rw [List.flatten_append]; simpa using hown2, ⟨HN2⟩, ⟨(HB.out.grown hgT HB.out.size (own_base hown))⟩⟩, by simp [intOf]; omega⟩
    · obtain rfl : i = l.length := by omega
      go_wp2_with fail
      go_ret
      exact ⟨_, css, rfl, hcl, hown, HN.out, HB.out⟩

theorem made20_calls (l : List S35) (A : Option Addr) (c : Nat) (w : World) (hC : Kd.C k35 w A l.length l) (hl : l.length ≤ 1000000) (hle : ∀ x ∈ l, x.f1.length ≤ 1000000) :
    Calls Try.prog 24 #[.slice A l.length c] w fun e w' => ∃ A' c', e = .returned (.slice A' l.length c') ∧ kNode.C w' A' l.length (madeL l) ∧ RowKit.Below w.heap.size w w' := by
  refine (made20_own l A c w hC hl hle).mono ?_
  rintro e w' ⟨v, css, rfl, hcl, hown, hN, hB⟩
  have hml : (madeL l).length = l.length := by simp [madeL]
  obtain ⟨A', c', rfl, _, hC'⟩ := C_of_own kNode (w := w') (xs := madeL l) (css := css) (by rw [hml]; exact hown) (by rw [hml]; exact hcl) (fun j x c hx hc => (hN j x c hx hc).K hB)
  rw [hml] at hC'
  exact ⟨A', c', by rw [hml], hC', hB⟩

end Go.Proofs.Ytcbflajacioinaa

/- The law's own (layer 20): the small machines of awake. -/
set_option linter.unusedSimpArgs false
set_option linter.unusedVariables false
namespace Go.Proofs.Ytcbflajacioinaa
open Go.RowKit Go.Shelf Go.Proofs.YtcbflajacioinaaW.PrintWords Go.Proofs.YtcbflajacioinaaW.PrintLast Go.Proofs.Ytcbflajacioinaa.P

/-- A block reads as elements, where its cells do. -/
theorem C_blk {α : Type} (k : Kd α) {W : World} {g : Nat} {t : TypeId} {xs : List α} {css : List (List Value)} {cs : Array Value} (hb : Blk W g t cs) (hcs : cs = css.flatten.toArray) (hlen : css.length = xs.length) (hn : xs.length ≤ 9223372036854775807)
    (hK : ∀ (j : Nat) x c, xs[j]? = some x → css[j]? = some c → k.K W x c) : k.C W (some ⟨g, 0, none⟩) xs.length xs := by
  subst hcs
  refine ⟨rfl, hn, fun _ => ⟨_, rfl, fun j p hj => ?_⟩⟩
  have hjl : j < xs.length := (List.getElem?_eq_some_iff.1 hj).1
  have hcs : css[j]? = some css[j] := List.getElem?_eq_getElem (by omega)
  have hk := hK j p _ hj hcs
  have hall : ∀ c ∈ css, c.length = k.sz := fun c hc => by
    obtain ⟨i, hi, rfl⟩ := List.mem_iff_getElem.1 hc
    exact k.K_len (hK i _ _ (List.getElem?_eq_getElem (by omega)) (List.getElem?_eq_getElem hi))
  refine ⟨_, k.K_len hk, hk, fun i u hu => ?_⟩
  have hi : i < k.sz := by have := (List.getElem?_eq_some_iff.1 hu).1; rwa [k.K_len hk] at this
  rw [add_plain]
  have h1 := hb.cell (j * k.sz + i)
  rw [List.getElem?_toArray] at h1
  refine h1.trans ?_
  exact (flatten_get css hall j i (by omega) hi).trans hu
theorem ints_blk {W : World} {g : Nat} {t : TypeId} {cs : Array Value} (l : List Int) (hb : Blk W g t cs) (hcs : cs = (l.map (Value.int .i64)).toArray) (hn : l.length ≤ 9223372036854775807) : (Kd.int .i64).C W (some ⟨g, 0, none⟩) l.length l :=
  C_blk (Kd.int .i64) (css := l.map (fun x => [Value.int .i64 x])) hb (by
    rw [hcs]; congr 1
    clear hcs hb hn
    induction l with
    | nil => rfl
    | cons a l ih => simp [ih]) (by simp) hn (fun j x c hx hc => by
    rw [List.getElem?_map, hx] at hc
    obtain rfl : [Value.int .i64 x] = c := by simpa using hc
    rfl)

theorem C_conv {α β : Type} (d : Kd α) (d' : Kd β) (f : α → β) (hs : d.sz = d'.sz) {w : World} {A : Option Addr} {n : Nat} {xs : List α} (hK : ∀ x cs, d.K w x cs → d'.K w (f x) cs) (h : d.C w A n xs) : d'.C w A n (xs.map f) := by
  obtain ⟨h1, h2, h3⟩ := h
  refine ⟨by rw [List.length_map]; exact h1, h2, fun h0 => ?_⟩
  obtain ⟨ad, hA, hh⟩ := h3 h0
  refine ⟨ad, hA, fun j p hj => ?_⟩
  rw [List.getElem?_map] at hj
  obtain ⟨x, hx, rfl⟩ := Option.map_eq_some_iff.1 hj
  obtain ⟨cs, c1, c2, c3⟩ := hh j x hx
  exact ⟨cs, by rw [← hs]; exact c1, hK x cs c2, fun i u hu => by have := c3 i u hu; rwa [hs] at this⟩
def e52 (x : S52) : Edge := ⟨x.f0, x.f1, x.f2⟩
theorem C_e52 {w : World} {A : Option Addr} {n : Nat} {xs : List S52} (h : k52.C w A n xs) : kEdge.C w A n (xs.map e52) :=
  C_conv k52 kEdge e52 rfl (fun x cs hx => by
    obtain rfl := k52_open hx
    exact kEdge_mk w (e52 x)) h
def n49 (x : S49) : Node := ⟨x.f0, x.f1.map e52, x.f2, x.f3, x.f4⟩
theorem C_n49 {w : World} {A : Option Addr} {n : Nat} {xs : List S49} (h : k49.C w A n xs) : kNode.C w A n (xs.map n49) :=
  C_conv k49 kNode n49 rfl (fun x cs hx => by
    obtain ⟨A1, c1, A2, c2, rfl, l1, g1, l2, g2⟩ := k49_open hx
    have h1 := C_e52 g1
    have := kNode_mk w (n49 x) (A1 := A1) (c1 := c1) (by unfold n49; dsimp only; rw [List.length_map]; exact l1) (by unfold n49; dsimp only; rw [List.length_map]; exact h1) (A2 := A2) (c2 := c2) l2 g2
    unfold n49 at this
    dsimp only at this
    rw [List.length_map] at this
    exact this) h

def eatN (c t : Int) : Node := ⟨1, [⟨c, c, t⟩], [], 0, 0⟩
def endN : Node := ⟨4, [], [], 0, 0⟩
theorem eatN_K {W : World} (c t : Int) {A : Option Addr} {k : Nat} {A' : Option Addr} {k' : Nat} (hk : 1 ≤ k) (hC : kEdge.C W A 1 [⟨c, c, t⟩]) : kNode.K W (eatN c t) [.int .i64 1, .slice A 1 k, .slice A' 0 k', .int .i64 0, .int .i64 0] :=
  kNode_mk W (eatN c t) (A1 := A) (c1 := k) hk hC (A2 := A') (c2 := k') (Nat.zero_le _) (C_nil _ _ _)
theorem endN_K (W : World) : kNode.K W endN [.int .i64 4, .slice none 0 0, .slice none 0 0, .int .i64 0, .int .i64 0] :=
  kNode_mk W endN (A1 := none) (c1 := 0) (Nat.le_refl _) (C_nil _ _ _) (A2 := none) (c2 := 0) (Nat.le_refl _) (C_nil _ _ _)
theorem forkN_K {W : World} (l : List Int) {A : Option Addr} {k : Nat} (hk : l.length ≤ k) (hC : (Kd.int .i64).C W A l.length l) : kNode.K W ⟨2, [], l, 0, 0⟩ [.int .i64 2, .slice none 0 0, .slice A l.length k, .int .i64 0, .int .i64 0] :=
  kNode_mk W ⟨2, [], l, 0, 0⟩ (A1 := none) (c1 := 0) (Nat.le_refl _) (C_nil _ _ _) (A2 := A) (c2 := k) hk hC
theorem eatN_ok (c t : Int) (h : 0 ≤ c ∧ c ≤ 255) (h2 : -9223372036854775808 ≤ t ∧ t ≤ 9223372036854775807) : NodeOk (eatN c t) := by
  refine ⟨fun e he => ?_, by simp [eatN], by simp [eatN]⟩
  obtain rfl : e = ⟨c, c, t⟩ := by simpa [eatN] using he
  unfold EdgeOk
  dsimp only
  omega
theorem endN_ok : NodeOk endN := ⟨fun e he => (by cases he), by decide, by decide⟩

theorem eater_calls (t : Int) (w : World) :
    Calls Try.prog 34 #[.int .i64 t] w fun e w' => ∃ A c A' c', e = .returned (.agg #[.int .i64 1, .slice A 1 c, .slice A' 0 c', .int .i64 0, .int .i64 0]) ∧ 1 ≤ c ∧ kEdge.C w' A 1 [⟨97, 97, t⟩] ∧ RowKit.Below w.heap.size w w' := by
  refine (phalaropelaw20_eater.calls t 1 [⟨97, 97, t⟩] [] 0 0 w rfl).mono ?_
  rintro e w' ⟨v1, v2, rfl, h1, h2, hb⟩
  obtain ⟨A, c, rfl, hc, hC⟩ := Kd.R_reads h1
  obtain ⟨A', c', rfl, _, _⟩ := Kd.R_reads h2
  exact ⟨A, c, A', c', rfl, hc, C_e52 hC, hb⟩

def mA1 : List Node := [⟨2, [], [1, 2], 0, 0⟩, eatN 97 3, eatN 97 3, endN]
def mA2 : List Node := [eatN 97 1, endN]
theorem mA1_twin : twinP mA1 1000 = ([97], true, 0) := by kernel_rfl
theorem mA2_twin : twinP mA2 1000 = ([], false, 0) := by kernel_rfl
theorem mA1_short : shortP mA1 = ([97], true) := by kernel_rfl
theorem mA1_ok : ∀ x ∈ mA1, NodeOk x := by
  intro x hx
  simp only [mA1, List.mem_cons, List.not_mem_nil, or_false] at hx
  rcases hx with rfl | rfl | rfl | rfl
  · exact ⟨fun e he => (by cases he), by decide, by decide⟩
  · exact eatN_ok _ _ (by omega) (by omega)
  · exact eatN_ok _ _ (by omega) (by omega)
  · exact endN_ok
theorem mA2_ok : ∀ x ∈ mA2, NodeOk x := by
  intro x hx
  simp only [mA2, List.mem_cons, List.not_mem_nil, or_false] at hx
  rcases hx with rfl | rfl
  · exact eatN_ok _ _ (by omega) (by omega)
  · exact endN_ok

def mA3 : List Node := [⟨2, [], [1, 1], 0, 0⟩, endN]
theorem mA3_twin : twinP mA3 1000 = ([], true, 0) := by kernel_rfl
theorem mA3_ok : ∀ x ∈ mA3, NodeOk x := by
  intro x hx
  simp only [mA3, List.mem_cons, List.not_mem_nil, or_false] at hx
  rcases hx with rfl | rfl
  · exact ⟨fun e he => (by cases he), by decide, by decide⟩
  · exact endN_ok
theorem mA3_C {W : World} {g h : Nat} (hb : Blk W g 49 #[.int .i64 2, .slice none 0 0, .slice (some ⟨h, 0, none⟩) 2 2, .int .i64 0, .int .i64 0, .int .i64 4, .slice none 0 0, .slice none 0 0, .int .i64 0, .int .i64 0]) (hi : Blk W h 3 #[.int .i64 1, .int .i64 1]) : kNode.C W (some ⟨g, 0, none⟩) 2 mA3 :=
  C_blk kNode (xs := mA3) (css := [[.int .i64 2, .slice none 0 0, .slice (some ⟨h, 0, none⟩) 2 2, .int .i64 0, .int .i64 0], [.int .i64 4, .slice none 0 0, .slice none 0 0, .int .i64 0, .int .i64 0]]) hb rfl rfl (by decide) (fun j x c hx hc => by
    match j, hx, hc with
    | 0, hx, hc => obtain rfl := Option.some.inj hx; obtain rfl := Option.some.inj hc; exact forkN_K [1, 1] (Nat.le_refl _) (ints_blk [1, 1] hi rfl (by decide))
    | 1, hx, hc => obtain rfl := Option.some.inj hx; obtain rfl := Option.some.inj hc; exact endN_K W)
theorem mA2_C {W : World} {g : Nat} {A A' : Option Addr} {c c' : Nat} (hb : Blk W g 49 #[.int .i64 1, .slice A 1 c, .slice A' 0 c', .int .i64 0, .int .i64 0, .int .i64 4, .slice none 0 0, .slice none 0 0, .int .i64 0, .int .i64 0]) (hc : 1 ≤ c) (hC : kEdge.C W A 1 [⟨97, 97, 1⟩]) : kNode.C W (some ⟨g, 0, none⟩) 2 mA2 :=
  C_blk kNode (xs := mA2) (css := [[.int .i64 1, .slice A 1 c, .slice A' 0 c', .int .i64 0, .int .i64 0], [.int .i64 4, .slice none 0 0, .slice none 0 0, .int .i64 0, .int .i64 0]]) hb rfl rfl (by decide) (fun j x cs hx hcs => by
    match j, hx, hcs with
    | 0, hx, hcs => obtain rfl := Option.some.inj hx; obtain rfl := Option.some.inj hcs; exact eatN_K 97 1 hc hC
    | 1, hx, hcs => obtain rfl := Option.some.inj hx; obtain rfl := Option.some.inj hcs; exact endN_K W)
theorem mA1_C {W : World} {g h : Nat} {A A' B B' : Option Addr} {c c' d d' : Nat} (hb : Blk W g 49 #[.int .i64 2, .slice none 0 0, .slice (some ⟨h, 0, none⟩) 2 2, .int .i64 0, .int .i64 0, .int .i64 1, .slice A 1 c, .slice A' 0 c', .int .i64 0, .int .i64 0, .int .i64 1, .slice B 1 d, .slice B' 0 d', .int .i64 0, .int .i64 0, .int .i64 4, .slice none 0 0, .slice none 0 0, .int .i64 0, .int .i64 0])
    (hi : Blk W h 3 #[.int .i64 1, .int .i64 2]) (hc : 1 ≤ c) (hC : kEdge.C W A 1 [⟨97, 97, 3⟩]) (hd : 1 ≤ d) (hD : kEdge.C W B 1 [⟨97, 97, 3⟩]) : kNode.C W (some ⟨g, 0, none⟩) 4 mA1 :=
  C_blk kNode (xs := mA1) (css := [[.int .i64 2, .slice none 0 0, .slice (some ⟨h, 0, none⟩) 2 2, .int .i64 0, .int .i64 0], [.int .i64 1, .slice A 1 c, .slice A' 0 c', .int .i64 0, .int .i64 0], [.int .i64 1, .slice B 1 d, .slice B' 0 d', .int .i64 0, .int .i64 0], [.int .i64 4, .slice none 0 0, .slice none 0 0, .int .i64 0, .int .i64 0]]) hb rfl rfl (by decide) (fun j x cs hx hcs => by
    match j, hx, hcs with
    | 0, hx, hcs => obtain rfl := Option.some.inj hx; obtain rfl := Option.some.inj hcs; exact forkN_K [1, 2] (Nat.le_refl _) (ints_blk [1, 2] hi rfl (by decide))
    | 1, hx, hcs => obtain rfl := Option.some.inj hx; obtain rfl := Option.some.inj hcs; exact eatN_K 97 3 hc hC
    | 2, hx, hcs => obtain rfl := Option.some.inj hx; obtain rfl := Option.some.inj hcs; exact eatN_K 97 3 hd hD
    | 3, hx, hcs => obtain rfl := Option.some.inj hx; obtain rfl := Option.some.inj hcs; exact endN_K W)

set_option maxRecDepth 100000 in
set_option maxHeartbeats 1000000 in
theorem awake20_calls (w : World) :
    Calls Try.prog 20 #[] w fun e w' => e = .returned (.bool true) ∧ RowKit.Below w.heap.size w w' := by
  have t1 := fun (W : World) (A : Option Addr) (c : Nat) (h : kNode.C W A 4 mA1) => twin_calls mA1 A c mA1_ok (by decide) (by decide) 1000 W h
  have t2 := fun (W : World) (A : Option Addr) (c : Nat) (h : kNode.C W A 2 mA2) => twin_calls mA2 A c mA2_ok (by decide) (by decide) 1000 W h
  have t3 := fun (W : World) (A : Option Addr) (c : Nat) (h : kNode.C W A 4 mA1) => short_calls mA1 A c mA1_ok (by decide) (by decide) W h
  have t4 := fun (W : World) (A : Option Addr) (c : Nat) (h : kNode.C W A 4 mA1) => empty_calls mA1 A c mA1_ok (by decide) (by decide) W h
  rw [mA1_twin] at t1
  rw [mA2_twin] at t2
  rw [mA1_short] at t3 t4
  rw [show mA1.length = 4 from rfl] at t1 t3 t4
  rw [show mA2.length = 2 from rfl] at t2
  have T1 := Aside0.mk t1
  have T2 := Aside0.mk t2
  have T3 := Aside0.mk t3
  have T4 := Aside0.mk t4
  have hA : strOfNums [97] = ⟨#[97]⟩ := by kernel_rfl
  have h0 : strOfNums [] = ⟨#[]⟩ := by kernel_rfl
  clear t1 t2 t3 t4
  have bI := Blk.new w 3 #[.int .i64 1, .int .i64 2]
  have hb0 := below_alloc (RowKit.Below.refl w.heap.size w) (.cells #[.int .i64 1, .int .i64 2] 3)
  have hlt : w.heap.size < (w.alloc (.cells #[.int .i64 1, .int .i64 2] 3)).heap.size := by simp
  have HI := Aside0.mk bI
  have HB0 := Aside0.mk hb0
  clear bI hb0
  go_enter Try.func20, Try.ntmps20
  go_wp2_with fail
  generalize w.alloc (.cells #[.int .i64 1, .int .i64 2] 3) = W0 at *
  refine (eater_calls 3 _).mono ?_
  rintro e w1 ⟨A1, c1, A1', c1', rfl, hc1, hE1, hb1⟩
  have HE1 := Aside0.mk hE1
  have HB1 := Aside0.mk hb1
  clear hE1 hb1
  go_wp2_with fail
  refine (eater_calls 3 _).mono ?_
  rintro e w2 ⟨A2, c2, A2', c2', rfl, hc2, hE2, hb2⟩
  have HE2 := Aside0.mk hE2
  have HB2 := Aside0.mk hb2
  clear hE2 hb2
  go_wp2_with fail
  have hb3 := below_alloc (RowKit.Below.refl w2.heap.size w2) (.cells #[.int .i64 2, .slice none 0 0, .slice (some ⟨w.heap.size, 0, none⟩) 2 2, .int .i64 0, .int .i64 0, .int .i64 1, .slice A1 1 c1, .slice A1' 0 c1', .int .i64 0, .int .i64 0, .int .i64 1, .slice A2 1 c2, .slice A2' 0 c2', .int .i64 0, .int .i64 0, .int .i64 4, .slice none 0 0, .slice none 0 0, .int .i64 0, .int .i64 0] 49)
  have bN := Blk.new w2 49 #[.int .i64 2, .slice none 0 0, .slice (some ⟨w.heap.size, 0, none⟩) 2 2, .int .i64 0, .int .i64 0, .int .i64 1, .slice A1 1 c1, .slice A1' 0 c1', .int .i64 0, .int .i64 0, .int .i64 1, .slice A2 1 c2, .slice A2' 0 c2', .int .i64 0, .int .i64 0, .int .i64 4, .slice none 0 0, .slice none 0 0, .int .i64 0, .int .i64 0]
  have hI3 : Blk w2 w.heap.size 3 #[.int .i64 1, .int .i64 2] := (HB2.out.block _ (Nat.lt_of_lt_of_le hlt HB1.out.size)).trans ((HB1.out.block _ hlt).trans HI.out)
  have hI4 : Blk _ w.heap.size 3 #[.int .i64 1, .int .i64 2] := (hb3.block _ (Nat.lt_of_lt_of_le hlt (Nat.le_trans HB1.out.size HB2.out.size))).trans hI3
  have hC3 := mA1_C bN hI4 hc1 (Kd.C_below (Kd.C_below HE1.out HB2.out) hb3) hc2 (Kd.C_below HE2.out hb3)
  have HBB : Aside0 (RowKit.Below w.heap.size w (w2.alloc (.cells #[.int .i64 2, .slice none 0 0, .slice (some ⟨w.heap.size, 0, none⟩) 2 2, .int .i64 0, .int .i64 0, .int .i64 1, .slice A1 1 c1, .slice A1' 0 c1', .int .i64 0, .int .i64 0, .int .i64 1, .slice A2 1 c2, .slice A2' 0 c2', .int .i64 0, .int .i64 0, .int .i64 4, .slice none 0 0, .slice none 0 0, .int .i64 0, .int .i64 0] 49))) := ⟨((HB0.out.trans (HB1.out.mono HB0.out.size)).trans (HB2.out.mono (HB0.out.trans (HB1.out.mono HB0.out.size)).size)).trans (hb3.mono ((HB0.out.trans (HB1.out.mono HB0.out.size)).trans (HB2.out.mono (HB0.out.trans (HB1.out.mono HB0.out.size)).size)).size)⟩
  have HC3 := Aside0.mk hC3
  clear bN hb3 hI3 hI4 hC3 HE1 HE2 HB1 HB2 HB0 HI hlt
  generalize w2.alloc (.cells #[.int .i64 2, .slice none 0 0, .slice (some ⟨w.heap.size, 0, none⟩) 2 2, .int .i64 0, .int .i64 0, .int .i64 1, .slice A1 1 c1, .slice A1' 0 c1', .int .i64 0, .int .i64 0, .int .i64 1, .slice A2 1 c2, .slice A2' 0 c2', .int .i64 0, .int .i64 0, .int .i64 4, .slice none 0 0, .slice none 0 0, .int .i64 0, .int .i64 0] 49) = W3 at *
  refine (T1.out W3 _ _ HC3.out).mono ?_
  rintro e w4 ⟨rfl, hb4⟩
  have HC4 := Aside0.mk (Kd.C_below HC3.out hb4)
  have HB4 := Aside0.mk (HBB.out.trans (hb4.mono HBB.out.size))
  clear hb4 HBB HC3
  go_wp2_with fail
  refine (eater_calls 1 _).mono ?_
  rintro e w5 ⟨A5, c5, A5', c5', rfl, hc5, hE5, hb5⟩
  have HE5 := Aside0.mk hE5
  have HC5 := Aside0.mk (Kd.C_below HC4.out hb5)
  have HB5 := Aside0.mk (HB4.out.trans (hb5.mono HB4.out.size))
  clear hE5 hb5 HC4 HB4
  go_wp2_with fail
  have hb6 := below_alloc (RowKit.Below.refl w5.heap.size w5) (.cells #[.int .i64 1, .slice A5 1 c5, .slice A5' 0 c5', .int .i64 0, .int .i64 0, .int .i64 4, .slice none 0 0, .slice none 0 0, .int .i64 0, .int .i64 0] 49)
  have bN := Blk.new w5 49 #[.int .i64 1, .slice A5 1 c5, .slice A5' 0 c5', .int .i64 0, .int .i64 0, .int .i64 4, .slice none 0 0, .slice none 0 0, .int .i64 0, .int .i64 0]
  have hC6 := mA2_C bN hc5 (Kd.C_below HE5.out hb6)
  have HC6 := Aside0.mk hC6
  have HC6' := Aside0.mk (Kd.C_below HC5.out hb6)
  have HB6 := Aside0.mk (HB5.out.trans (hb6.mono HB5.out.size))
  clear bN hb6 hC6 HE5 HC5 HB5
  generalize w5.alloc (.cells #[.int .i64 1, .slice A5 1 c5, .slice A5' 0 c5', .int .i64 0, .int .i64 0, .int .i64 4, .slice none 0 0, .slice none 0 0, .int .i64 0, .int .i64 0] 49) = W6 at *
  refine (T2.out W6 _ _ HC6.out).mono ?_
  rintro e w7 ⟨rfl, hb7⟩
  have HC7 := Aside0.mk (Kd.C_below HC6'.out hb7)
  have HB7 := Aside0.mk (HB6.out.trans (hb7.mono HB6.out.size))
  clear hb7 HC6 HC6' HB6
  go_wp2_with fail
  refine (T3.out w7 _ _ HC7.out).mono ?_
  rintro e w8 ⟨rfl, hb8⟩
  have HC8 := Aside0.mk (Kd.C_below HC7.out hb8)
  have HB8 := Aside0.mk (HB7.out.trans (hb8.mono HB7.out.size))
  clear hb8 HC7 HB7
  rw [hA]
  go_wp2_with fail
  refine (T4.out w8 _ _ HC8.out).mono ?_
  rintro e w9 ⟨rfl, hb9⟩
  have HB9 := Aside0.mk (HB8.out.trans (hb9.mono HB8.out.size))
  clear hb9 HC8 HB8
  go_wp2_with fail
  go_ret
  exact ⟨rfl, HB9.out⟩

end Go.Proofs.Ytcbflajacioinaa

/- twin: level by level, the search finds a nearest end; two ways of one text lead to one. Plain Lean. -/
set_option linter.unusedVariables false
namespace Go.Proofs.Ytcbflajacioinaa
open Go.RowKit Go.Shelf Go.Proofs.YtcbflajacioinaaW.PrintWords Go.Proofs.YtcbflajacioinaaW.PrintLast

/-- A pair is reached by so many bytes. -/
def Rch (m : List Node) (p : Pr) (n : Nat) : Prop := ∀ J : Pr → Nat → Prop, J ⟨0, 0, false⟩ 0 → (∀ p n q, J p n → q ∈ sprL m p → J (normP q) n) → (∀ p n q, J p n → q ∈ eatL m p → J (normP q.1) (n + 1)) → J p n
theorem Rch.zero (m : List Node) : Rch m ⟨0, 0, false⟩ 0 := fun J h _ _ => h
theorem Rch.spr {m : List Node} {p q : Pr} {n : Nat} (h : Rch m p n) (hq : q ∈ sprL m p) : Rch m (normP q) n := fun J h0 h1 h2 => h1 _ _ _ (h J h0 h1 h2) hq
theorem Rch.eat {m : List Node} {p : Pr} {q : Pr × Int} {n : Nat} (h : Rch m p n) (hq : q ∈ eatL m p) : Rch m (normP q.1) (n + 1) := fun J h0 h1 h2 => h2 _ _ _ (h J h0 h1 h2) hq
theorem Rch.ind {m : List Node} {J : Pr → Nat → Prop} (h0 : J ⟨0, 0, false⟩ 0) (h1 : ∀ p n q, Rch m p n → J p n → q ∈ sprL m p → J (normP q) n) (h2 : ∀ p n q, Rch m p n → J p n → q ∈ eatL m p → J (normP q.1) (n + 1)) {p : Pr} {n : Nat} (h : Rch m p n) : J p n :=
  (h (fun p n => Rch m p n ∧ J p n) ⟨Rch.zero m, h0⟩ (fun p n q hp hq => ⟨hp.1.spr hq, h1 p n q hp.1 hp.2 hq⟩) (fun p n q hp hq => ⟨hp.1.eat hq, h2 p n q hp.1 hp.2 hq⟩)).2

/-! #### the texts of what was reached -/
theorem src_of {m : List Node} {st : SrS} (h : SrOk m st) : ∀ (i : Nat) (x : Stp), st.all[i]? = some x → -1 ≤ x.src ∧ x.src < i := h.src
theorem backP_app {all k : List Stp} (h1 : ∀ (i : Nat) (x : Stp), all[i]? = some x → -1 ≤ x.src ∧ x.src < i) (h2 : ∀ (i : Nat) (x : Stp), (all ++ k)[i]? = some x → -1 ≤ x.src ∧ x.src < i) : ∀ (d : Nat) (a : Int), (a + 1).toNat ≤ d → a < all.length → backP (all ++ k) a = backP all a := by
  intro d
  induction d with
  | zero => intro a hd ha; rw [backP_neg (by omega), backP_neg (by omega)]
  | succ d ih =>
    intro a hd ha
    by_cases h0 : 0 ≤ a
    · have hx : all[a.toNat]? = some (stpAt all a) := by unfold stpAt; rw [List.getD_eq_getElem?_getD, List.getElem?_eq_getElem (by omega)]; rfl
      obtain ⟨s0, s1⟩ := h1 _ _ hx
      rw [backP_step h2 h0 (by rw [List.length_append]; omega), backP_step h1 h0 ha, stp_more h0 ha, ih _ (by omega) (by omega)]
    · rw [backP_neg (by omega), backP_neg (by omega)]

def InS (st : SrS) (p : Pr) : Prop := ∃ x ∈ st.all, x.p = p
def InNow (st : SrS) (p : Pr) : Prop := ∃ i ∈ st.now, (stpAt st.all i).p = p
/-- What one state of a search has of another, behind it: what is new is to be looked at, and has texts of one length. -/
structure Ext (m : List Node) (st st' : SrS) (T : Nat) : Prop where
  ok : SrOk m st'
  all : ∃ k, st'.all = st.all ++ k
  now : ∃ k, st'.now = st.now ++ k
  new : ∀ p, InS st' p → InS st p ∨ InNow st' p
  len : ∀ i ∈ st'.now, i ∈ st.now ∨ (backP st'.all i).length = T
theorem Ext.inS {m : List Node} {st st' : SrS} {T : Nat} (h : Ext m st st' T) {p : Pr} (hp : InS st p) : InS st' p := by
  obtain ⟨k, hk⟩ := h.all
  obtain ⟨x, hx, e⟩ := hp
  exact ⟨x, by rw [hk]; exact List.mem_append_left _ hx, e⟩
theorem Ext.stp {m : List Node} {st st' : SrS} {T : Nat} (h : Ext m st st' T) {i : Int} (h0 : 0 ≤ i) (h1 : i < st.all.length) : stpAt st'.all i = stpAt st.all i := by
  obtain ⟨k, hk⟩ := h.all
  rw [hk, stp_more h0 h1]
theorem Ext.size {m : List Node} {st st' : SrS} {T : Nat} (h : Ext m st st' T) : st.all.length ≤ st'.all.length := by
  obtain ⟨k, hk⟩ := h.all
  rw [hk, List.length_append]; omega
theorem Ext.inNow {m : List Node} {st st' : SrS} {T : Nat} (h : Ext m st st' T) (ho : SrOk m st) {p : Pr} (hp : InNow st p) : InNow st' p := by
  obtain ⟨k, hk⟩ := h.now
  obtain ⟨i, hi, e⟩ := hp
  have hb := ho.now i hi
  exact ⟨i, by rw [hk]; exact List.mem_append_left _ hi, by rw [h.stp hb.1 hb.2]; exact e⟩
theorem Ext.back {m : List Node} {st st' : SrS} {T : Nat} (h : Ext m st st' T) (ho : SrOk m st) {i : Int} (h1 : i < st.all.length) : backP st'.all i = backP st.all i := by
  have h2 := h.ok.src
  obtain ⟨k, hk⟩ := h.all
  rw [hk] at h2 ⊢
  exact backP_app ho.src h2 _ i (Nat.le_refl _) h1
theorem Ext.refl {m : List Node} {st : SrS} (T : Nat) (h : SrOk m st) : Ext m st st T := ⟨h, ⟨[], by simp⟩, ⟨[], by simp⟩, fun p hp => .inl hp, fun i hi => .inl hi⟩
theorem Ext.trans {m : List Node} {a b c : SrS} {T : Nat} (h : Ext m a b T) (h' : Ext m b c T) : Ext m a c T := by
  refine ⟨h'.ok, ?_, ?_, ?_, ?_⟩
  · obtain ⟨k, hk⟩ := h.all
    obtain ⟨k', hk'⟩ := h'.all
    exact ⟨k ++ k', by rw [hk', hk, List.append_assoc]⟩
  · obtain ⟨k, hk⟩ := h.now
    obtain ⟨k', hk'⟩ := h'.now
    exact ⟨k ++ k', by rw [hk', hk, List.append_assoc]⟩
  · intro p hp
    rcases h'.new p hp with hp | hp
    · rcases h.new p hp with hp | hp
      · exact .inl hp
      · exact .inr (h'.inNow h.ok hp)
    · exact .inr hp
  · intro i hi
    rcases h'.len i hi with hi | hi
    · rcases h.len i hi with h1 | h1
      · exact .inl h1
      · exact .inr (by rw [h'.back h.ok (h.ok.now i hi).2]; exact h1)
    · exact .inr hi

theorem reach_ext {m : List Node} {st : SrS} (h : SrOk m st) {q : Pr} (hq : PrAt m q) {src c : Int} (hs : 0 ≤ src ∧ src < st.all.length) (hc : 0 ≤ c ∧ c ≤ 255) (ate : Bool) :
    Ext m st (reachP st q src c ate) ((backP st.all src).length + (if ate = true then 1 else 0)) ∧ InS (reachP st q src c ate) (normP q) := by
  have hok := reach_ok h hq (src := src) (c := c) ⟨by omega, hs.2⟩ hc ate
  unfold reachP at hok ⊢
  by_cases hn : seenP st.all (normP q) = true
  · rw [if_pos hn]
    obtain ⟨x, hx, e⟩ := List.mem_map.1 (seen_iff.1 hn)
    exact ⟨Ext.refl _ h, x, hx, e⟩
  · rw [if_neg hn] at hok ⊢
    have hlast : stpAt (st.all ++ [⟨normP q, src, c, ate⟩]) (st.all.length : Int) = ⟨normP q, src, c, ate⟩ := by
      unfold stpAt; rw [Int.toNat_natCast]; simp
    refine ⟨⟨hok, ⟨_, rfl⟩, ⟨_, rfl⟩, ?_, ?_⟩, ⟨normP q, src, c, ate⟩, by simp, rfl⟩
    · rintro p ⟨x, hx, rfl⟩
      rcases List.mem_append.1 hx with hx | hx
      · exact .inl ⟨x, hx, rfl⟩
      · obtain rfl := List.mem_singleton.1 hx
        exact .inr ⟨st.all.length, by simp, by dsimp only; rw [hlast]⟩
    · intro i hi
      rcases List.mem_append.1 hi with hi | hi
      · exact .inl hi
      · obtain rfl := List.mem_singleton.1 hi
        refine .inr ?_
        dsimp only
        rw [backP_step hok.src (by omega) (by simp; omega), hlast]
        dsimp only
        rw [backP_app h.src hok.src _ src (Nat.le_refl _) hs.2, List.length_append]
        cases ate
        · simp
        · simp; omega
/-- Both ways of going on, as one. -/
def goG (st : SrS) (l : List (Pr × Int)) (src : Int) (ate : Bool) : SrS := l.foldl (fun s q => reachP s q.1 src q.2 ate) st
theorem goE_G (st : SrS) (l : List (Pr × Int)) (src : Int) : goE st l src = goG st l src true := rfl
theorem goL_G : ∀ (l : List Pr) (st : SrS) (src : Int), goL st l src = goG st (l.map (fun q => (q, 0))) src false
  | [], _, _ => rfl
  | q :: l, st, src => goL_G l (reachP st q src 0 false) src
theorem goG_ext {m : List Node} {src : Int} {ate : Bool} {T : Nat} : ∀ (l : List (Pr × Int)) {st : SrS} (h : SrOk m st) (hl : ∀ q ∈ l, PrAt m q.1 ∧ 0 ≤ q.2 ∧ q.2 ≤ 255) (hs : 0 ≤ src ∧ src < st.all.length) (hT : T = (backP st.all src).length + (if ate = true then 1 else 0)),
    Ext m st (goG st l src ate) T ∧ ∀ q ∈ l, InS (goG st l src ate) (normP q.1)
  | [], st, h, _, _, _ => ⟨Ext.refl _ h, fun q hq => by cases hq⟩
  | q :: l, st, h, hl, hs, hT => by
    have hq := hl q List.mem_cons_self
    obtain ⟨h1, h2⟩ := reach_ext h hq.1 hs hq.2 ate
    rw [← hT] at h1
    obtain ⟨h3, h4⟩ := goG_ext l (st := reachP st q.1 src q.2 ate) h1.ok (fun x hx => hl x (List.mem_cons_of_mem _ hx)) ⟨hs.1, Int.lt_of_lt_of_le hs.2 (Int.ofNat_le.2 h1.size)⟩ (hT.trans (by rw [h1.back h hs.2]))
    have e : goG st (q :: l) src ate = goG (reachP st q.1 src q.2 ate) l src ate := rfl
    rw [e]
    refine ⟨h1.trans h3, fun x hx => ?_⟩
    rcases List.mem_cons.1 hx with rfl | hx
    · exact h3.inS h2
    · exact h4 x hx

/-! #### a level -/
def Spr (m : List Node) (st : SrS) (p : Pr) : Prop := ∀ q ∈ sprL m p, InS st (normP q)
def Eat (m : List Node) (st : SrS) (p : Pr) : Prop := ∀ q ∈ eatL m p, InS st (normP q.1)
def Done (m : List Node) (two : Bool) (st : SrS) (p : Pr) : Prop := Spr m st p ∧ Eat m st p ∧ endB m two p = false
theorem Ext.spr {m : List Node} {st st' : SrS} {T : Nat} (h : Ext m st st' T) {p : Pr} (hp : Spr m st p) : Spr m st' p := fun q hq => h.inS (hp q hq)
theorem Ext.eat {m : List Node} {st st' : SrS} {T : Nat} (h : Ext m st st' T) {p : Pr} (hp : Eat m st p) : Eat m st' p := fun q hq => h.inS (hp q hq)
theorem Ext.done {m : List Node} {two : Bool} {st st' : SrS} {T : Nat} (h : Ext m st st' T) {p : Pr} (hp : Done m two st p) : Done m two st' p := ⟨h.spr hp.1, h.eat hp.2.1, hp.2.2⟩
/-- The L-th level, from its i-th step on. -/
structure Lv (m : List Node) (two : Bool) (L i : Nat) (st : SrS) : Prop where
  ok : SrOk m st
  i0 : InS st ⟨0, 0, false⟩
  i1 : ∀ p, InS st p → Done m two st p ∨ InNow st p
  i2 : ∀ p n, Rch m p n → n < L → InS st p ∧ Done m two st p
  i3 : ∀ j ∈ st.now, (backP st.all j).length = L
  i4 : ∀ j, j < i → j < st.now.length → Spr m st (stpAt st.all (st.now.getD j 0)).p ∧ endB m two (stpAt st.all (st.now.getD j 0)).p = false
theorem getD_app {α : Type} (l k : List α) (j : Nat) (d : α) (h : j < l.length) : (l ++ k).getD j d = l.getD j d := by
  rw [List.getD_eq_getElem?_getD, List.getD_eq_getElem?_getD, List.getElem?_append_left h]
theorem lv_step {m : List Node} {two : Bool} (hm : mayB m = true) {L i : Nat} {st : SrS} (h : Lv m two L i st) (hi : i < st.now.length) (he : ¬ endB m two (stpAt st.all (st.now.getD i 0)).p = true) :
    Lv m two L (i + 1) (goL st (sprL m (stpAt st.all (st.now.getD i 0)).p) (st.now.getD i 0)) ∧ i + 1 ≤ (goL st (sprL m (stpAt st.all (st.now.getD i 0)).p) (st.now.getD i 0)).now.length := by
  have hmem := getD_mem st.now i 0 hi
  have hat := h.ok.now _ hmem
  have hp := h.ok.inn _ (stp_mem hat.1 hat.2)
  have hT := h.i3 _ hmem
  have hgd : ∀ j, st.now.getD j 0 = st.now.getD j 0 := fun _ => rfl
  obtain ⟨h1, h2⟩ := goG_ext (ate := false) (T := L) ((sprL m (stpAt st.all (st.now.getD i 0)).p).map (fun q => (q, (0 : Int)))) h.ok (fun q hq => by
    obtain ⟨x, hx, rfl⟩ := List.mem_map.1 hq
    exact ⟨spr_in hm hp x hx, Int.le_refl 0, (by decide : (0 : Int) ≤ 255)⟩) hat (by simpa using hT.symm)
  rw [← goL_G] at h1 h2
  have hs : Spr m (goL st (sprL m (stpAt st.all (st.now.getD i 0)).p) (st.now.getD i 0)) (stpAt st.all (st.now.getD i 0)).p := fun q hq => h2 (q, 0) (List.mem_map.2 ⟨q, hq, rfl⟩)
  generalize goL st (sprL m (stpAt st.all (st.now.getD i 0)).p) (st.now.getD i 0) = st' at *
  obtain ⟨kn, hkn⟩ := h1.now
  have hj : ∀ j, j < st.now.length → stpAt st'.all (st'.now.getD j 0) = stpAt st.all (st.now.getD j 0) := fun j hj => by
    rw [hkn, getD_app _ _ _ _ hj]
    have hb := h.ok.now _ (getD_mem st.now j 0 hj)
    exact h1.stp hb.1 hb.2
  refine ⟨⟨h1.ok, h1.inS h.i0, ?_, ?_, ?_, ?_⟩, by rw [hkn, List.length_append]; omega⟩
  · intro p hp
    rcases h1.new p hp with hp | hp
    · rcases h.i1 p hp with hd | hd
      · exact .inl (h1.done hd)
      · exact .inr (h1.inNow h.ok hd)
    · exact .inr hp
  · intro p n hr hn
    obtain ⟨a, b⟩ := h.i2 p n hr hn
    exact ⟨h1.inS a, h1.done b⟩
  · intro j hj
    rcases h1.len j hj with hj | hj
    · rw [h1.back h.ok (h.ok.now j hj).2]; exact h.i3 j hj
    · exact hj
  · intro j hji _
    rw [hj j (by omega)]
    by_cases e : j = i
    · subst e
      exact ⟨hs, by simpa using he⟩
    · obtain ⟨a, b⟩ := h.i4 j (by omega) (by omega)
      exact ⟨h1.spr a, b⟩
/-- What the search tells at its end. -/
def Told (m : List Node) (two : Bool) (r : Fnd) : Prop := r.ok = false ∨ (0 ≤ r.at_ ∧ ∀ p n, Rch m p n → endB m two p = true → (backP r.all r.at_).length ≤ n) ∨ (∀ p n, Rch m p n → endB m two p = false)
theorem lvl_told {m : List Node} {two : Bool} {most : Int} (hm : mayB m = true) {L : Nat} : ∀ (d i : Nat) (st : SrS), Lv m two L i st → topP m + 1 ≤ i + d → i ≤ st.now.length →
    (∀ f, (lvlF m two most d i st).1 = some f → Told m two f) ∧ ((lvlF m two most d i st).1 = none → Lv m two L (lvlF m two most d i st).2.now.length (lvlF m two most d i st).2)
  | 0, i, st, h, hd, hi => by
    have := h.ok.len
    have := all_le h.ok
    omega
  | d + 1, i, st, h, hd, hi => by
    by_cases h1 : i < st.now.length
    · by_cases h2 : (st.all.length : Int) > most
      · rw [lvlF_much _ _ _ _ _ _ h1 h2]
        refine ⟨fun f hf => ?_, fun hf => by cases hf⟩
        obtain rfl := Option.some.inj hf
        exact .inl rfl
      · by_cases h3 : endB m two (stpAt st.all (st.now.getD i 0)).p = true
        · rw [lvlF_end _ _ _ _ _ _ h1 h2 h3]
          refine ⟨fun f hf => ?_, fun hf => by cases hf⟩
          obtain rfl := Option.some.inj hf
          have hmem := getD_mem st.now i 0 h1
          refine .inr (.inl ⟨(h.ok.now _ hmem).1, fun p n hr he => ?_⟩)
          dsimp only
          rw [h.i3 _ hmem]
          by_cases hn : n < L
          · have := (h.i2 p n hr hn).2.2.2
            rw [this] at he; cases he
          · omega
        · rw [lvlF_on _ _ _ _ _ _ h1 h2 h3]
          obtain ⟨h4, h5⟩ := lv_step hm h h1 h3
          exact lvl_told hm d (i + 1) _ h4 (by omega) h5
    · rw [lvlF_stop _ _ _ _ _ _ h1]
      refine ⟨fun f hf => (by cases hf), fun _ => ?_⟩
      obtain rfl : i = st.now.length := by omega
      exact h
theorem foldE_ext {m : List Node} (hm : mayB m = true) (hN : ∀ x ∈ m, NodeOk x) {L : Nat} : ∀ (l : List Int) (s : SrS), SrOk m s → (∀ i ∈ l, (0 ≤ i ∧ i < s.all.length) ∧ (backP s.all i).length = L) →
    Ext m s (l.foldl (fun s at_ => goE s (eatL m (stpAt s.all at_).p) at_) s) (L + 1) ∧ ∀ i ∈ l, Eat m (l.foldl (fun s at_ => goE s (eatL m (stpAt s.all at_).p) at_) s) (stpAt s.all i).p
  | [], s, h, _ => ⟨Ext.refl _ h, fun i hi => by cases hi⟩
  | a :: l, s, h, hl => by
    obtain ⟨hat, hT⟩ := hl a List.mem_cons_self
    have hp := h.inn _ (stp_mem hat.1 hat.2)
    obtain ⟨h1, h2⟩ := goG_ext (ate := true) (T := L + 1) (eatL m (stpAt s.all a).p) h (eat_in hm hN hp) hat (by simp [hT])
    rw [← goE_G] at h1 h2
    obtain ⟨h3, h4⟩ := foldE_ext hm hN (L := L) l (goE s (eatL m (stpAt s.all a).p) a) h1.ok (fun i hi => by
      obtain ⟨hb, hT'⟩ := hl i (List.mem_cons_of_mem _ hi)
      exact ⟨⟨hb.1, Int.lt_of_lt_of_le hb.2 (Int.ofNat_le.2 h1.size)⟩, by rw [h1.back h hb.2]; exact hT'⟩)
    rw [List.foldl_cons]
    refine ⟨h1.trans h3, fun i hi => ?_⟩
    rcases List.mem_cons.1 hi with rfl | hi
    · exact h3.eat (fun q hq => h2 q hq)
    · have hb := (hl i (List.mem_cons_of_mem _ hi)).1
      have := h4 i hi
      rwa [h1.stp hb.1 hb.2] at this
theorem lv_next {m : List Node} {two : Bool} (hm : mayB m = true) (hN : ∀ x ∈ m, NodeOk x) {L : Nat} {st : SrS} (h : Lv m two L st.now.length st) : Lv m two (L + 1) 0 (nextLvl m st) := by
  obtain ⟨h1, h2⟩ := foldE_ext hm hN (L := L) st.now ⟨st.all, []⟩ (sr_zero h.ok) (fun i hi => ⟨h.ok.now i hi, h.i3 i hi⟩)
  have e : (st.now.foldl (fun s at_ => goE s (eatL m (stpAt s.all at_).p) at_) ⟨st.all, []⟩) = nextLvl m st := rfl
  rw [e] at h1 h2
  generalize nextLvl m st = st' at *
  have hin : ∀ p, InS st p → InS st' p := fun p hp => h1.inS (st := ⟨st.all, []⟩) hp
  have hdone : ∀ p, InS st p → Done m two st' p := by
    intro p hp
    rcases h.i1 p hp with hd | ⟨j, hj, rfl⟩
    · exact ⟨fun q hq => hin _ (hd.1 q hq), fun q hq => hin _ (hd.2.1 q hq), hd.2.2⟩
    · obtain ⟨k, hk, rfl⟩ := List.mem_iff_getElem.1 hj
      obtain ⟨a, b⟩ := h.i4 k hk hk
      have ek : st.now.getD k 0 = st.now[k] := by rw [List.getD_eq_getElem?_getD, List.getElem?_eq_getElem hk]; rfl
      rw [ek] at a b
      exact ⟨fun q hq => hin _ (a q hq), h2 _ hj, b⟩
  have hall : ∀ p n, Rch m p n → n ≤ L → InS st p := fun p n hr => Rch.ind (J := fun p n => n ≤ L → InS st p) (fun _ => h.i0) (fun p n q hr ih hq hn => by
      rcases h.i1 p (ih hn) with hd | ⟨j, hj, rfl⟩
      · exact hd.1 q hq
      · obtain ⟨k, hk, rfl⟩ := List.mem_iff_getElem.1 hj
        obtain ⟨a, _⟩ := h.i4 k hk hk
        have ek : st.now.getD k 0 = st.now[k] := by rw [List.getD_eq_getElem?_getD, List.getElem?_eq_getElem hk]; rfl
        rw [ek] at a
        exact a q hq) (fun p n q hr ih hq hn => (h.i2 p n hr (by omega)).2.2.1 q hq) hr
  refine ⟨h1.ok, hin _ h.i0, ?_, ?_, ?_, fun j hj => absurd hj (Nat.not_lt_zero _)⟩
  · intro p hp
    rcases h1.new p hp with hp | hp
    · exact .inl (hdone p hp)
    · exact .inr hp
  · intro p n hr hn
    have := hall p n hr (by omega)
    exact ⟨hin p this, hdone p this⟩
  · intro j hj
    rcases h1.len j hj with hj | hj
    · cases hj
    · exact hj
theorem run_told {m : List Node} {two : Bool} {most : Int} (hm : mayB m = true) (hN : ∀ x ∈ m, NodeOk x) : ∀ (d L : Nat) (st : SrS), Lv m two L 0 st → topP m + 1 - (st.all.length - st.now.length) < d → Told m two (runF m two most d st)
  | 0, L, st, h, hd => by omega
  | d + 1, L, st, h, hd => by
    by_cases hz : st.now.length = 0
    · rw [runF, if_pos hz]
      refine .inr (.inr fun p n hr => ?_)
      have hno : ∀ p, InS st p → Done m two st p := fun p hp => by
        rcases h.i1 p hp with hd | ⟨j, hj, _⟩
        · exact hd
        · rw [List.length_eq_zero_iff.1 hz] at hj; cases hj
      have hin : InS st p := Rch.ind (J := fun p _ => InS st p) h.i0 (fun p n q _ ih hq => (hno p ih).1 q hq) (fun p n q _ ih hq => (hno p ih).2.1 q hq) hr
      exact (hno p hin).2.2
    · rw [runF_go _ _ _ _ _ hz]
      obtain ⟨a1, a2⟩ := lvl_told (two := two) (most := most) hm (topP m + 1) 0 st h (by omega) (Nat.zero_le _)
      have hdf : (lvlF m two most (topP m + 1) 0 st).2.all.length + st.now.length = (lvlF m two most (topP m + 1) 0 st).2.now.length + st.all.length ∧ st.now.length ≤ (lvlF m two most (topP m + 1) 0 st).2.now.length := lvl_diff m two most (topP m + 1) 0 st
      unfold aftL
      generalize lvlF m two most (topP m + 1) 0 st = x at a1 a2 hdf
      obtain ⟨x1, x2⟩ := x
      cases x1 with
      | some f => exact a1 f rfl
      | none =>
        have h2 := a2 rfl
        dsimp only at h2 hdf
        have h3 := lv_next hm hN h2
        have h4 := nextTo_diff m x2 x2.now.length
        rw [nextTo_full] at h4
        obtain ⟨kk, hkk⟩ := nextTo_all m x2 x2.now.length
        have hkl := congrArg List.length hkk
        rw [nextTo_full, List.length_append] at hkl
        have h5 := all_le h3.ok
        have h6 := h.ok.len
        exact run_told hm hN d (L + 1) _ h3 (by omega)
where
  lvl_diff (m : List Node) (two : Bool) (most : Int) : ∀ (d i : Nat) (st : SrS), (lvlF m two most d i st).2.all.length + st.now.length = (lvlF m two most d i st).2.now.length + st.all.length ∧ st.now.length ≤ (lvlF m two most d i st).2.now.length
  | 0, i, st => by unfold lvlF; dsimp only; omega
  | d + 1, i, st => by
    by_cases h1 : i < st.now.length
    · by_cases h2 : (st.all.length : Int) > most
      · rw [lvlF_much _ _ _ _ _ _ h1 h2]; dsimp only; omega
      · by_cases h3 : endB m two (stpAt st.all (st.now.getD i 0)).p = true
        · rw [lvlF_end _ _ _ _ _ _ h1 h2 h3]; dsimp only; omega
        · rw [lvlF_on _ _ _ _ _ _ h1 h2 h3]
          have h4 := lvl_diff m two most d (i + 1) (goL st (sprL m (stpAt st.all (st.now.getD i 0)).p) (st.now.getD i 0))
          have h5 := goL_diff (st.now.getD i 0) (sprL m (stpAt st.all (st.now.getD i 0)).p) st
          have h6 := goL_len st (sprL m (stpAt st.all (st.now.getD i 0)).p) (st.now.getD i 0)
          omega
    · rw [lvlF_stop _ _ _ _ _ _ h1]; dsimp only; omega
theorem start_lv {m : List Node} {two : Bool} (hm : mayB m = true) : Lv m two 0 0 (reachP ⟨[], []⟩ ⟨0, 0, false⟩ (-1) 0 false) := by
  have hok := sr_start hm
  have e : reachP ⟨[], []⟩ ⟨0, 0, false⟩ (-1) 0 false = ⟨[⟨⟨0, 0, false⟩, -1, 0, false⟩], [0]⟩ := rfl
  rw [e] at hok ⊢
  refine ⟨hok, ⟨_, List.mem_singleton.2 rfl, rfl⟩, ?_, fun p n _ hn => absurd hn (Nat.not_lt_zero _), ?_, fun j hj => absurd hj (Nat.not_lt_zero _)⟩
  · rintro p ⟨x, hx, rfl⟩
    obtain rfl := List.mem_singleton.1 hx
    exact .inr ⟨0, List.mem_singleton.2 rfl, rfl⟩
  · intro j hj
    obtain rfl := List.mem_singleton.1 hj
    rfl
theorem runP_told {m : List Node} (two : Bool) (most : Int) (hm : mayB m = true) (hN : ∀ x ∈ m, NodeOk x) : Told m two (runP m two most) :=
  run_told hm hN _ 0 _ (start_lv hm) (by simp [reachP, seenP])

end Go.Proofs.Ytcbflajacioinaa

/- twin: two ways of one text lead to two ends that lie apart: so what the search tells bounds the texts with two ways. Plain Lean. -/
set_option linter.unusedVariables false
namespace Go.Proofs.Ytcbflajacioinaa
open Go.RowKit Go.Shelf Go.Proofs.YtcbflajacioinaaW.PrintWords Go.Proofs.YtcbflajacioinaaW.PrintLast

theorem sumP_pos {m : List Node} {s : ByteArray} : ∀ l, 1 ≤ sumP m s l → ∃ q ∈ l, 1 ≤ manyP m s q
  | [], h => by simp [sumP] at h
  | q :: l, h => by
    rw [sumP_cons] at h
    by_cases h1 : 1 ≤ manyP m s q
    · exact ⟨q, List.mem_cons_self, h1⟩
    · obtain ⟨x, hx, h2⟩ := sumP_pos (m := m) (s := s) l (by omega)
      exact ⟨x, List.mem_cons_of_mem _ hx, h2⟩
theorem sumP_two {m : List Node} {s : ByteArray} : ∀ l, 2 ≤ sumP m s l → (∃ q ∈ l, 2 ≤ manyP m s q) ∨ ∃ (i k : Nat) (x y : Place), i < k ∧ l[i]? = some x ∧ l[k]? = some y ∧ 1 ≤ manyP m s x ∧ 1 ≤ manyP m s y
  | [], h => by simp [sumP] at h
  | q :: l, h => by
    rw [sumP_cons] at h
    by_cases h1 : 2 ≤ manyP m s q
    · exact .inl ⟨q, List.mem_cons_self, h1⟩
    · by_cases h2 : 2 ≤ sumP m s l
      · rcases sumP_two (m := m) (s := s) l h2 with ⟨x, hx, h3⟩ | ⟨i, k, x, y, hik, hx, hy, h3, h4⟩
        · exact .inl ⟨x, List.mem_cons_of_mem _ hx, h3⟩
        · exact .inr ⟨i + 1, k + 1, x, y, by omega, by simpa using hx, by simpa using hy, h3, h4⟩
      · obtain ⟨x, hx, h3⟩ := sumP_pos (m := m) (s := s) l (by omega)
        obtain ⟨k, hk, rfl⟩ := List.mem_iff_getElem.1 hx
        exact .inr ⟨0, k + 1, q, l[k], by omega, rfl, by simp, by omega, h3⟩
theorem free_next {m : List Node} {s : ByteArray} {p : Place} (hk : (rd_Node m p.f0).f0 = 2 ∨ (rd_Node m p.f0).f0 = 3) : nextsP m s p = (freeP m p.f0).map (fun t => ⟨t, p.f1⟩) := by
  unfold nextsP freeP
  rcases hk with hk | hk
  · rw [if_neg (by omega), if_pos hk, if_neg (by omega)]
  · rw [if_pos hk, if_pos hk]; rfl
theorem eat_next {m : List Node} {s : ByteArray} {p : Place} (hk : (rd_Node m p.f0).f0 = 1) : nextsP m s p = ((rd_Node m p.f0).f1.filter (takesP s p.f1)).map (fun e => (⟨e.f2, p.f1 + 1⟩ : Place)) := by
  unfold nextsP; rw [if_neg (by omega), if_neg (by omega), if_pos hk]
theorem many_nexts {m : List Node} {s : ByteArray} (hm : mayB m = true) {p : Place} (hp : InP m s p) (hk : (rd_Node m p.f0).f0 ≠ 4) : manyP m s p ≤ sumP m s (nextsP m s p) := by
  have h := manyP_sum (s := s) hm hp
  rw [not4_ends hk] at h
  simp at h
  omega
theorem step_free {m : List Node} {s : ByteArray} (hm : mayB m = true) {p : Place} (hp : InP m s p) (hk : (rd_Node m p.f0).f0 = 2 ∨ (rd_Node m p.f0).f0 = 3) (h1 : 1 ≤ manyP m s p) : ∃ t ∈ freeP m p.f0, 1 ≤ manyP m s ⟨t, p.f1⟩ ∧ InP m s ⟨t, p.f1⟩ ∧ muP m s ⟨t, p.f1⟩ < muP m s p := by
  have h2 := many_nexts (s := s) hm hp (by omega)
  obtain ⟨q, hq, h3⟩ := sumP_pos _ (Int.le_trans h1 h2)
  obtain ⟨h4, h5⟩ := next_in hm hp hq
  rw [free_next hk] at hq
  obtain ⟨t, ht, rfl⟩ := List.mem_map.1 hq
  exact ⟨t, ht, h3, h4, h5⟩
theorem step_eat {m : List Node} {s : ByteArray} (hm : mayB m = true) {p : Place} (hp : InP m s p) (hk : (rd_Node m p.f0).f0 = 1) (h1 : 1 ≤ manyP m s p) : ∃ e ∈ (rd_Node m p.f0).f1, takesP s p.f1 e = true ∧ 1 ≤ manyP m s ⟨e.f2, p.f1 + 1⟩ ∧ InP m s ⟨e.f2, p.f1 + 1⟩ ∧ muP m s ⟨e.f2, p.f1 + 1⟩ < muP m s p := by
  have h2 := many_nexts (s := s) hm hp (by omega)
  obtain ⟨q, hq, h3⟩ := sumP_pos _ (Int.le_trans h1 h2)
  obtain ⟨h4, h5⟩ := next_in hm hp hq
  rw [eat_next hk] at hq
  obtain ⟨e, he, rfl⟩ := List.mem_map.1 hq
  obtain ⟨he, ht⟩ := List.mem_filter.1 he
  exact ⟨e, he, ht, h3, h4, h5⟩
theorem normP_comm (a b : Int) (x : Bool) : normP ⟨a, b, x⟩ = normP ⟨b, a, x⟩ := by
  unfold normP
  simp only [Pr.mk.injEq, and_true]
  omega
theorem normP_le {a b : Int} (x : Bool) (h : a ≤ b) : normP ⟨a, b, x⟩ = ⟨a, b, x⟩ := by
  unfold normP
  simp only [Pr.mk.injEq, and_true]
  omega
theorem mem_sprAt {m : List Node} {p q : Pr} (i : Nat) (hi : i < (freeP m p.a).length) (h : q ∈ sprAt m p i) : q ∈ sprL m p := List.mem_append_left _ (List.mem_flatMap.2 ⟨i, List.mem_range.2 hi, h⟩)
theorem getD_eq {α : Type} (l : List α) (i : Nat) (d : α) (h : i < l.length) : l.getD i d = l[i] := by
  rw [List.getD_eq_getElem?_getD, List.getElem?_eq_getElem h]; rfl
theorem spr_apart {m : List Node} {t a b : Int} {n : Nat} (ht : t ∈ freeP m a) (h : Rch m (normP ⟨a, b, true⟩) n) : Rch m (normP ⟨t, b, true⟩) n := by
  by_cases hab : a ≤ b
  · rw [normP_le _ hab] at h
    obtain ⟨i, hi, rfl⟩ := List.mem_iff_getElem.1 ht
    refine h.spr (q := ⟨(freeP m a)[i], b, true⟩) (mem_sprAt i hi ?_)
    unfold sprAt
    dsimp only
    rw [if_pos rfl, getD_eq _ _ _ hi]
    exact List.mem_singleton.2 rfl
  · rw [normP_comm, normP_le _ (by omega)] at h
    rw [normP_comm]
    refine h.spr (q := ⟨b, t, true⟩) ?_
    unfold sprL
    dsimp only
    rw [if_pos rfl]
    exact List.mem_append_right _ (List.mem_map.2 ⟨t, ht, rfl⟩)
theorem bothB_comm (e o : Edge) : bothB e o = bothB o e := by
  unfold bothB
  rw [Int.max_comm, Int.min_comm]
theorem mem_eatL {m : List Node} {a b : Int} {ap : Bool} {e o : Edge} (he : e ∈ (rd_Node m a).f1) (ho : o ∈ (rd_Node m b).f1) (hb : bothB e o = true) : ((⟨e.f2, o.f2, ap⟩ : Pr), max e.f0 o.f0) ∈ eatL m ⟨a, b, ap⟩ :=
  List.mem_flatMap.2 ⟨e, he, List.mem_map.2 ⟨o, List.mem_filter.2 ⟨ho, hb⟩, rfl⟩⟩
theorem eat_apart {m : List Node} {a b : Int} {ap : Bool} {e o : Edge} {n : Nat} (he : e ∈ (rd_Node m a).f1) (ho : o ∈ (rd_Node m b).f1) (hb : bothB e o = true) (h : Rch m (normP ⟨a, b, ap⟩) n) : Rch m (normP ⟨e.f2, o.f2, ap⟩) (n + 1) := by
  by_cases hab : a ≤ b
  · rw [normP_le _ hab] at h
    exact h.eat (mem_eatL he ho hb)
  · rw [normP_comm, normP_le _ (by omega)] at h
    rw [normP_comm]
    rw [bothB_comm] at hb
    exact h.eat (mem_eatL ho he hb)
theorem takes_both {s : ByteArray} {j : Int} {e o : Edge} (he : takesP s j e = true) (ho : takesP s j o = true) : bothB e o = true := by
  unfold takesP at he ho
  simp only [Bool.and_eq_true, decide_eq_true_eq] at he ho
  unfold bothB
  exact decide_eq_true (by omega)
theorem takes_lt {s : ByteArray} {j : Int} {e : Edge} (he : takesP s j e = true) : j < s.size := by
  unfold takesP at he
  simp only [Bool.and_eq_true, decide_eq_true_eq] at he
  exact he.1.1
theorem ends_size {m : List Node} {s : ByteArray} {p : Place} (h : endsP m s p = true) : p.f1 = s.size := by
  unfold endsP at h
  simp only [Bool.and_eq_true, decide_eq_true_eq] at h
  exact h.2

theorem two_apart {m : List Node} {s : ByteArray} (hm : mayB m = true) : ∀ (d : Nat) (a b j : Int), muP m s ⟨a, j⟩ + muP m s ⟨b, j⟩ < d → InP m s ⟨a, j⟩ → InP m s ⟨b, j⟩ → Rch m (normP ⟨a, b, true⟩) j.toNat → 1 ≤ manyP m s ⟨a, j⟩ → 1 ≤ manyP m s ⟨b, j⟩ → ∃ p, Rch m p s.size ∧ endB m true p = true
  | 0, _, _, _, hd, _, _, _, _, _ => by omega
  | d + 1, a, b, j, hd, ha, hb, hr, h1, h2 => by
    have ka := right_kind (mayB_right hm a ha.1 ha.2.1)
    have kb := right_kind (mayB_right hm b hb.1 hb.2.1)
    by_cases fa : (rd_Node m a).f0 = 2 ∨ (rd_Node m a).f0 = 3
    · obtain ⟨t, ht, x1, x2, x3⟩ := step_free hm ha fa h1
      exact two_apart hm d t b j (by dsimp only at x3; omega) x2 hb (spr_apart ht hr) x1 h2
    by_cases fb : (rd_Node m b).f0 = 2 ∨ (rd_Node m b).f0 = 3
    · obtain ⟨t, ht, x1, x2, x3⟩ := step_free hm hb fb h2
      rw [normP_comm] at hr
      have h3 := spr_apart ht hr
      rw [normP_comm] at h3
      exact two_apart hm d a t j (by dsimp only at x3; omega) ha x2 h3 h1 x1
    by_cases ea : (rd_Node m a).f0 = 4
    · have h3 := ends_size (kind4_ends hm ha (Int.le_refl 0) (by omega) ea)
      by_cases eb : (rd_Node m b).f0 = 4
      · refine ⟨normP ⟨a, b, true⟩, by have : j.toNat = s.size := by (dsimp only at h3; omega)
                                       rw [← this]; exact hr, ?_⟩
        have hmin : (normP ⟨a, b, true⟩).a = a ∧ (normP ⟨a, b, true⟩).b = b ∨ (normP ⟨a, b, true⟩).a = b ∧ (normP ⟨a, b, true⟩).b = a := by unfold normP; dsimp only; omega
        have hap : (normP ⟨a, b, true⟩).ap = true := rfl
        unfold endB
        rw [hap]
        rcases hmin with ⟨e1, e2⟩ | ⟨e1, e2⟩
        · rw [e1, e2, ea, eb]; rfl
        · rw [e1, e2, ea, eb]; rfl
      · obtain ⟨e, _, ht, _⟩ := step_eat hm hb (by dsimp only; omega) h2
        have := takes_lt ht
        dsimp only at h3 this
        omega
    · obtain ⟨e, he, ht, x1, x2, x3⟩ := step_eat hm ha (by dsimp only; omega) h1
      by_cases eb : (rd_Node m b).f0 = 4
      · have h3 := ends_size (kind4_ends hm hb (Int.le_refl 0) (by omega) eb)
        have := takes_lt ht
        dsimp only at h3 this
        omega
      · obtain ⟨o, ho, ht', y1, y2, y3⟩ := step_eat hm hb (by dsimp only; omega) h2
        have hj := ha.2.2.1
        have h4 := eat_apart (ap := true) he ho (takes_both ht ht') hr
        rw [show j.toNat + 1 = (j + 1).toNat by (dsimp only at hj; omega)] at h4
        exact two_apart hm d e.f2 o.f2 (j + 1) (by dsimp only at x3 y3; omega) x2 y2 h4 x1 y1
theorem two_one {m : List Node} {s : ByteArray} (hm : mayB m = true) : ∀ (d : Nat) (a j : Int), muP m s ⟨a, j⟩ < d → InP m s ⟨a, j⟩ → Rch m ⟨a, a, false⟩ j.toNat → 2 ≤ manyP m s ⟨a, j⟩ → ∃ p, Rch m p s.size ∧ endB m true p = true
  | 0, _, _, hd, _, _, _ => by omega
  | d + 1, a, j, hd, ha, hr, h1 => by
    have hR := mayB_right hm a ha.1 ha.2.1
    have ka := right_kind hR
    by_cases ea : (rd_Node m a).f0 = 4
    · have h := manyP_sum (s := s) hm ha
      have hn : nextsP m s ⟨a, j⟩ = [] := by unfold nextsP; dsimp only; rw [if_neg (by omega), if_neg (by omega), if_neg (by omega)]
      rw [hn] at h
      have h0 : (if endsP m s ⟨a, j⟩ = true then (1 : Int) else 0) ≤ 1 := by split <;> omega
      simp only [sumP, List.foldr_nil] at h
      omega
    have h2 := many_nexts (s := s) hm ha ea
    by_cases fa : (rd_Node m a).f0 = 2 ∨ (rd_Node m a).f0 = 3
    · have hnx := fun q hq => next_in (q := q) hm ha hq
      rw [free_next fa] at h2 hnx
      dsimp only at h2 hnx
      rcases sumP_two _ (Int.le_trans h1 h2) with ⟨q, hq, h3⟩ | ⟨i, k, x, y, hik, hx, hy, h3, h4⟩
      · obtain ⟨h4, h5⟩ := hnx q hq
        obtain ⟨t, ht, rfl⟩ := List.mem_map.1 hq
        obtain ⟨i, hi, rfl⟩ := List.mem_iff_getElem.1 ht
        have h6 := hr.spr (q := ⟨(freeP m a)[i], (freeP m a)[i], false⟩) (mem_sprAt i hi (by
          unfold sprAt
          dsimp only
          rw [if_neg (by simp), getD_eq _ _ _ hi]
          exact List.mem_cons_self))
        rw [normP_le _ (Int.le_refl _)] at h6
        exact two_one hm d _ j (by omega) h4 h6 h3
      · obtain ⟨b1, b2⟩ := hnx x (List.mem_of_getElem? hx)
        obtain ⟨c1, c2⟩ := hnx y (List.mem_of_getElem? hy)
        rw [List.getElem?_map] at hx hy
        obtain ⟨t, ht, rfl⟩ := Option.map_eq_some_iff.1 hx
        obtain ⟨u, hu, rfl⟩ := Option.map_eq_some_iff.1 hy
        obtain ⟨hk, eu⟩ := List.getElem?_eq_some_iff.1 hu
        have h6 := hr.spr (q := ⟨u, t, true⟩) (mem_sprAt k hk (by
          unfold sprAt
          dsimp only
          rw [if_neg (by simp), getD_eq _ _ _ hk, eu]
          exact List.mem_cons_of_mem _ (List.mem_map.2 ⟨t, List.mem_of_getElem? (i := i) (by rw [List.getElem?_take_of_lt hik]; exact ht), rfl⟩)))
        exact two_apart hm _ u t j (Nat.lt_succ_self _) c1 b1 h6 h4 h3
    · have k1 : (rd_Node m a).f0 = 1 := by omega
      obtain ⟨he, _, _⟩ := right_eat hR k1
      have ho := filter_one s j _ (eats_apart he) (fun e hx => (eats_edge he e hx).1)
      have hnx := fun q hq => next_in (q := q) hm ha hq
      rw [eat_next k1] at h2 hnx
      dsimp only at h2 hnx
      have hall : ∀ e ∈ (rd_Node m a).f1.filter (takesP s j), e ∈ (rd_Node m a).f1 ∧ takesP s j e = true := fun e hx => List.mem_filter.1 hx
      generalize (rd_Node m a).f1.filter (takesP s j) = L at ho h2 hall hnx
      match L, ho, h2, hall, hnx with
      | [], _, h2, _, _ => simp [sumP] at h2; omega
      | [e], _, h2, hall, hnx =>
        obtain ⟨h4, ht⟩ := hall e (by simp)
        obtain ⟨b1, b2⟩ := hnx ⟨e.f2, j + 1⟩ (by simp)
        simp [sumP] at h2
        have h6 := eat_apart (a := a) (b := a) (ap := false) h4 h4 (takes_both ht ht) (by rw [normP_le _ (Int.le_refl _)]; exact hr)
        rw [normP_le _ (Int.le_refl _)] at h6
        have hj := ha.2.2.1
        rw [show j.toNat + 1 = (j + 1).toNat by (dsimp only at hj; omega)] at h6
        exact two_one hm d e.f2 (j + 1) (by omega) b1 h6 (by omega)
theorem ways_end {m : List Node} {s : ByteArray} (hm : mayB m = true) (h : 2 ≤ manyP m s ⟨0, 0⟩) : ∃ p, Rch m p s.size ∧ endB m true p = true :=
  two_one hm _ 0 0 (Nat.lt_succ_self _) ⟨Int.le_refl _, by have := mayB_len hm; dsimp only; omega, Int.le_refl _, by dsimp only; omega⟩ (Rch.zero m) h

/-- What TwinNone says, of what is computed. -/
theorem none_law {m : List Node} {s : ByteArray} (hm : mayB m = true) (hN : ∀ x ∈ m, NodeOk x) (hmost : (topP m : Int) ≤ 1000) :
    (twinP m 1000).2.2 = 0 ∧ ((twinP m 1000).2.1 = true ∨ manyOut m s 1000 ≤ 1) ∧ ((twinP m 1000).2.1 = false ∨ manyOut m s 1000 < 2 ∨ (twinP m 1000).1.length ≤ s.size) := by
  have h := runP_J true 1000 hm hN (J := fun _ => True) ⟨fun _ _ _ _ _ => trivial, fun _ _ _ _ _ => trivial⟩ trivial
  have hok : (runP m true 1000).ok = true := by
    cases hc : (runP m true 1000).ok
    · have := h.much hc; have := h.small; omega
    · rfl
  have ht := runP_told true 1000 hm hN
  have hmo : manyOut m s 1000 = min 1000 (manyP m s ⟨0, 0⟩) := by unfold manyOut; rw [if_pos ⟨hm, by decide⟩]
  unfold twinP
  rw [if_pos hm, if_neg (by rw [hok]; simp), hmo]
  by_cases h2 : 2 ≤ manyP m s ⟨0, 0⟩
  · obtain ⟨p, hr, he⟩ := ways_end hm h2
    rcases ht with ht | ⟨h0, ht⟩ | ht
    · rw [hok] at ht; cases ht
    · have h3 := ht p _ hr he
      rw [if_neg (by omega)]
      refine ⟨rfl, .inl rfl, .inr (.inr ?_)⟩
      dsimp only
      rw [textP_eq, List.length_reverse]
      exact h3
    · rw [ht p _ hr] at he; cases he
  · by_cases h0 : (runP m true 1000).at_ < 0
    · rw [if_pos h0]
      exact ⟨rfl, .inr (by omega), .inl rfl⟩
    · rw [if_neg h0]
      exact ⟨rfl, .inl rfl, .inr (.inl (by omega))⟩

end Go.Proofs.Ytcbflajacioinaa
