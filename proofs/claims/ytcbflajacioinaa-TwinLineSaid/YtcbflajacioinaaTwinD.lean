/- Texts of one kind, one behind the other: TwinText, TwinRun, TwinTop, TwinLaw, Awake20, TwinLineP. -/
import Derived.BigQuiet
import Derived.Deep.QuietTactic
import Derived.Outline
import Derived.Test.YtcbflajacioinaaPx7
import Derived.Test.YtcbflajacioinaaTellsM
import Derived.Test.YtcbflajacioinaaTwinA
import Derived.Deep.LoopGhost
import Derived.Test.YtcbflajacioinaaPx6
import Derived.Test.YtcbflajacioinaaAwake17

/- twin: the text by which a step was reached. -/
set_option linter.unusedSimpArgs false
set_option linter.unusedVariables false
namespace Go.Proofs.Ytcbflajacioinaa
open Go.RowKit Go.Shelf Go.Proofs.YtcbflajacioinaaW.PrintWords Go.Proofs.YtcbflajacioinaaW.PrintLast Go.Proofs.Ytcbflajacioinaa.P

/-! #### slices.Reverse -/
theorem rev_l0 (l : List Int) (hl : l.length ≤ 1000000000) : ∀ (d i : Nat) (x : List Int), l.length - i = d → x.length = l.length → (∀ t, t < l.length → x[t]? = if t < i ∨ l.length ≤ t + i then l[l.length - 1 - t]? else l[t]?) → 2 * i ≤ l.length + 1 →
    Ev (fun k => slices_Reverse_byte_byte.l0 k x i ((l.length : Int) - 1 - i)) l.reverse := by
  intro d
  induction d using Nat.strongRecOn with
  | _ d ih =>
    intro i x hd hx hget hi
    by_cases hij : (i : Int) < (l.length : Int) - 1 - i
    · have hset : ∀ t, t < l.length → ((x.set (i : Int).toNat (rd x ((l.length : Int) - 1 - i))).set ((l.length : Int) - 1 - i).toNat (rd x i))[t]? = if t < i + 1 ∨ l.length ≤ t + (i + 1) then l[l.length - 1 - t]? else l[t]? := fun t ht => by
        have e1 : ((i : Int)).toNat = i := by omega
        have e2 : ((l.length : Int) - 1 - i).toNat = l.length - 1 - i := by omega
        have r1 : some (rd x ((l.length : Int) - 1 - i)) = l[l.length - 1 - i]? := by
          have h := hget (l.length - 1 - i) (by omega)
          rw [if_neg (by omega)] at h
          rw [← h]
          unfold rd
          rw [e2, List.getD_eq_getElem?_getD, List.getElem?_eq_getElem (by omega : l.length - 1 - i < x.length)]
          rfl
        have r2 : some (rd x (i : Int)) = l[i]? := by
          have h := hget i (by omega)
          rw [if_neg (by omega)] at h
          rw [← h]
          unfold rd
          rw [e1, List.getD_eq_getElem?_getD, List.getElem?_eq_getElem (by omega : i < x.length)]
          rfl
        rw [e1, e2, List.getElem?_set, List.getElem?_set]
        by_cases t1 : l.length - 1 - i = t
        · rw [if_pos t1, if_pos (by rw [List.length_set]; omega), if_pos (by omega), r2]
          congr 1; omega
        · rw [if_neg t1]
          by_cases t2 : i = t
          · rw [if_pos t2, if_pos (by omega), if_pos (by omega), r1]
            congr 1; omega
          · rw [if_neg t2, hget t ht]
            by_cases t3 : t < i ∨ l.length ≤ t + i
            · rw [if_pos t3, if_pos (by omega)]
            · rw [if_neg t3, if_neg (by omega)]
      have := ih (l.length - (i + 1)) (by omega) (i + 1) ((x.set (i : Int).toNat (rd x ((l.length : Int) - 1 - i))).set ((l.length : Int) - 1 - i).toNat (rd x i)) rfl (by simp [hx]) hset (by omega)
      rw [show ((l.length : Int) - 1 - ((i + 1 : Nat) : Int)) = (l.length : Int) - 1 - i - 1 by omega, show ((i + 1 : Nat) : Int) = (i : Int) + 1 from rfl] at this
      exact Ev.step (fun k => by rw [slices_Reverse_byte_byte.l0, if_pos hij, if_pos (by omega), if_pos (by omega), if_pos (by omega), if_pos (by omega), w64 _ (by omega), w64 _ (by omega)]) this
    · have hxe : x = l.reverse := by
        apply List.ext_getElem?
        intro t
        by_cases ht : t < l.length
        · rw [hget t ht, List.getElem?_reverse ht]
          by_cases t3 : t < i ∨ l.length ≤ t + i
          · rw [if_pos t3]
          · rw [if_neg t3]; congr 1; omega
        · rw [List.getElem?_eq_none (by omega), List.getElem?_eq_none (by rw [List.length_reverse]; omega)]
      rw [← hxe]
      exact Ev.step (fun k => by rw [slices_Reverse_byte_byte.l0, if_neg hij]) (Ev.now _)
theorem rev_eval (l : List Int) (hl : l.length ≤ 1000000000) : Ev (fun k => slices_Reverse_byte_byte.f k l) l.reverse := by
  unfold slices_Reverse_byte_byte.f
  rw [w64 _ (by omega)]
  have := rev_l0 l hl _ 0 l rfl rfl (fun t ht => by rw [if_neg (by omega)]) (by omega)
  simpa using this

/-! #### the way back -/
theorem backF_more {all : List Stp} (hs : ∀ (i : Nat) (x : Stp), all[i]? = some x → -1 ≤ x.src ∧ x.src < i) : ∀ (d d1 d2 : Nat) (a : Int), -1 ≤ a → a < all.length → (a + 1).toNat ≤ d → d < d1 → d < d2 → backF all d1 a = backF all d2 a := by
  intro d
  induction d with
  | zero =>
    intro d1 d2 a h0 h1 hd h2 h3
    obtain ⟨d1, rfl⟩ : ∃ k, d1 = k + 1 := ⟨d1 - 1, by omega⟩
    obtain ⟨d2, rfl⟩ : ∃ k, d2 = k + 1 := ⟨d2 - 1, by omega⟩
    unfold backF
    rw [if_neg (by omega), if_neg (by omega)]
  | succ d ih =>
    intro d1 d2 a h0 h1 hd h2 h3
    obtain ⟨d1, rfl⟩ : ∃ k, d1 = k + 1 := ⟨d1 - 1, by omega⟩
    obtain ⟨d2, rfl⟩ : ∃ k, d2 = k + 1 := ⟨d2 - 1, by omega⟩
    unfold backF
    by_cases ha : 0 ≤ a
    · rw [if_pos ha, if_pos ha]
      have hx : all[a.toNat]? = some (stpAt all a) := by unfold stpAt; rw [List.getD_eq_getElem?_getD, List.getElem?_eq_getElem (by omega)]; rfl
      obtain ⟨s0, s1⟩ := hs _ _ hx
      rw [ih d1 d2 _ s0 (by omega) (by omega) (by omega) (by omega)]
    · rw [if_neg ha, if_neg ha]
def backP (all : List Stp) (a : Int) : List Int := backF all (all.length + 1) a
theorem backP_neg {all : List Stp} {a : Int} (h : a < 0) : backP all a = [] := by unfold backP backF; rw [if_neg (by omega)]
theorem backP_step {all : List Stp} (hs : ∀ (i : Nat) (x : Stp), all[i]? = some x → -1 ≤ x.src ∧ x.src < i) {a : Int} (h0 : 0 ≤ a) (h1 : a < all.length) : backP all a = (if (stpAt all a).ate = true then [(stpAt all a).c] else []) ++ backP all (stpAt all a).src := by
  have hx : all[a.toNat]? = some (stpAt all a) := by unfold stpAt; rw [List.getD_eq_getElem?_getD, List.getElem?_eq_getElem (by omega)]; rfl
  obtain ⟨s0, s1⟩ := hs _ _ hx
  unfold backP
  rw [backF, if_pos h0]
  rw [backF_more hs ((stpAt all a).src + 1).toNat all.length (all.length + 1) _ s0 (by omega) (Nat.le_refl _) (by omega) (by omega)]
theorem textP_eq (all : List Stp) (a : Int) : textP all a = (backP all a).reverse := rfl

theorem own_stps {w : World} {base : Nat} {v : Value} {l : List Stp} (h : w.ownsRow base 94 6 v l.length (l.flatMap encStp)) : ∃ A cap, v = .slice A l.length cap ∧ ∀ i : Int, 0 ≤ i → i < l.length → ∃ ad, A = some ad ∧
    w.cell? (ad.add (i.toNat * 6)) = some (.int .i64 (stpAt l i).p.a) ∧ w.cell? ⟨(ad.add (i.toNat * 6)).block, (ad.add (i.toNat * 6)).off + 1, none⟩ = some (.int .i64 (stpAt l i).p.b) ∧ w.cell? ⟨(ad.add (i.toNat * 6)).block, (ad.add (i.toNat * 6)).off + 2, none⟩ = some (.bool (stpAt l i).p.ap) ∧ w.cell? ⟨(ad.add (i.toNat * 6)).block, (ad.add (i.toNat * 6)).off + 3, none⟩ = some (.int .i64 (stpAt l i).src) ∧ w.cell? ⟨(ad.add (i.toNat * 6)).block, (ad.add (i.toNat * 6)).off + 4, none⟩ = some (.int .u8 (stpAt l i).c) ∧ w.cell? ⟨(ad.add (i.toNat * 6)).block, (ad.add (i.toNat * 6)).off + 5, none⟩ = some (.bool (stpAt l i).ate) := by
  rcases h.2 with ⟨rfl, hn⟩ | ⟨g, cap, cur, rfl, hb, hr⟩
  · rw [hn]
    exact ⟨none, 0, rfl, fun i h0 hi => by omega⟩
  · refine ⟨_, _, rfl, fun i h0 hi => ⟨_, rfl, ?_⟩⟩
    have hi' : i.toNat < l.length := by omega
    have hc := h.cells (g := g) rfl
    have e := fun c (hc6 : c < 6) => flatMap_get (f := encStp) (k := 6) (fun _ => rfl) l i.toNat c hi' hc6
    have hst : stpAt l i = l[i.toNat] := by unfold stpAt; rw [List.getD_eq_getElem?_getD, List.getElem?_eq_getElem hi']; rfl
    rw [hst]
    exact ⟨hc _ _ (e 0 (by decide)), by rw [← add_field _ _ 1 (by omega)]; exact hc _ _ (e 1 (by decide)), by rw [← add_field _ _ 2 (by omega)]; exact hc _ _ (e 2 (by decide)), by rw [← add_field _ _ 3 (by omega)]; exact hc _ _ (e 3 (by decide)), by rw [← add_field _ _ 4 (by omega)]; exact hc _ _ (e 4 (by decide)), by rw [← add_field _ _ 5 (by omega)]; exact hc _ _ (e 5 (by decide))⟩

theorem infoU8 : (Try.prog.info? 5).map (fun i => (i.zero, i.size, i.bytes)) = some (some (.int .u8 0), 1, 1) := by kernel_rfl

set_option maxRecDepth 100000 in
set_option maxHeartbeats 2000000 in
theorem text_calls (w0 : World) (m : List Node) (g gm : Nat) (A : Option Addr) (c : Nat) (hm : m.length ≤ 1000) (L : Nat → Prop) (st : SrS) (at_ : Int) (ha : -1 ≤ at_ ∧ at_ < st.all.length) (w : World) (h : SrAt w0 w m g gm A c L st) :
    Calls Try.prog 38 #[.pointer (some ⟨g, 0, none⟩), .int .i64 at_] w fun e w' => e = .returned (.string (strOfNums (textP st.all at_))) ∧ RowKit.Below w.heap.size w w' := by
  have hsmall := h.small
  have htop : topP m ≤ 2000000 := by
    unfold topP
    have : 2 * m.length * m.length ≤ 2 * 1000 * 1000 := Nat.mul_le_mul (Nat.mul_le_mul (Nat.le_refl _) hm) hm
    omega
  obtain ⟨h1, h2, _, v1, v3, D, b1, b2, _⟩ := h
  obtain ⟨A1, k1, rfl, hrow⟩ := own_stps b2
  have f1 := b1.cell 1
  simp only [List.getElem?_toArray, List.getElem?_cons_zero, List.getElem?_cons_succ] at f1
  have F1 := Aside0.mk f1
  have HROW := Aside0.mk hrow
  have HSRC := Aside0.mk h2.src
  obtain ⟨i0, hi, hz0, hz1, hz2⟩ := info_parts infoU8
  clear h1 b1 b2 hrow f1
  go_enter Try.func38, Try.ntmps38
  go_wp2_with fail
  go_loopw [1, 5] (fun av bv wr => ∃ (a : Int) (bs : List Int), av = .int .i64 a ∧ -1 ≤ a ∧ a < st.all.length ∧ bs.length + (a + 1).toNat ≤ st.all.length ∧ wr.ownsRow w.heap.size 5 1 bv bs.length (bs.map (Value.int .u8)) ∧ Aside0 (backP st.all at_ = bs ++ backP st.all a) ∧ Aside0 (RowKit.Below w.heap.size w wr)) (fun av _ _ => (intOf av + 1).toNat)
  case atStart => exact ⟨at_, [], rfl, ha.1, ha.2, by simp; omega, World.ownsRow_nil _ _ _ _, ⟨rfl⟩, ⟨RowKit.Below.refl _ _⟩⟩
  case round =>
    obtain ⟨a, bs, rfl, ha0, ha1, hlen, hown, HBK, HB⟩ := hrel
    by_cases hneg : 0 ≤ a
    · obtain ⟨ad, hA, x0, x1, x2, x3, x4, x5⟩ := HROW.out a hneg ha1
      subst hA
      have y3 := (HB.out.cell (World.block_lt_of_cell? _ _ x3)).trans x3
      have y4 := (HB.out.cell (World.block_lt_of_cell? _ _ x4)).trans x4
      have y5 := (HB.out.cell (World.block_lt_of_cell? _ _ x5)).trans x5
      have f1 := (HB.out.cell (World.block_lt_of_cell? _ _ F1.out)).trans F1.out
      have hst := HBK.out.trans (congrArg (bs ++ ·) (backP_step HSRC.out hneg ha1))
      have hsrc := HSRC.out a.toNat (stpAt st.all a) (by unfold stpAt; rw [List.getD_eq_getElem?_getD, List.getElem?_eq_getElem (by omega)]; rfl)
      have hsz := HB.out.size
      generalize stpAt st.all a = x at *
      obtain ⟨xp, xs, xc, xe⟩ := x
      dsimp only at *
      have HST := Aside0.mk hst
      have X3 := Aside0.mk x3
      clear hst x0 x1 x2 x3 x4 x5
      have e0 : decide (0 ≤ a) = true := decide_eq_true hneg
      have e1 : decide (a < (st.all.length : Int)) = true := decide_eq_true ha1
      cases xe
      · go_wp2_with fail
        refine ⟨⟨xs, bs, rfl, hsrc.1, by omega, by omega, hown, ⟨by have := HST.out; simpa using this⟩, HB⟩, by simp [intOf]; omega⟩
      · have hb1 : bs.length + 1 ≤ maxLen := by unfold maxLen; omega
        have hb2 : (bs.length + 1) * 1 ≤ 140737488355328 := by omega
        have hnw : ∀ j u, ([Value.int .u8 xc] : List Value)[j]? = some u → (wr.alloc (.cells #[.int .u8 xc] 5)).cell? ((⟨wr.heap.size, 0, none⟩ : Addr).add j) = some u := World.news_of_block (cs := #[.int .u8 xc]) (t := 5) (fr := (0, 0)) (World.alloc_heap_new wr _)
        go_wp2_with (at_builtin; refine wpList_append_own _ rfl _ _ 53 rfl w.heap.size 5 i0 (.int .u8 0) 1 1 Try.underlying53 hi hz0 hz1 hz2 rfl (by decide) _ _ _ rfl (hown.alloc _) ⟨wr.heap.size, 0, none⟩ 1 1 [.int .u8 xc] rfl rfl hnw (by simp [Value.oneCell']) hb1 hb2 (by simp; omega) ?_; intro v' w1 hown1 hgrow1 _; have hgA := (World.grownBy_alloc wr (.cells #[.int .u8 xc] 5) _).trans hgrow1; have HB1 := Aside0.mk (HB.out.grown hgA HB.out.size (own_base hown)); have f1' := (HB1.out.cell (World.block_lt_of_cell? _ _ F1.out)).trans F1.out; have z3 : w1.cell? ⟨(ad.add (a.toNat * 6)).block, (ad.add (a.toNat * 6)).off + 3, none⟩ = some (.int .i64 xs) := (HB1.out.cell (World.block_lt_of_cell? _ _ X3.out)).trans X3.out)
        refine ⟨⟨xs, bs ++ [xc], rfl, hsrc.1, by omega, by simp; omega, by simpa using hown1, ⟨by have := HST.out; simpa using this⟩, HB1⟩, by simp [intOf]; omega⟩
    · have e0 : decide (0 ≤ a) = false := decide_eq_false hneg
      have hbs : backP st.all at_ = bs := HBK.out.trans (by rw [backP_neg (show a < 0 by omega), List.append_nil])
      obtain ⟨kr, hkr⟩ := (rev_eval bs (by omega)).rounds
      have HKR := Aside0.mk hkr
      have HBS := Aside0.mk hbs
      clear hkr hbs
      go_wp2_with (go_at_call 43; refine (slices_Reverse_byte_byte.calls kr (fun _ => True) _ bs bs.reverse w wr HB.out (Kd.R_of_own hown (fun _ _ => trivial)) HKR.out).mono ?_; rintro e w3 ⟨rfl, hR, hb3, _⟩; have hcv := own_string (P := Try.prog) Try.underlying53 Try.underlying5 Try.underlying9 (Kd.own_of_R hR))
      go_ret
      rw [textP_eq, HBS.out]
      exact ⟨rfl, hb3⟩

end Go.Proofs.Ytcbflajacioinaa

/- twin: the search goes on until an end is reached. -/
set_option linter.unusedSimpArgs false
set_option linter.unusedVariables false
namespace Go.Proofs.Ytcbflajacioinaa
open Go.RowKit Go.Shelf Go.Proofs.YtcbflajacioinaaW.PrintWords Go.Proofs.YtcbflajacioinaaW.PrintLast

theorem reach_diff (st : SrS) (p : Pr) (src c : Int) (ate : Bool) : (reachP st p src c ate).all.length + st.now.length = (reachP st p src c ate).now.length + st.all.length := by
  unfold reachP
  split
  · omega
  · simp only [List.length_append, List.length_singleton]; omega
theorem goL_diff (src : Int) : ∀ (l : List Pr) (st : SrS), (goL st l src).all.length + st.now.length = (goL st l src).now.length + st.all.length
  | [], st => by unfold goL; simp only [List.foldl_nil]; omega
  | q :: l, st => by
    have h1 := reach_diff st q src 0 false
    have h2 := goL_diff src l (reachP st q src 0 false)
    have h3 : goL st (q :: l) src = goL (reachP st q src 0 false) l src := rfl
    rw [h3]; omega
theorem goE_diff (src : Int) : ∀ (l : List (Pr × Int)) (st : SrS), (goE st l src).all.length + st.now.length = (goE st l src).now.length + st.all.length
  | [], st => by unfold goE; simp only [List.foldl_nil]; omega
  | q :: l, st => by
    have h1 := reach_diff st q.1 src q.2 true
    have h2 := goE_diff src l (reachP st q.1 src q.2 true)
    have h3 : goE st (q :: l) src = goE (reachP st q.1 src q.2 true) l src := rfl
    rw [h3]; omega
/-- The next level, as far as its first so many steps. -/
def nextTo (m : List Node) (st : SrS) (j : Nat) : SrS := (st.now.take j).foldl (fun s at_ => goE s (eatL m (stpAt s.all at_).p) at_) ⟨st.all, []⟩
theorem nextTo_step (m : List Node) (st : SrS) (j : Nat) (hj : j < st.now.length) : nextTo m st (j + 1) = goE (nextTo m st j) (eatL m (stpAt (nextTo m st j).all (st.now.getD j 0)).p) (st.now.getD j 0) := by
  unfold nextTo
  rw [take_snoc' st.now j 0 hj, List.foldl_append]
  rfl
theorem nextTo_all (m : List Node) (st : SrS) : ∀ j, ∃ k, (nextTo m st j).all = st.all ++ k := by
  unfold nextTo
  intro j
  generalize st.now.take j = l
  suffices h : ∀ (l : List Int) (s : SrS), ∃ k, (l.foldl (fun s at_ => goE s (eatL m (stpAt s.all at_).p) at_) s).all = s.all ++ k from h l ⟨st.all, []⟩
  intro l
  induction l with
  | nil => exact fun s => ⟨[], by simp⟩
  | cons a l ih =>
    intro s
    obtain ⟨k1, h1⟩ := goE_all (src := a) (eatL m (stpAt s.all a).p) s
    obtain ⟨k2, h2⟩ := ih (goE s (eatL m (stpAt s.all a).p) a)
    exact ⟨k1 ++ k2, by rw [List.foldl_cons, h2, h1, List.append_assoc]⟩
theorem nextTo_diff (m : List Node) (st : SrS) (j : Nat) : (nextTo m st j).all.length = (nextTo m st j).now.length + st.all.length := by
  unfold nextTo
  generalize st.now.take j = l
  suffices h : ∀ (l : List Int) (s : SrS), (l.foldl (fun s at_ => goE s (eatL m (stpAt s.all at_).p) at_) s).all.length + s.now.length = (l.foldl (fun s at_ => goE s (eatL m (stpAt s.all at_).p) at_) s).now.length + s.all.length by
    have := h l ⟨st.all, []⟩
    simpa using this
  intro l
  induction l with
  | nil => intro s; simp only [List.foldl_nil]; omega
  | cons a l ih =>
    intro s
    have h1 := goE_diff a (eatL m (stpAt s.all a).p) s
    have h2 := ih (goE s (eatL m (stpAt s.all a).p) a)
    rw [List.foldl_cons]; omega
theorem nextTo_full (m : List Node) (st : SrS) : nextTo m st st.now.length = nextLvl m st := by unfold nextTo nextLvl; rw [List.take_length]
/-- Where the row of the steps at which a search goes on lies. -/
theorem own_now {w : World} {base : Nat} {v : Value} {l : List Int} (h : w.ownsRow base 3 1 v l.length (l.map (Value.int .i64))) : ∃ A cap, v = .slice A l.length cap ∧ ∀ W : World, (∀ k, v.ownBlock = some k → W.heap[k]? = w.heap[k]?) → ∀ i : Nat, i < l.length → ∃ ad, A = some ad ∧ W.cell? (ad.add i) = some (.int .i64 (l.getD i 0)) := by
  rcases h.2 with ⟨rfl, hn⟩ | ⟨g, cap, cur, rfl, hb, hg, hr⟩
  · rw [hn]
    exact ⟨none, 0, rfl, fun W _ i hi => by omega⟩
  · refine ⟨_, _, rfl, fun W hW i hi => ⟨_, rfl, ?_⟩⟩
    have hc := h.cells (g := g) rfl i (.int .i64 (l.getD i 0)) (by rw [List.getElem?_map, List.getD_eq_getElem?_getD, List.getElem?_eq_getElem hi]; rfl)
    have hWg : W.heap[g]? = w.heap[g]? := hW g rfl
    have e : W.cell? ((⟨g, 0, none⟩ : Addr).add i) = w.cell? ((⟨g, 0, none⟩ : Addr).add i) := by
      rw [add_plain]
      simp only [World.cell?, hWg]
    rw [e]; exact hc

/-- What a level's end leads to. -/
def aftL (m : List Node) (two : Bool) (most : Int) (d : Nat) (x : Option Fnd × SrS) : Fnd :=
  match x with
  | (some r, _) => r
  | (none, st') => runF m two most d (nextLvl m st')
theorem runF_go (m : List Node) (two : Bool) (most : Int) (d : Nat) (st : SrS) (h : st.now.length ≠ 0) : runF m two most (d + 1) st = aftL m two most d (lvlF m two most (topP m + 1) 0 st) := by
  rw [runF, if_neg h]; rfl
theorem lvlF_stop (m : List Node) (two : Bool) (most : Int) (d i : Nat) (st : SrS) (h : ¬ i < st.now.length) : lvlF m two most (d + 1) i st = (none, st) := by
  rw [lvlF, if_neg h]
theorem lvlF_much (m : List Node) (two : Bool) (most : Int) (d i : Nat) (st : SrS) (h : i < st.now.length) (h1 : (st.all.length : Int) > most) : lvlF m two most (d + 1) i st = (some ⟨-1, false, st.all⟩, st) := by
  rw [lvlF, if_pos h, if_pos h1]
theorem lvlF_end (m : List Node) (two : Bool) (most : Int) (d i : Nat) (st : SrS) (h : i < st.now.length) (h1 : ¬ (st.all.length : Int) > most) (h2 : endB m two (stpAt st.all (st.now.getD i 0)).p = true) : lvlF m two most (d + 1) i st = (some ⟨st.now.getD i 0, true, st.all⟩, st) := by
  rw [lvlF, if_pos h, if_neg h1, if_pos h2]
theorem lvlF_on (m : List Node) (two : Bool) (most : Int) (d i : Nat) (st : SrS) (h : i < st.now.length) (h1 : ¬ (st.all.length : Int) > most) (h2 : ¬ endB m two (stpAt st.all (st.now.getD i 0)).p = true) : lvlF m two most (d + 1) i st = lvlF m two most d (i + 1) (goL st (sprL m (stpAt st.all (st.now.getD i 0)).p) (st.now.getD i 0)) := by
  rw [lvlF, if_pos h, if_neg h1, if_neg h2]

theorem sr_cells {w0 W : World} {m : List Node} {g gm : Nat} {A : Option Addr} {c : Nat} {L : Nat → Prop} {st : SrS} (h : SrAt w0 W m g gm A c L st) : ∃ A1 k1 A3 k3, W.cell? ⟨g, 0, none⟩ = some (.slice A m.length c) ∧ W.cell? ⟨g, 1, none⟩ = some (.slice A1 st.all.length k1) ∧ W.cell? ⟨g, 3, none⟩ = some (.slice A3 st.now.length k3) ∧
    (∀ i : Nat, i < st.now.length → ∃ ad, A3 = some ad ∧ W.cell? (ad.add i) = some (.int .i64 (st.now.getD i 0))) ∧
    (∀ i : Int, 0 ≤ i → i < st.all.length → ∃ ad, A1 = some ad ∧ W.cell? (ad.add (i.toNat * 6)) = some (.int .i64 (stpAt st.all i).p.a) ∧ W.cell? ⟨(ad.add (i.toNat * 6)).block, (ad.add (i.toNat * 6)).off + 1, none⟩ = some (.int .i64 (stpAt st.all i).p.b) ∧ W.cell? ⟨(ad.add (i.toNat * 6)).block, (ad.add (i.toNat * 6)).off + 2, none⟩ = some (.bool (stpAt st.all i).p.ap)) := by
  obtain ⟨_, _, _, v1, v3, D, b1, b2, b3, _⟩ := h
  obtain ⟨A1, k1, rfl, r1⟩ := own_stps b2
  obtain ⟨A3, k3, rfl, r3⟩ := own_now b3
  have f0 := b1.cell 0
  have f1 := b1.cell 1
  have f3 := b1.cell 3
  simp only [List.getElem?_toArray, List.getElem?_cons_zero, List.getElem?_cons_succ] at f0 f1 f3
  exact ⟨A1, k1, A3, k3, f0, f1, f3, fun i hi => r3 W (fun _ _ => rfl) i hi, fun i h0 h1 => by
    obtain ⟨ad, e, x0, x1, x2, _⟩ := r1 i h0 h1
    exact ⟨ad, e, x0, x1, x2⟩⟩

theorem sr_next {w0 W : World} {m : List Node} {g gm : Nat} {A : Option Addr} {c : Nat} {L : Nat → Prop} {st : SrS} (h : SrAt w0 W m g gm A c L st) {A3 : Option Addr} {k3 : Nat} (h3 : W.cell? ⟨g, 3, none⟩ = some (.slice A3 st.now.length k3)) :
    SrAt w0 (W.setCell ⟨g, 3, none⟩ (.slice none 0 0)) m g gm A c (fun k => L k ∨ (Value.slice A3 st.now.length k3).ownBlock = some k) ⟨st.all, []⟩ ∧
    ∀ W', Kept3 (W.setCell ⟨g, 3, none⟩ (.slice none 0 0)) W' (fun k => L k ∨ (Value.slice A3 st.now.length k3).ownBlock = some k) → ∀ i : Nat, i < st.now.length → ∃ ad, A3 = some ad ∧ W'.cell? (ad.add i) = some (.int .i64 (st.now.getD i 0)) := by
  obtain ⟨h1, h2, ⟨a1, a2, a3, a4, a5⟩, v1, v3, D, b1, b2, b3, b4, b5, b6, b7⟩ := h
  have f3 := b1.cell 3
  simp only [List.getElem?_toArray, List.getElem?_cons_zero, List.getElem?_cons_succ] at f3
  rw [f3] at h3
  obtain rfl := Option.some.inj h3
  have hgs := grown_set W ⟨g, 3, none⟩ (.slice none 0 0)
  have b1s := b1.set 3 (.slice none 0 0)
  have g2 := b2.kept hgs (.inr (b1.not_row (by decide) b2).symm)
  have g3 := b3.kept hgs (.inr (b1.not_row (by decide) b3).symm)
  have kM := World.ownsMap.kept b4 hgs (by simp; exact map_not_blk b4 b1)
  have hb := h1.setCell (p := ⟨g, 3, none⟩) a1 (.slice none 0 0)
  have n1 := b1.not_row (by decide) b3
  have n2 := seen_not_row b4 b3
  have n3 := row_not_row (by decide) b2 b3
  refine ⟨⟨hb, ⟨h2.inn, h2.one, h2.src, h2.byte, fun i hi => by simp at hi, Nat.zero_le _⟩, ⟨a1, a2, fun hk => ?_, fun hk => ?_, fun k hk => ?_⟩, v1, .slice none 0 0, D, b1s, g2, World.ownsRow_nil _ _ _ _, kM, b5, fun k hk hl => ?_, fun k hk => by cases hk⟩, ?_⟩
  · rcases hk with hk | hk
    · exact a3 hk
    · exact n1 hk.symm
  · rcases hk with hk | hk
    · exact a4 hk
    · exact n2 hk.symm
  · rw [World.size_setCell]
    rcases hk with hk | hk
    · exact a5 k hk
    · exact (World.ownsRow.lt b3 k hk).2
  · rcases hl with hl | hl
    · exact b6 k hk hl
    · rcases n3 with h | h
      · rw [h] at hk; cases hk
      · exact h (hk.trans hl.symm)
  · intro W' hW'
    obtain ⟨A', c', e, r⟩ := own_now g3
    injection e with e1 e2 e3
    subst e1
    exact fun i hi => r W' (fun k hk => hW' k (.inr hk)) i hi

set_option maxRecDepth 100000 in
set_option maxHeartbeats 4000000 in
theorem run_calls (w0 : World) (m : List Node) (g gm : Nat) (A : Option Addr) (c : Nat) (hC0 : kNode.C w0 A m.length m) (hM : mayB m = true) (hN : ∀ x ∈ m, NodeOk x) (hm : m.length ≤ 1000) (hF : ∀ x ∈ m, x.f2.length ≤ 1000000) (two : Bool) (most : Int) (w : World) (h : SrAt w0 w m g gm A c (fun k => k < w0.heap.size) ⟨[], []⟩) :
    Calls Try.prog 37 #[.pointer (some ⟨g, 0, none⟩), .bool two, .int .i64 most] w fun e w' => e = .returned (.tuple #[.int .i64 (runP m two most).at_, .bool (runP m two most).ok]) ∧ ∃ st', SrAt w0 w' m g gm A c (fun k => k < w0.heap.size) st' ∧ st'.all = (runP m two most).all ∧ -1 ≤ (runP m two most).at_ ∧ (runP m two most).at_ < st'.all.length := by
  have hl1 := mayB_len hM
  have htop : topP m ≤ 2000000 := by
    unfold topP
    have : 2 * m.length * m.length ≤ 2 * 1000 * 1000 := Nat.mul_le_mul (Nat.mul_le_mul (Nat.le_refl _) hm) hm
    omega
  have hz : PrAt m ⟨0, 0, false⟩ := by unfold PrAt; dsimp only; omega
  have RC := reach_calls w0 m g gm A c hm _ ⟨[], []⟩ ⟨0, 0, false⟩ hz (-1) 0 (by simp) ⟨by omega, by omega⟩ false w h
  unfold valPr at RC
  have HRC := Aside0.mk RC
  have SC := fun (W : World) (L' : Nat → Prop) (st' : SrS) (p : Pr) (at_ : Int) (hp : PrIn m p) (hs' : -1 ≤ at_ ∧ at_ < st'.all.length) (hh : SrAt w0 W m g gm A c L' st') => spread_calls w0 m g gm A c hC0 hM hm hF L' st' p hp at_ hs' W hh
  have EC := fun (W : World) (L' : Nat → Prop) (st' : SrS) (p : Pr) (at_ : Int) (hp : PrIn m p) (hs' : -1 ≤ at_ ∧ at_ < st'.all.length) (hh : SrAt w0 W m g gm A c L' st') => eat_calls w0 m g gm A c hC0 hM hN hm L' st' p hp at_ hs' W hh
  unfold valPr at SC EC
  have HSC := Aside0.mk SC
  have HEC := Aside0.mk EC
  have HND := Aside0.mk (fun (i : Int) (h0 : 0 ≤ i) (h1 : i < m.length) => node0 hC0 i h0 h1)
  clear RC SC EC h
  have hR : runP m two most = runF m two most (topP m + 2) (reachP ⟨[], []⟩ ⟨0, 0, false⟩ (-1) 0 false) := rfl
  have hst0 : reachP ⟨[], []⟩ ⟨0, 0, false⟩ (-1) 0 false = ⟨[⟨⟨0, 0, false⟩, -1, 0, false⟩], [0]⟩ := rfl
  rw [hst0] at hR HRC
  generalize runP m two most = R0 at *
  have HR := Aside0.mk hR
  clear hR hst0
  go_enter Try.func37, Try.ntmps37
  go_wp2_with fail
  refine HRC.out.mono ?_
  rintro e w1 ⟨rfl, hS1, _⟩
  have HS1 := Aside0.mk hS1
  clear hS1 HRC
  go_wp2_with fail
  go_loopg [8] (topP m + 2) (fun k iv wr => ∃ st, Aside0 (SrAt w0 wr m g gm A c (fun k => k < w0.heap.size) st) ∧ Aside0 (runF m two most k st = R0 ∧ topP m + 1 - (st.all.length - st.now.length) < k))
  case atStart => exact ⟨_, HS1, HR.out.symm, by simp⟩
  case round =>
    obtain ⟨st, HS, HF⟩ := hrel
    have hsmall := HS.out.small
    have hlen := HS.out.ok.len
    obtain ⟨A1, k1, A3, k3, f0, f1, f3, hnow, hall⟩ := sr_cells HS.out
    by_cases hz : st.now.length = 0
    · obtain ⟨d, rfl⟩ : ∃ d, gk = d + 1 := ⟨gk - 1, by have := HF.out.2; omega⟩
      have hr : R0 = ⟨-1, true, st.all⟩ := HF.out.1.symm.trans (by rw [runF, if_pos hz])
      have HRR := Aside0.mk hr
      have e0 : ¬ 0 < st.now.length := by omega
      have HLL := Aside0.mk hlen
      clear hr hnow hall hz hlen hsmall
      go_wp2_with fail
      go_ret2
      rw [HRR.out]
      exact ⟨rfl, st, HS.out, rfl, by dsimp only; omega, by dsimp only; omega⟩
    · have e0 : 0 < st.now.length := by omega
      obtain ⟨d, rfl⟩ : ∃ d, gk = d + 1 := ⟨gk - 1, by have := HF.out.2; omega⟩
      have HX : Aside0 (aftL m two most d (lvlF m two most (topP m + 1) 0 st) = R0 ∧ topP m + 1 - (st.all.length - st.now.length) < d + 1) := ⟨by rw [← runF_go m two most d st hz]; exact HF.out⟩
      have HL := Aside0.mk hlen
      have HZ := Aside0.mk hz
      clear hnow hall HF hlen hz hsmall
      go_wp2_with fail
      obtain ⟨w8, rfl⟩ : ∃ w8 : World, w8 = wr := ⟨_, rfl⟩
      go_loopw [8] (fun iv wr => ∃ (i : Nat) (st' : SrS), iv = .int .i64 i ∧ i ≤ st'.now.length ∧ Aside0 (SrAt w0 wr m g gm A c (fun k => k < w0.heap.size) st') ∧ Aside0 (lvlF m two most (topP m + 1) 0 st = lvlF m two most (topP m + 1 - i) i st' ∧ st'.all.length + st.now.length = st'.now.length + st.all.length ∧ st.now.length ≤ st'.now.length)) (fun iv _ => topP m + 1 - (intOf iv).toNat)
      case atStart => exact ⟨0, st, rfl, Nat.zero_le _, HS, ⟨rfl, by omega, Nat.le_refl _⟩⟩
      case round =>
        obtain ⟨i, st', rfl, hi, HSi, HFi⟩ := hrel
        have hsmall := HSi.out.small
        have hlen := HSi.out.ok.len
        obtain ⟨A1, k1, A3, k3, f0, f1, f3, hnow, hall⟩ := sr_cells HSi.out
        have hfu : topP m + 1 - i = (topP m - i) + 1 := by omega
        by_cases hil : i < st'.now.length
        · have e1 : decide ((i : Int) < (st'.now.length : Int)) = true := decide_eq_true (by omega)
          obtain ⟨a3, hA3, n0⟩ := hnow i hil
          subst hA3
          have hat := HSi.out.ok.now _ (getD_mem st'.now i 0 hil)
          obtain ⟨a1, hA1, x0, x1, x2⟩ := hall _ hat.1 hat.2
          subst hA1
          have hpin := HSi.out.ok.inn _ (stp_mem hat.1 hat.2)
          have lM := lvlF_much m two most (topP m - i) i st' hil
          have lE := lvlF_end m two most (topP m - i) i st' hil
          have lO := lvlF_on m two most (topP m - i) i st' hil
          rw [← hfu] at lM lE lO
          generalize hagen : st'.now.getD i 0 = a at *
          have HAG := Aside0.mk hagen
          clear hagen
          generalize hpgen : (stpAt st'.all a).p = p at *
          obtain ⟨pa, pb, pap⟩ := p
          obtain ⟨hp0, hp1, hp2⟩ := hpin
          dsimp only at x0 x1 x2 hp0 hp1 hp2
          have HPG := Aside0.mk hpgen
          have LM := Aside0.mk lM
          have LE := Aside0.mk lE
          have LO := Aside0.mk lO
          have HFU := Aside0.mk hfu
          have c0 : decide (0 ≤ a) = true := decide_eq_true hat.1
          have c1 : decide (a < (st'.all.length : Int)) = true := decide_eq_true hat.2
          have ha0 := hat.1
          have ha1 := hat.2
          obtain ⟨na, _, _, _, _, hna, hya, _⟩ := HND.out pa hp0 (by omega)
          obtain ⟨nb, _, _, _, _, hnb, hyb, _⟩ := HND.out pb (by omega) hp2
          rw [hna] at hnb
          obtain rfl := Option.some.inj hnb
          subst hna
          have hbP := below_alloc (RowKit.Below.refl wr.heap.size wr) (.cells #[.int .i64 pa, .int .i64 pb, .bool pap] 92)
          have bP := Blk.new wr 92 #[.int .i64 pa, .int .i64 pb, .bool pap]
          have p0 := bP.cell 0
          have p1 := bP.cell 1
          have p2 := bP.cell 2
          simp only [List.getElem?_toArray, List.getElem?_cons_zero, List.getElem?_cons_succ] at p0 p1 p2
          have u0 := (hbP.cell (World.block_lt_of_cell? _ _ f0)).trans f0
          have u1 := (hbP.cell (World.block_lt_of_cell? _ _ f1)).trans f1
          have HBP := Aside0.mk hbP
          have HSP := Aside0.mk (HSi.out.more hbP (L' := fun k => k < w0.heap.size) (fun k hk => .inl hk))
          have ya := (hya _ HSP.out.bel).1
          have yb := (hyb _ HSP.out.bel).1
          clear hnow hall hpgen lM lE lO hfu hat hbP bP hya hyb
          by_cases hmost : (st'.all.length : Int) > most
          · have c2 : decide (most < (st'.all.length : Int)) = true := decide_eq_true hmost
            have hx := LM.out hmost
            have hr : R0 = ⟨-1, false, st'.all⟩ := by rw [← HX.out.1, HFi.out.1, hx]; rfl
            have HRR := Aside0.mk hr
            have HLL := Aside0.mk hlen
            clear hx hr
            go_wp2_with fail
            go_ret2
            rw [HRR.out]
            exact ⟨rfl, st', HSP.out, rfl, by dsimp only; omega, by dsimp only; omega⟩
          · have c2 : decide (most < (st'.all.length : Int)) = false := decide_eq_false hmost
            go_wp2_with fail
            have HEN : Aside0 (endB m two ⟨pa, pb, pap⟩ = ((pap == two) && ((rd_Node m pa).f0 == 4) && ((rd_Node m pb).f0 == 4))) := ⟨rfl⟩
            generalize (rd_Node m pa).f0 = ka at *
            generalize (rd_Node m pb).f0 = kb at *
            by_cases b0 : (pap == two) = true
            · by_cases b1 : (ka == 4) = true
              · by_cases b2 : (kb == 4) = true
                · go_quiet (fail)
                  go_wp2_with fail
                  have hr : R0 = ⟨a, true, st'.all⟩ := by rw [← HX.out.1, HFi.out.1, LE.out hmost (by rw [HEN.out, b0, b1, b2]; rfl)]; rfl
                  have HRR := Aside0.mk hr
                  have HLL := Aside0.mk hlen
                  have hdr := HSP.out.drew nq
                  clear hr
                  go_ret2
                  rw [HRR.out]
                  exact ⟨rfl, st', hdr, rfl, by dsimp only; omega, by dsimp only; omega⟩
                · replace b2 := Bool.eq_false_iff.2 b2
                  go_quiet (fail)
                  go_wp2_with fail
                  refine (HSC.out _ _ st' ⟨pa, pb, pap⟩ a ⟨hp0, hp1, hp2⟩ ⟨by omega, ha1⟩ (HSP.out.drew nq)).mono ?_
                  rintro e w5 ⟨rfl, hS5, hK5⟩
                  have HS5 := Aside0.mk hS5
                  have hgd := goL_diff a (sprL m ⟨pa, pb, pap⟩) st'
                  have hgl := goL_len st' (sprL m ⟨pa, pb, pap⟩) a
                  have hx := LO.out hmost (by rw [HEN.out, b2]; simp)
                  rw [show topP m - i = topP m + 1 - (i + 1) by omega] at hx
                  have HXX := Aside0.mk hx
                  clear hS5 hK5 hx
                  generalize goL st' (sprL m ⟨pa, pb, pap⟩) a = stn at *
                  go_wp2_with fail
                  exact ⟨⟨i + 1, stn, by go_num, by omega, HS5, ⟨HFi.out.1.trans HXX.out, by have := HFi.out.2; omega, by have := HFi.out.2; omega⟩⟩, by simp [intOf]; omega⟩
              · replace b1 := Bool.eq_false_iff.2 b1
                go_quiet (fail)
                go_wp2_with fail
                refine (HSC.out _ _ st' ⟨pa, pb, pap⟩ a ⟨hp0, hp1, hp2⟩ ⟨by omega, ha1⟩ (HSP.out.drew nq)).mono ?_
                rintro e w5 ⟨rfl, hS5, hK5⟩
                have HS5 := Aside0.mk hS5
                have hgd := goL_diff a (sprL m ⟨pa, pb, pap⟩) st'
                have hgl := goL_len st' (sprL m ⟨pa, pb, pap⟩) a
                have hx := LO.out hmost (by rw [HEN.out, b1]; simp)
                rw [show topP m - i = topP m + 1 - (i + 1) by omega] at hx
                have HXX := Aside0.mk hx
                clear hS5 hK5 hx
                generalize goL st' (sprL m ⟨pa, pb, pap⟩) a = stn at *
                go_wp2_with fail
                exact ⟨⟨i + 1, stn, by go_num, by omega, HS5, ⟨HFi.out.1.trans HXX.out, by have := HFi.out.2; omega, by have := HFi.out.2; omega⟩⟩, by simp [intOf]; omega⟩
            · replace b0 := Bool.eq_false_iff.2 b0
              go_quiet (fail)
              go_wp2_with fail
              refine (HSC.out _ _ st' ⟨pa, pb, pap⟩ a ⟨hp0, hp1, hp2⟩ ⟨by omega, ha1⟩ (HSP.out.drew nq)).mono ?_
              rintro e w5 ⟨rfl, hS5, hK5⟩
              have HS5 := Aside0.mk hS5
              have hgd := goL_diff a (sprL m ⟨pa, pb, pap⟩) st'
              have hgl := goL_len st' (sprL m ⟨pa, pb, pap⟩) a
              have hx := LO.out hmost (by rw [HEN.out, b0]; simp)
              rw [show topP m - i = topP m + 1 - (i + 1) by omega] at hx
              have HXX := Aside0.mk hx
              clear hS5 hK5 hx
              generalize goL st' (sprL m ⟨pa, pb, pap⟩) a = stn at *
              go_wp2_with fail
              exact ⟨⟨i + 1, stn, by go_num, by omega, HS5, ⟨HFi.out.1.trans HXX.out, by have := HFi.out.2; omega, by have := HFi.out.2; omega⟩⟩, by simp [intOf]; omega⟩
        · obtain rfl : i = st'.now.length := by omega
          have HHI := Aside0.mk hil
          have hstop := lvlF_stop m two most (topP m - st'.now.length) st'.now.length st' hil
          rw [← hfu] at hstop
          have HST := Aside0.mk hstop
          have HLL := Aside0.mk hlen
          have hbig : st'.now.length ≤ 2000000 := by omega
          obtain ⟨sN, lN⟩ := sr_next HSi.out f3
          have HSN := Aside0.mk sN
          have HLN := Aside0.mk lN
          have HIN := Aside0.mk HSi.out.ok.now
          have hfz := HSi.out.mem
          obtain ⟨v1, v3, D, bS, _⟩ := hfz
          have z3 := bS.free 3
          clear bS hnow hall hfu hstop hsmall hlen sN lN
          go_wp2_with fail
          generalize wr.setCell ⟨g, 3, none⟩ (.slice none 0 0) = w9 at *
          clear f0 f1 f3 z3
          go_loopw [96] (fun iv wr => ∃ j : Nat, iv = .int .i64 j ∧ j ≤ st'.now.length ∧ Aside0 (SrAt w0 wr m g gm A c (fun k => k < w0.heap.size ∨ (Value.slice A3 st'.now.length k3).ownBlock = some k) (nextTo m st' j)) ∧ Aside0 (Kept3 w9 wr (fun k => k < w0.heap.size ∨ (Value.slice A3 st'.now.length k3).ownBlock = some k))) (fun iv _ => st'.now.length - (intOf iv).toNat)
          case atStart => exact ⟨0, rfl, Nat.zero_le _, HSN, ⟨Kept3.refl _ _⟩⟩
          case round =>
            obtain ⟨j, rfl, hj, HSj, HKj⟩ := hrel
            by_cases hjl : j < st'.now.length
            · obtain ⟨a3, hA3, n0⟩ := HLN.out wr HKj.out j hjl
              subst hA3
              have hat := HIN.out _ (getD_mem st'.now j 0 hjl)
              obtain ⟨kk, hkk⟩ := nextTo_all m st' j
              have hst := nextTo_step m st' j hjl
              obtain ⟨A1, k1, A4, k4, f0, f1, f3, _, hall⟩ := sr_cells HSj.out
              have hat2 : st'.now.getD j 0 < (nextTo m st' j).all.length := by rw [hkk, List.length_append]; omega
              obtain ⟨a1, hA1, x0, x1, x2⟩ := hall _ hat.1 hat2
              subst hA1
              have hpin := HSj.out.ok.inn _ (stp_mem hat.1 hat2)
              have ha0 := hat.1
              have HST2 := Aside0.mk hst
              clear hall hkk hst hat
              generalize nextTo m st' j = stj at *
              generalize st'.now.getD j 0 = a at *
              generalize hpgen : (stpAt stj.all a).p = p at *
              obtain ⟨pa, pb, pap⟩ := p
              dsimp only at x0 x1 x2
              have HPG := Aside0.mk hpgen
              have c0 : decide (0 ≤ a) = true := decide_eq_true ha0
              have c1 : decide (a < (stj.all.length : Int)) = true := decide_eq_true hat2
              have e1 : (j : Int) < (st'.now.length : Int) := by omega
              have e2 : (0 : Int) ≤ j := by omega
              clear hpgen
              go_wp2_with fail
              refine (HEC.out _ _ stj ⟨pa, pb, pap⟩ a hpin ⟨by omega, hat2⟩ HSj.out).mono ?_
              rintro e w7 ⟨rfl, hS7, hK7⟩
              go_wp2_with fail
              exact ⟨⟨j + 1, by go_num, by omega, ⟨by rw [HST2.out]; exact hS7⟩, ⟨HKj.out.trans hK7⟩⟩, by simp [intOf]; omega⟩
            · obtain rfl : j = st'.now.length := by omega
              have hnx : runF m two most d (nextLvl m st') = R0 := by rw [← HX.out.1, HFi.out.1, HST.out]; rfl
              have hnd := nextTo_diff m st' st'.now.length
              have hns := HSj.out.small
              rw [nextTo_full] at hnd hns
              have hsn := HSj.out.more (RowKit.Below.refl _ _) (L' := fun k => k < w0.heap.size) (fun k hk => .inl (.inl hk))
              rw [nextTo_full] at hsn
              have HSN2 := Aside0.mk hsn
              have HNX := Aside0.mk hnx
              have h3 := HFi.out.2
              have h4 := HX.out.2
              have h5 := HLL.out
              have h6 := HZ.out
              obtain ⟨kk, hkk⟩ := nextTo_all m st' st'.now.length
              have hkl := congrArg List.length hkk
              rw [nextTo_full, List.length_append] at hkl
              have hms : topP m + 1 - ((nextLvl m st').all.length - (nextLvl m st').now.length) < d := by omega
              have HMS := Aside0.mk hms
              clear hnd hns hsn hnx h3 h4 h5 h6 hkk hkl hms
              go_wp2_with fail
              go_roundg d
              case measure => omega
              case rel => exact ⟨_, HSN2, ⟨HNX.out, HMS.out⟩⟩

end Go.Proofs.Ytcbflajacioinaa

/- twin: a search; Twin, Short, Empty. -/
set_option linter.unusedSimpArgs false
set_option linter.unusedVariables false
namespace Go.Proofs.Ytcbflajacioinaa
open Go.RowKit Go.Shelf Go.Proofs.YtcbflajacioinaaW.PrintWords Go.Proofs.YtcbflajacioinaaW.PrintLast

set_option maxRecDepth 100000 in
set_option maxHeartbeats 1000000 in
theorem tof_none (m : List Node) (A : Option Addr) (c : Nat) (hN : ∀ x ∈ m, NodeOk x) (hM : mayB m = false) (w : World) (hC : kNode.C w A m.length m) :
    Calls Try.prog 36 #[.slice A m.length c] w fun e w' => e = .returned (.pointer none) ∧ RowKit.Below w.heap.size w w' := by
  have hm : m.length ≤ 9223372036854775807 := hC.2.1
  go_enter Try.func36, Try.ntmps36
  go_wp2_with (go_at_call 39; refine (may_calls A c m hN _ hC hm).mono ?_; rintro e w2 ⟨rfl, hb2⟩)
  go_ret
  exact ⟨rfl, hb2⟩

set_option maxRecDepth 100000 in
set_option maxHeartbeats 1000000 in
theorem tof_some (m : List Node) (A : Option Addr) (c : Nat) (hN : ∀ x ∈ m, NodeOk x) (hM : mayB m = true) (w : World) (hC : kNode.C w A m.length m) :
    Calls Try.prog 36 #[.slice A m.length c] w fun e w' => ∃ g gm, e = .returned (.pointer (some ⟨g, 0, none⟩)) ∧ SrAt w w' m g gm A c (fun k => k < w.heap.size) ⟨[], []⟩ := by
  have hm : m.length ≤ 9223372036854775807 := hC.2.1
  have hmm := @run_makeMap Try.prog
  go_enter Try.func36, Try.ntmps36
  go_wp2_with (go_at_call 39; refine (may_calls A c m hN _ hC hm).mono ?_; rintro e w2 ⟨rfl, hb2⟩)
  go_ret
  have h1 := World.ownsMap_made w2 Try.prog 92 (plainElem (H := Value) Try.prog 4)
  have hb3 := hb2.alloc hb2.size (.map #[] 0)
  have hb4 := hb3.alloc (by rw [World.size_alloc]; have := hb2.size; omega) (.cells #[.slice A m.length c, .slice none 0 0, .map (some w2.heap.size), .slice none 0 0] 89)
  have hs2 := hb2.size
  have hB := Blk.new (w2.alloc (.map #[] 0)) 89 #[.slice A m.length c, .slice none 0 0, .map (some w2.heap.size), .slice none 0 0]
  rw [World.size_alloc] at hB
  refine ⟨w2.heap.size + 1, w2.heap.size, rfl, hb4, ⟨by simp, by simp, by simp, by simp, by simp, Nat.le_refl _⟩, ⟨by omega, by omega, by omega, by omega, fun k hk => by simp; omega⟩, .slice none 0 0, .slice none 0 0, _, hB, World.ownsRow_nil _ _ _ _, World.ownsRow_nil _ _ _ _, World.ownsMap.alloc h1 _, ?_, (fun k hk => by cases hk), (fun k hk => by cases hk)⟩
  intro p hp
  simp [seenP, DataW.atKey]

/-- What Twin, and Short, tell. -/
def twinP (m : List Node) (most : Int) : List Int × Bool × Int :=
  if mayB m = true then
    (if (runP m true most).ok = false then ([], false, 7)
     else if (runP m true most).at_ < 0 then ([], false, 0)
     else (textP (runP m true most).all (runP m true most).at_, true, 0))
  else ([], false, 1)
def shortP (m : List Node) : List Int × Bool :=
  if mayB m = true then
    (if (runP m false (2 * m.length * m.length + 1)).at_ < 0 then ([], false)
     else (textP (runP m false (2 * m.length * m.length + 1)).all (runP m false (2 * m.length * m.length + 1)).at_, true))
  else ([], false)

set_option maxRecDepth 100000 in
set_option maxHeartbeats 1000000 in
theorem twin_calls (m : List Node) (A : Option Addr) (c : Nat) (hN : ∀ x ∈ m, NodeOk x) (hm : m.length ≤ 1000) (hF : ∀ x ∈ m, x.f2.length ≤ 1000000) (most : Int) (w : World) (hC : kNode.C w A m.length m) :
    Calls Try.prog 23 #[.slice A m.length c, .int .i64 most] w fun e w' => e = .returned (.tuple #[.string (strOfNums (twinP m most).1), .bool (twinP m most).2.1, .int .i64 (twinP m most).2.2]) ∧ RowKit.Below w.heap.size w w' := by
  cases hM : mayB m
  · have hr : twinP m most = ([], false, 1) := by unfold twinP; rw [if_neg (by rw [hM]; simp)]
    rw [hr]
    go_enter Try.func23, Try.ntmps23
    go_wp2_with (go_at_call 36; refine (tof_none m A c hN hM _ hC).mono ?_; rintro e w2 ⟨rfl, hb2⟩)
    go_ret3
    exact ⟨rfl, hb2⟩
  · have hr : twinP m most = (if (runP m true most).ok = false then ([], false, 7) else if (runP m true most).at_ < 0 then ([], false, 0) else (textP (runP m true most).all (runP m true most).at_, true, 0)) := by unfold twinP; rw [if_pos hM]
    have RC := fun W g gm h => run_calls w m g gm A c hC hM hN hm hF true most W h
    generalize hR : runP m true most = R at *
    obtain ⟨at_, ok, all⟩ := R
    dsimp only at hr RC
    have HRC := Aside0.mk RC
    have HRR := Aside0.mk hr
    clear RC hr hR
    cases ok
    · rw [HRR.out.trans (if_pos rfl)]
      go_enter Try.func23, Try.ntmps23
      go_wp2_with (first
        | (go_at_call 36; refine (tof_some m A c hN hM _ hC).mono ?_; rintro e w2 ⟨g, gm, rfl, hS2⟩; have HS2 := Aside0.mk hS2; clear hS2)
        | (go_at_call 37; refine (HRC.out _ _ _ HS2.out).mono ?_; rintro e w3 ⟨rfl, st', hS3, _⟩; have HS3 := Aside0.mk hS3; clear hS3))
      go_ret3
      exact ⟨rfl, HS3.out.bel⟩
    · by_cases hat : at_ < 0
      · rw [HRR.out.trans ((if_neg (by simp)).trans (if_pos hat))]
        have d1 : decide (at_ < 0) = true := decide_eq_true hat
        go_enter Try.func23, Try.ntmps23
        go_wp2_with (first
          | (go_at_call 36; refine (tof_some m A c hN hM _ hC).mono ?_; rintro e w2 ⟨g, gm, rfl, hS2⟩; have HS2 := Aside0.mk hS2; clear hS2)
          | (go_at_call 37; refine (HRC.out _ _ _ HS2.out).mono ?_; rintro e w3 ⟨rfl, st', hS3, _⟩; have HS3 := Aside0.mk hS3; clear hS3))
        go_ret3
        exact ⟨rfl, HS3.out.bel⟩
      · rw [HRR.out.trans ((if_neg (by simp)).trans (if_neg hat))]
        have d1 : decide (at_ < 0) = false := decide_eq_false hat
        go_enter Try.func23, Try.ntmps23
        go_wp2_with (first
          | (go_at_call 36; refine (tof_some m A c hN hM _ hC).mono ?_; rintro e w2 ⟨g, gm, rfl, hS2⟩; have HS2 := Aside0.mk hS2; clear hS2)
          | (go_at_call 37; refine (HRC.out _ _ _ HS2.out).mono ?_; rintro e w3 ⟨rfl, st', hS3, hall, h0, h1⟩; subst hall; have HS3 := Aside0.mk hS3; clear hS3)
          | (go_at_call 38; refine (text_calls w m g gm A c hm _ st' at_ ⟨h0, h1⟩ _ HS3.out).mono ?_; rintro e w4 ⟨rfl, hb4⟩))
        go_ret3
        exact ⟨rfl, HS3.out.bel.trans (hb4.mono HS3.out.bel.size)⟩

set_option maxRecDepth 100000 in
set_option maxHeartbeats 1000000 in
theorem short_calls (m : List Node) (A : Option Addr) (c : Nat) (hN : ∀ x ∈ m, NodeOk x) (hm : m.length ≤ 1000) (hF : ∀ x ∈ m, x.f2.length ≤ 1000000) (w : World) (hC : kNode.C w A m.length m) :
    Calls Try.prog 26 #[.slice A m.length c] w fun e w' => e = .returned (.tuple #[.string (strOfNums (shortP m).1), .bool (shortP m).2]) ∧ RowKit.Below w.heap.size w w' := by
  cases hM : mayB m
  · have hr : shortP m = ([], false) := by unfold shortP; rw [if_neg (by rw [hM]; simp)]
    rw [hr]
    go_enter Try.func26, Try.ntmps26
    go_wp2_with (go_at_call 36; refine (tof_none m A c hN hM _ hC).mono ?_; rintro e w2 ⟨rfl, hb2⟩)
    go_ret2
    exact ⟨rfl, hb2⟩
  · have hr : shortP m = (if (runP m false (2 * m.length * m.length + 1)).at_ < 0 then ([], false) else (textP (runP m false (2 * m.length * m.length + 1)).all (runP m false (2 * m.length * m.length + 1)).at_, true)) := by unfold shortP; rw [if_pos hM]
    have RC := fun W g gm h => run_calls w m g gm A c hC hM hN hm hF false (2 * m.length * m.length + 1) W h
    have hbig : (2 * m.length * m.length : Int) ≤ 2000000 := by
      have : 2 * m.length * m.length ≤ 2 * 1000 * 1000 := Nat.mul_le_mul (Nat.mul_le_mul (Nat.le_refl _) hm) hm
      exact Int.ofNat_le.2 this
    have hbig0 : (0 : Int) ≤ 2 * m.length * m.length := Int.natCast_nonneg (2 * m.length * m.length)
    have hmost : wrap64 (wrap64 (wrap64 (2 * (m.length : Int)) * (m.length : Int)) + 1) = 2 * m.length * m.length + 1 := by
      rw [w64 (2 * (m.length : Int)) (by omega), w64 (2 * (m.length : Int) * (m.length : Int)) (by omega), w64 _ (by omega)]
    generalize hR : runP m false (2 * m.length * m.length + 1) = R at *
    obtain ⟨at_, ok, all⟩ := R
    dsimp only at hr RC
    have HRC := Aside0.mk RC
    have HRR := Aside0.mk hr
    clear RC hr hR
    by_cases hat : at_ < 0
    · rw [HRR.out.trans (if_pos hat)]
      have d1 : decide (at_ < 0) = true := decide_eq_true hat
      go_enter Try.func26, Try.ntmps26
      go_wp2_with (first
        | (go_at_call 36; refine (tof_some m A c hN hM _ hC).mono ?_; rintro e w2 ⟨g, gm, rfl, hS2⟩; have HS2 := Aside0.mk hS2; clear hS2)
        | (go_at_call 37; refine (HRC.out _ _ _ HS2.out).mono ?_; rintro e w3 ⟨rfl, st', hS3, _⟩; have HS3 := Aside0.mk hS3; clear hS3))
      go_ret2
      exact ⟨rfl, HS3.out.bel⟩
    · rw [HRR.out.trans (if_neg hat)]
      have d1 : decide (at_ < 0) = false := decide_eq_false hat
      go_enter Try.func26, Try.ntmps26
      go_wp2_with (first
        | (go_at_call 36; refine (tof_some m A c hN hM _ hC).mono ?_; rintro e w2 ⟨g, gm, rfl, hS2⟩; have HS2 := Aside0.mk hS2; clear hS2)
        | (go_at_call 37; refine (HRC.out _ _ _ HS2.out).mono ?_; rintro e w3 ⟨rfl, st', hS3, hall, h0, h1⟩; subst hall; have HS3 := Aside0.mk hS3; clear hS3)
        | (go_at_call 38; refine (text_calls w m g gm A c hm _ st' at_ ⟨h0, h1⟩ _ HS3.out).mono ?_; rintro e w4 ⟨rfl, hb4⟩))
      go_ret2
      exact ⟨rfl, HS3.out.bel.trans (hb4.mono HS3.out.bel.size)⟩

set_option maxRecDepth 100000 in
set_option maxHeartbeats 1000000 in
theorem empty_calls (m : List Node) (A : Option Addr) (c : Nat) (hN : ∀ x ∈ m, NodeOk x) (hm : m.length ≤ 1000) (hF : ∀ x ∈ m, x.f2.length ≤ 1000000) (w : World) (hC : kNode.C w A m.length m) :
    Calls Try.prog 27 #[.slice A m.length c] w fun e w' => e = .returned (.bool (!(shortP m).2)) ∧ RowKit.Below w.heap.size w w' := by
  go_enter Try.func27, Try.ntmps27
  go_wp2_with (go_at_call 26; refine (short_calls m A c hN hm hF _ hC).mono ?_; rintro e w2 ⟨rfl, hb2⟩)
  go_ret
  exact ⟨rfl, hb2⟩

end Go.Proofs.Ytcbflajacioinaa

/- twin: what holds of all pairs that are reached; a machine with no fork. Plain Lean. -/
set_option linter.unusedVariables false
namespace Go.Proofs.Ytcbflajacioinaa
open Go.RowKit Go.Shelf Go.Proofs.YtcbflajacioinaaW.PrintWords Go.Proofs.YtcbflajacioinaaW.PrintLast

theorem sr_zero {m : List Node} {st : SrS} (h : SrOk m st) : SrOk m ⟨st.all, []⟩ := ⟨h.inn, h.one, h.src, h.byte, (fun i hi => by simp at hi), Nat.zero_le _⟩
theorem sr_start {m : List Node} (hm : mayB m = true) : SrOk m (reachP ⟨[], []⟩ ⟨0, 0, false⟩ (-1) 0 false) := by
  have hl := mayB_len hm
  refine reach_ok ⟨by simp, by simp, by simp, by simp, by simp, Nat.le_refl _⟩ ?_ ⟨by omega, by simp⟩ ⟨by omega, by omega⟩ false
  unfold PrAt; dsimp only; omega
def AllJ (J : Pr → Prop) (st : SrS) : Prop := ∀ x ∈ st.all, J x.p
theorem reach_J {J : Pr → Prop} {st : SrS} {p : Pr} {src c : Int} {ate : Bool} (h : AllJ J st) (hp : J (normP p)) : AllJ J (reachP st p src c ate) := by
  unfold reachP
  split
  · exact h
  · intro x hx
    rcases List.mem_append.1 hx with hx | hx
    · exact h x hx
    · obtain rfl := List.mem_singleton.1 hx
      exact hp
theorem goL_J {J : Pr → Prop} {src : Int} : ∀ (l : List Pr) {st : SrS}, AllJ J st → (∀ q ∈ l, J (normP q)) → AllJ J (goL st l src)
  | [], _, h, _ => h
  | q :: l, st, h, hq => goL_J l (reach_J (src := src) (c := 0) (ate := false) h (hq q List.mem_cons_self)) (fun x hx => hq x (List.mem_cons_of_mem _ hx))
theorem goE_J {J : Pr → Prop} {src : Int} : ∀ (l : List (Pr × Int)) {st : SrS}, AllJ J st → (∀ q ∈ l, J (normP q.1)) → AllJ J (goE st l src)
  | [], _, h, _ => h
  | q :: l, st, h, hq => goE_J l (reach_J (src := src) (c := q.2) (ate := true) h (hq q List.mem_cons_self)) (fun x hx => hq x (List.mem_cons_of_mem _ hx))
structure Clos (m : List Node) (J : Pr → Prop) : Prop where
  spr : ∀ p, PrIn m p → J p → ∀ q ∈ sprL m p, J (normP q)
  eat : ∀ p, PrIn m p → J p → ∀ q ∈ eatL m p, J (normP q.1)
structure RunOk (m : List Node) (two : Bool) (most : Int) (J : Pr → Prop) (r : Fnd) : Prop where
  all : ∀ x ∈ r.all, J x.p
  small : r.all.length ≤ topP m
  much : r.ok = false → (r.all.length : Int) > most
  fnd : 0 ≤ r.at_ → r.at_ < r.all.length ∧ endB m two (stpAt r.all r.at_).p = true
theorem lvlF_J {m : List Node} {two : Bool} {most : Int} (hm : mayB m = true) {J : Pr → Prop} (hJ : Clos m J) : ∀ (d i : Nat) (st : SrS), SrOk m st → AllJ J st →
    (SrOk m (lvlF m two most d i st).2 ∧ AllJ J (lvlF m two most d i st).2) ∧ ∀ f, (lvlF m two most d i st).1 = some f → RunOk m two most J f
  | 0, i, st, h, hj => ⟨⟨h, hj⟩, fun f hf => by simp [lvlF] at hf⟩
  | d + 1, i, st, h, hj => by
    by_cases h1 : i < st.now.length
    · by_cases h2 : (st.all.length : Int) > most
      · rw [lvlF_much _ _ _ _ _ _ h1 h2]
        refine ⟨⟨h, hj⟩, fun f hf => ?_⟩
        obtain rfl := Option.some.inj hf
        exact ⟨hj, all_le h, fun _ => h2, fun h0 => absurd (show (0 : Int) ≤ -1 from h0) (by decide)⟩
      · have hat := h.now _ (getD_mem st.now i 0 h1)
        by_cases h3 : endB m two (stpAt st.all (st.now.getD i 0)).p = true
        · rw [lvlF_end _ _ _ _ _ _ h1 h2 h3]
          refine ⟨⟨h, hj⟩, fun f hf => ?_⟩
          obtain rfl := Option.some.inj hf
          exact ⟨hj, all_le h, (fun hh => by cases hh), fun _ => ⟨hat.2, h3⟩⟩
        · rw [lvlF_on _ _ _ _ _ _ h1 h2 h3]
          have hp := h.inn _ (stp_mem hat.1 hat.2)
          exact lvlF_J hm hJ d (i + 1) _ (goL_ok _ h (spr_in hm hp) ⟨by omega, hat.2⟩) (goL_J _ hj (hJ.spr _ hp (hj _ (stp_mem hat.1 hat.2))))
    · rw [lvlF_stop _ _ _ _ _ _ h1]
      exact ⟨⟨h, hj⟩, fun f hf => by cases hf⟩
theorem foldE_J {m : List Node} (hm : mayB m = true) (hN : ∀ x ∈ m, NodeOk x) {J : Pr → Prop} (hJ : Clos m J) : ∀ (l : List Int) (s : SrS), SrOk m s → AllJ J s → (∀ i ∈ l, 0 ≤ i ∧ i < s.all.length) →
    SrOk m (l.foldl (fun s at_ => goE s (eatL m (stpAt s.all at_).p) at_) s) ∧ AllJ J (l.foldl (fun s at_ => goE s (eatL m (stpAt s.all at_).p) at_) s)
  | [], _, h, hj, _ => ⟨h, hj⟩
  | a :: l, s, h, hj, hl => by
    have hat := hl a List.mem_cons_self
    have hp := h.inn _ (stp_mem hat.1 hat.2)
    have h1 := goE_ok (src := a) (eatL m (stpAt s.all a).p) h (eat_in hm hN hp) ⟨by omega, hat.2⟩
    have h2 := goE_J (src := a) (eatL m (stpAt s.all a).p) hj (hJ.eat _ hp (hj _ (stp_mem hat.1 hat.2)))
    obtain ⟨k, hk⟩ := goE_all (src := a) (eatL m (stpAt s.all a).p) s
    exact foldE_J hm hN hJ l _ h1 h2 (fun i hi => by
      have := hl i (List.mem_cons_of_mem _ hi)
      rw [hk, List.length_append]; omega)
theorem next_J {m : List Node} (hm : mayB m = true) (hN : ∀ x ∈ m, NodeOk x) {J : Pr → Prop} (hJ : Clos m J) {st : SrS} (h : SrOk m st) (hj : AllJ J st) : SrOk m (nextLvl m st) ∧ AllJ J (nextLvl m st) :=
  foldE_J hm hN hJ st.now ⟨st.all, []⟩ (sr_zero h) hj h.now
theorem runF_J {m : List Node} {two : Bool} {most : Int} (hm : mayB m = true) (hN : ∀ x ∈ m, NodeOk x) {J : Pr → Prop} (hJ : Clos m J) : ∀ (d : Nat) (st : SrS), SrOk m st → AllJ J st → RunOk m two most J (runF m two most d st)
  | 0, st, h, hj => ⟨hj, all_le h, (fun hh => by cases hh), fun h0 => absurd (show (0 : Int) ≤ -1 from h0) (by decide)⟩
  | d + 1, st, h, hj => by
    by_cases hz : st.now.length = 0
    · rw [runF, if_pos hz]
      exact ⟨hj, all_le h, (fun hh => by cases hh), fun h0 => absurd (show (0 : Int) ≤ -1 from h0) (by decide)⟩
    · rw [runF_go _ _ _ _ _ hz]
      obtain ⟨⟨a1, a2⟩, a3⟩ := lvlF_J (two := two) (most := most) hm hJ (topP m + 1) 0 st h hj
      unfold aftL
      generalize lvlF m two most (topP m + 1) 0 st = x at a1 a2 a3
      obtain ⟨x1, x2⟩ := x
      cases x1 with
      | some f => exact a3 f rfl
      | none =>
        obtain ⟨b1, b2⟩ := next_J hm hN hJ a1 a2
        exact runF_J hm hN hJ d _ b1 b2
theorem runP_J {m : List Node} (two : Bool) (most : Int) (hm : mayB m = true) (hN : ∀ x ∈ m, NodeOk x) {J : Pr → Prop} (hJ : Clos m J) (h0 : J ⟨0, 0, false⟩) : RunOk m two most J (runP m two most) :=
  runF_J hm hN hJ _ _ (sr_start hm) (fun x hx => by
    have : x = ⟨⟨0, 0, false⟩, -1, 0, false⟩ := by simpa [reachP, seenP, normP] using hx
    rw [this]; exact h0)

/-! #### no fork -/
theorem both_one {n : Int} {l : List Edge} (h : eatsB n l = true) {e o : Edge} (he : e ∈ l) (ho : o ∈ l) (hb : bothB e o = true) : e = o := by
  have hp := eats_apart h
  have hb := of_decide_eq_true hb
  have h1 := eats_edge h e he
  have h2 := eats_edge h o ho
  obtain ⟨i, hi, rfl⟩ := List.mem_iff_getElem.1 he
  obtain ⟨j, hj, rfl⟩ := List.mem_iff_getElem.1 ho
  rcases Nat.lt_trichotomy i j with hij | hij | hij
  · have := List.pairwise_iff_getElem.1 hp i j hi hj hij
    unfold edgesApart at this; omega
  · subst hij; rfl
  · have := List.pairwise_iff_getElem.1 hp j i hj hi hij
    unfold edgesApart at this; omega
def OneJ (p : Pr) : Prop := p.a = p.b ∧ p.ap = false
theorem noFork_clos {m : List Node} (hm : mayB m = true) (hf : ∀ x ∈ m, x.f0 ≠ 2) : Clos m OneJ := by
  refine ⟨fun p hp hj q hq => ?_, fun p hp hj q hq => ?_⟩
  · obtain ⟨a, b, ap⟩ := p
    obtain ⟨rfl, rfl⟩ : a = b ∧ ap = false := hj
    obtain ⟨h0, h1, h2⟩ := hp
    dsimp only at h0 h1 h2
    have hlen : (freeP m a).length ≤ 1 := by
      have hr := mayB_right hm a h0 h2
      have hk := hf _ (rd_Node_mem m a h0 h2)
      unfold freeP
      split
      · simp
      · rcases right_kind hr with k | k | k | k
        · rw [(right_eat hr k).2.1]; simp
        · exact absurd k hk
        · contradiction
        · rw [(right_end hr k).2.1]; simp
    unfold sprL at hq
    dsimp only at hq
    rw [if_neg (by simp), List.append_nil] at hq
    obtain ⟨i, hi, hq⟩ := List.mem_flatMap.1 hq
    have hi := List.mem_range.1 hi
    obtain rfl : i = 0 := by omega
    unfold sprAt at hq
    dsimp only at hq
    rw [if_neg (by simp), List.take_zero, List.map_nil] at hq
    obtain rfl := List.mem_singleton.1 hq
    unfold OneJ normP
    dsimp only
    exact ⟨by omega, rfl⟩
  · obtain ⟨a, b, ap⟩ := p
    obtain ⟨rfl, rfl⟩ : a = b ∧ ap = false := hj
    obtain ⟨h0, h1, h2⟩ := hp
    dsimp only at h0 h1 h2
    have hr := mayB_right hm a h0 h2
    unfold eatL at hq
    obtain ⟨e, he, hq⟩ := List.mem_flatMap.1 hq
    unfold eatAt at hq
    obtain ⟨o, ho, rfl⟩ := List.mem_map.1 hq
    obtain ⟨ho, hb⟩ := List.mem_filter.1 ho
    have heo : e = o := by
      rcases right_kind hr with k | k | k | k
      · exact both_one (right_eat hr k).1 he ho hb
      · exact absurd k (hf _ (rd_Node_mem m a h0 h2))
      · rw [(right_mark hr k).2.2.1] at he; cases he
      · rw [(right_end hr k).1] at he; cases he
    subst heo
    unfold OneJ normP
    dsimp only
    exact ⟨by omega, rfl⟩
theorem endB_ap {m : List Node} {two : Bool} {p : Pr} (h : endB m two p = true) : p.ap = two ∧ (rd_Node m p.a).f0 = 4 ∧ (rd_Node m p.b).f0 = 4 := by
  unfold endB at h
  simpa [and_assoc] using h
theorem twin_noFork {m : List Node} {most : Int} (hm : mayB m = true) (hN : ∀ x ∈ m, NodeOk x) (hf : ∀ x ∈ m, x.f0 ≠ 2) (hmost : (topP m : Int) ≤ most) : twinP m most = ([], false, 0) := by
  have h := runP_J true most hm hN (noFork_clos hm hf) ⟨rfl, rfl⟩
  have hok : (runP m true most).ok = true := by
    cases hc : (runP m true most).ok
    · have := h.much hc; have := h.small; omega
    · rfl
  have hat : (runP m true most).at_ < 0 := by
    by_cases h0 : 0 ≤ (runP m true most).at_
    · obtain ⟨h1, h2⟩ := h.fnd h0
      have h3 := (h.all _ (stp_mem h0 h1)).2
      have h4 := (endB_ap h2).1
      rw [h3] at h4
      cases h4
    · omega
  unfold twinP
  rw [if_pos hm, if_neg (by rw [hok]; simp), if_pos hat]

end Go.Proofs.Ytcbflajacioinaa

/- The law's own (layer 20): the small machines of awake. -/
set_option linter.unusedSimpArgs false
set_option linter.unusedVariables false
namespace Go.Proofs.Ytcbflajacioinaa
open Go.RowKit Go.Shelf Go.Proofs.YtcbflajacioinaaW.PrintWords Go.Proofs.YtcbflajacioinaaW.PrintLast Go.Proofs.Ytcbflajacioinaa.P

/-- A block reads as elements, where its cells do. -/
theorem C_blk {α : Type} (k : Kd α) {W : World} {g : Nat} {t : TypeId} {xs : List α} {css : List (List Value)} {cs : Array Value} (hb : Blk W g t cs) (hcs : cs = css.flatten.toArray) (hlen : css.length = xs.length) (hn : xs.length ≤ 9223372036854775807)
    (hK : ∀ (j : Nat) x c, xs[j]? = some x → css[j]? = some c → k.K W x c) : k.C W (some ⟨g, 0, none⟩) xs.length xs := by
  subst hcs
  refine ⟨rfl, hn, fun _ => ⟨_, rfl, fun j p hj => ?_⟩⟩
  have hjl : j < xs.length := (List.getElem?_eq_some_iff.1 hj).1
  have hcs : css[j]? = some css[j] := List.getElem?_eq_getElem (by omega)
  have hk := hK j p _ hj hcs
  have hall : ∀ c ∈ css, c.length = k.sz := fun c hc => by
    obtain ⟨i, hi, rfl⟩ := List.mem_iff_getElem.1 hc
    exact k.K_len (hK i _ _ (List.getElem?_eq_getElem (by omega)) (List.getElem?_eq_getElem hi))
  refine ⟨_, k.K_len hk, hk, fun i u hu => ?_⟩
  have hi : i < k.sz := by have := (List.getElem?_eq_some_iff.1 hu).1; rwa [k.K_len hk] at this
  rw [add_plain]
  have h1 := hb.cell (j * k.sz + i)
  rw [List.getElem?_toArray] at h1
  refine h1.trans ?_
  exact (flatten_get css hall j i (by omega) hi).trans hu
theorem ints_blk {W : World} {g : Nat} {t : TypeId} {cs : Array Value} (l : List Int) (hb : Blk W g t cs) (hcs : cs = (l.map (Value.int .i64)).toArray) (hn : l.length ≤ 9223372036854775807) : (Kd.int .i64).C W (some ⟨g, 0, none⟩) l.length l :=
  C_blk (Kd.int .i64) (css := l.map (fun x => [Value.int .i64 x])) hb (by
    rw [hcs]; congr 1
    clear hcs hb hn
    induction l with
    | nil => rfl
    | cons a l ih => simp [ih]) (by simp) hn (fun j x c hx hc => by
    rw [List.getElem?_map, hx] at hc
    obtain rfl : [Value.int .i64 x] = c := by simpa using hc
    rfl)

theorem C_conv {α β : Type} (d : Kd α) (d' : Kd β) (f : α → β) (hs : d.sz = d'.sz) {w : World} {A : Option Addr} {n : Nat} {xs : List α} (hK : ∀ x cs, d.K w x cs → d'.K w (f x) cs) (h : d.C w A n xs) : d'.C w A n (xs.map f) := by
  obtain ⟨h1, h2, h3⟩ := h
  refine ⟨by rw [List.length_map]; exact h1, h2, fun h0 => ?_⟩
  obtain ⟨ad, hA, hh⟩ := h3 h0
  refine ⟨ad, hA, fun j p hj => ?_⟩
  rw [List.getElem?_map] at hj
  obtain ⟨x, hx, rfl⟩ := Option.map_eq_some_iff.1 hj
  obtain ⟨cs, c1, c2, c3⟩ := hh j x hx
  exact ⟨cs, by rw [← hs]; exact c1, hK x cs c2, fun i u hu => by have := c3 i u hu; rwa [hs] at this⟩
def e52 (x : S52) : Edge := ⟨x.f0, x.f1, x.f2⟩
theorem C_e52 {w : World} {A : Option Addr} {n : Nat} {xs : List S52} (h : k52.C w A n xs) : kEdge.C w A n (xs.map e52) :=
  C_conv k52 kEdge e52 rfl (fun x cs hx => by
    obtain rfl := k52_open hx
    exact kEdge_mk w (e52 x)) h
def n49 (x : S49) : Node := ⟨x.f0, x.f1.map e52, x.f2, x.f3, x.f4⟩
theorem C_n49 {w : World} {A : Option Addr} {n : Nat} {xs : List S49} (h : k49.C w A n xs) : kNode.C w A n (xs.map n49) :=
  C_conv k49 kNode n49 rfl (fun x cs hx => by
    obtain ⟨A1, c1, A2, c2, rfl, l1, g1, l2, g2⟩ := k49_open hx
    have h1 := C_e52 g1
    have := kNode_mk w (n49 x) (A1 := A1) (c1 := c1) (by unfold n49; dsimp only; rw [List.length_map]; exact l1) (by unfold n49; dsimp only; rw [List.length_map]; exact h1) (A2 := A2) (c2 := c2) l2 g2
    unfold n49 at this
    dsimp only at this
    rw [List.length_map] at this
    exact this) h

def eatN (c t : Int) : Node := ⟨1, [⟨c, c, t⟩], [], 0, 0⟩
def endN : Node := ⟨4, [], [], 0, 0⟩
theorem eatN_K {W : World} (c t : Int) {A : Option Addr} {k : Nat} {A' : Option Addr} {k' : Nat} (hk : 1 ≤ k) (hC : kEdge.C W A 1 [⟨c, c, t⟩]) : kNode.K W (eatN c t) [.int .i64 1, .slice A 1 k, .slice A' 0 k', .int .i64 0, .int .i64 0] :=
  kNode_mk W (eatN c t) (A1 := A) (c1 := k) hk hC (A2 := A') (c2 := k') (Nat.zero_le _) (C_nil _ _ _)
theorem endN_K (W : World) : kNode.K W endN [.int .i64 4, .slice none 0 0, .slice none 0 0, .int .i64 0, .int .i64 0] :=
  kNode_mk W endN (A1 := none) (c1 := 0) (Nat.le_refl _) (C_nil _ _ _) (A2 := none) (c2 := 0) (Nat.le_refl _) (C_nil _ _ _)
theorem forkN_K {W : World} (l : List Int) {A : Option Addr} {k : Nat} (hk : l.length ≤ k) (hC : (Kd.int .i64).C W A l.length l) : kNode.K W ⟨2, [], l, 0, 0⟩ [.int .i64 2, .slice none 0 0, .slice A l.length k, .int .i64 0, .int .i64 0] :=
  kNode_mk W ⟨2, [], l, 0, 0⟩ (A1 := none) (c1 := 0) (Nat.le_refl _) (C_nil _ _ _) (A2 := A) (c2 := k) hk hC
theorem eatN_ok (c t : Int) (h : 0 ≤ c ∧ c ≤ 255) (h2 : -9223372036854775808 ≤ t ∧ t ≤ 9223372036854775807) : NodeOk (eatN c t) := by
  refine ⟨fun e he => ?_, by simp [eatN], by simp [eatN]⟩
  obtain rfl : e = ⟨c, c, t⟩ := by simpa [eatN] using he
  unfold EdgeOk
  dsimp only
  omega
theorem endN_ok : NodeOk endN := ⟨fun e he => (by cases he), by decide, by decide⟩

theorem eater_calls (t : Int) (w : World) :
    Calls Try.prog 34 #[.int .i64 t] w fun e w' => ∃ A c A' c', e = .returned (.agg #[.int .i64 1, .slice A 1 c, .slice A' 0 c', .int .i64 0, .int .i64 0]) ∧ 1 ≤ c ∧ kEdge.C w' A 1 [⟨97, 97, t⟩] ∧ RowKit.Below w.heap.size w w' := by
  refine (phalaropelaw20_eater.calls t 1 [⟨97, 97, t⟩] [] 0 0 w rfl).mono ?_
  rintro e w' ⟨v1, v2, rfl, h1, h2, hb⟩
  obtain ⟨A, c, rfl, hc, hC⟩ := Kd.R_reads h1
  obtain ⟨A', c', rfl, _, _⟩ := Kd.R_reads h2
  exact ⟨A, c, A', c', rfl, hc, C_e52 hC, hb⟩

def mA1 : List Node := [⟨2, [], [1, 2], 0, 0⟩, eatN 97 3, eatN 97 3, endN]
def mA2 : List Node := [eatN 97 1, endN]
theorem mA1_twin : twinP mA1 1000 = ([97], true, 0) := by kernel_rfl
theorem mA2_twin : twinP mA2 1000 = ([], false, 0) := by kernel_rfl
theorem mA1_short : shortP mA1 = ([97], true) := by kernel_rfl
theorem mA1_ok : ∀ x ∈ mA1, NodeOk x := by
  intro x hx
  simp only [mA1, List.mem_cons, List.not_mem_nil, or_false] at hx
  rcases hx with rfl | rfl | rfl | rfl
  · exact ⟨fun e he => (by cases he), by decide, by decide⟩
  · exact eatN_ok _ _ (by omega) (by omega)
  · exact eatN_ok _ _ (by omega) (by omega)
  · exact endN_ok
theorem mA2_ok : ∀ x ∈ mA2, NodeOk x := by
  intro x hx
  simp only [mA2, List.mem_cons, List.not_mem_nil, or_false] at hx
  rcases hx with rfl | rfl
  · exact eatN_ok _ _ (by omega) (by omega)
  · exact endN_ok

def mA3 : List Node := [⟨2, [], [1, 1], 0, 0⟩, endN]
theorem mA3_twin : twinP mA3 1000 = ([], true, 0) := by kernel_rfl
theorem mA3_ok : ∀ x ∈ mA3, NodeOk x := by
  intro x hx
  simp only [mA3, List.mem_cons, List.not_mem_nil, or_false] at hx
  rcases hx with rfl | rfl
  · exact ⟨fun e he => (by cases he), by decide, by decide⟩
  · exact endN_ok
theorem mA3_C {W : World} {g h : Nat} (hb : Blk W g 49 #[.int .i64 2, .slice none 0 0, .slice (some ⟨h, 0, none⟩) 2 2, .int .i64 0, .int .i64 0, .int .i64 4, .slice none 0 0, .slice none 0 0, .int .i64 0, .int .i64 0]) (hi : Blk W h 3 #[.int .i64 1, .int .i64 1]) : kNode.C W (some ⟨g, 0, none⟩) 2 mA3 :=
  C_blk kNode (xs := mA3) (css := [[.int .i64 2, .slice none 0 0, .slice (some ⟨h, 0, none⟩) 2 2, .int .i64 0, .int .i64 0], [.int .i64 4, .slice none 0 0, .slice none 0 0, .int .i64 0, .int .i64 0]]) hb rfl rfl (by decide) (fun j x c hx hc => by
    match j, hx, hc with
    | 0, hx, hc => obtain rfl := Option.some.inj hx; obtain rfl := Option.some.inj hc; exact forkN_K [1, 1] (Nat.le_refl _) (ints_blk [1, 1] hi rfl (by decide))
    | 1, hx, hc => obtain rfl := Option.some.inj hx; obtain rfl := Option.some.inj hc; exact endN_K W)
theorem mA2_C {W : World} {g : Nat} {A A' : Option Addr} {c c' : Nat} (hb : Blk W g 49 #[.int .i64 1, .slice A 1 c, .slice A' 0 c', .int .i64 0, .int .i64 0, .int .i64 4, .slice none 0 0, .slice none 0 0, .int .i64 0, .int .i64 0]) (hc : 1 ≤ c) (hC : kEdge.C W A 1 [⟨97, 97, 1⟩]) : kNode.C W (some ⟨g, 0, none⟩) 2 mA2 :=
  C_blk kNode (xs := mA2) (css := [[.int .i64 1, .slice A 1 c, .slice A' 0 c', .int .i64 0, .int .i64 0], [.int .i64 4, .slice none 0 0, .slice none 0 0, .int .i64 0, .int .i64 0]]) hb rfl rfl (by decide) (fun j x cs hx hcs => by
    match j, hx, hcs with
    | 0, hx, hcs => obtain rfl := Option.some.inj hx; obtain rfl := Option.some.inj hcs; exact eatN_K 97 1 hc hC
    | 1, hx, hcs => obtain rfl := Option.some.inj hx; obtain rfl := Option.some.inj hcs; exact endN_K W)
theorem mA1_C {W : World} {g h : Nat} {A A' B B' : Option Addr} {c c' d d' : Nat} (hb : Blk W g 49 #[.int .i64 2, .slice none 0 0, .slice (some ⟨h, 0, none⟩) 2 2, .int .i64 0, .int .i64 0, .int .i64 1, .slice A 1 c, .slice A' 0 c', .int .i64 0, .int .i64 0, .int .i64 1, .slice B 1 d, .slice B' 0 d', .int .i64 0, .int .i64 0, .int .i64 4, .slice none 0 0, .slice none 0 0, .int .i64 0, .int .i64 0])
    (hi : Blk W h 3 #[.int .i64 1, .int .i64 2]) (hc : 1 ≤ c) (hC : kEdge.C W A 1 [⟨97, 97, 3⟩]) (hd : 1 ≤ d) (hD : kEdge.C W B 1 [⟨97, 97, 3⟩]) : kNode.C W (some ⟨g, 0, none⟩) 4 mA1 :=
  C_blk kNode (xs := mA1) (css := [[.int .i64 2, .slice none 0 0, .slice (some ⟨h, 0, none⟩) 2 2, .int .i64 0, .int .i64 0], [.int .i64 1, .slice A 1 c, .slice A' 0 c', .int .i64 0, .int .i64 0], [.int .i64 1, .slice B 1 d, .slice B' 0 d', .int .i64 0, .int .i64 0], [.int .i64 4, .slice none 0 0, .slice none 0 0, .int .i64 0, .int .i64 0]]) hb rfl rfl (by decide) (fun j x cs hx hcs => by
    match j, hx, hcs with
    | 0, hx, hcs => obtain rfl := Option.some.inj hx; obtain rfl := Option.some.inj hcs; exact forkN_K [1, 2] (Nat.le_refl _) (ints_blk [1, 2] hi rfl (by decide))
    | 1, hx, hcs => obtain rfl := Option.some.inj hx; obtain rfl := Option.some.inj hcs; exact eatN_K 97 3 hc hC
    | 2, hx, hcs => obtain rfl := Option.some.inj hx; obtain rfl := Option.some.inj hcs; exact eatN_K 97 3 hd hD
    | 3, hx, hcs => obtain rfl := Option.some.inj hx; obtain rfl := Option.some.inj hcs; exact endN_K W)

set_option maxRecDepth 100000 in
set_option maxHeartbeats 1000000 in
theorem awake20_calls (w : World) :
    Calls Try.prog 20 #[] w fun e w' => e = .returned (.bool true) ∧ RowKit.Below w.heap.size w w' := by
  have t1 := fun (W : World) (A : Option Addr) (c : Nat) (h : kNode.C W A 4 mA1) => twin_calls mA1 A c mA1_ok (by decide) (by decide) 1000 W h
  have t2 := fun (W : World) (A : Option Addr) (c : Nat) (h : kNode.C W A 2 mA2) => twin_calls mA2 A c mA2_ok (by decide) (by decide) 1000 W h
  have t3 := fun (W : World) (A : Option Addr) (c : Nat) (h : kNode.C W A 4 mA1) => short_calls mA1 A c mA1_ok (by decide) (by decide) W h
  have t4 := fun (W : World) (A : Option Addr) (c : Nat) (h : kNode.C W A 4 mA1) => empty_calls mA1 A c mA1_ok (by decide) (by decide) W h
  rw [mA1_twin] at t1
  rw [mA2_twin] at t2
  rw [mA1_short] at t3 t4
  rw [show mA1.length = 4 from rfl] at t1 t3 t4
  rw [show mA2.length = 2 from rfl] at t2
  have T1 := Aside0.mk t1
  have T2 := Aside0.mk t2
  have T3 := Aside0.mk t3
  have T4 := Aside0.mk t4
  have hA : strOfNums [97] = ⟨#[97]⟩ := by kernel_rfl
  have h0 : strOfNums [] = ⟨#[]⟩ := by kernel_rfl
  clear t1 t2 t3 t4
  have bI := Blk.new w 3 #[.int .i64 1, .int .i64 2]
  have hb0 := below_alloc (RowKit.Below.refl w.heap.size w) (.cells #[.int .i64 1, .int .i64 2] 3)
  have hlt : w.heap.size < (w.alloc (.cells #[.int .i64 1, .int .i64 2] 3)).heap.size := by simp
  have HI := Aside0.mk bI
  have HB0 := Aside0.mk hb0
  clear bI hb0
  go_enter Try.func20, Try.ntmps20
  go_wp2_with fail
  generalize w.alloc (.cells #[.int .i64 1, .int .i64 2] 3) = W0 at *
  refine (eater_calls 3 _).mono ?_
  rintro e w1 ⟨A1, c1, A1', c1', rfl, hc1, hE1, hb1⟩
  have HE1 := Aside0.mk hE1
  have HB1 := Aside0.mk hb1
  clear hE1 hb1
  go_wp2_with fail
  refine (eater_calls 3 _).mono ?_
  rintro e w2 ⟨A2, c2, A2', c2', rfl, hc2, hE2, hb2⟩
  have HE2 := Aside0.mk hE2
  have HB2 := Aside0.mk hb2
  clear hE2 hb2
  go_wp2_with fail
  have hb3 := below_alloc (RowKit.Below.refl w2.heap.size w2) (.cells #[.int .i64 2, .slice none 0 0, .slice (some ⟨w.heap.size, 0, none⟩) 2 2, .int .i64 0, .int .i64 0, .int .i64 1, .slice A1 1 c1, .slice A1' 0 c1', .int .i64 0, .int .i64 0, .int .i64 1, .slice A2 1 c2, .slice A2' 0 c2', .int .i64 0, .int .i64 0, .int .i64 4, .slice none 0 0, .slice none 0 0, .int .i64 0, .int .i64 0] 49)
  have bN := Blk.new w2 49 #[.int .i64 2, .slice none 0 0, .slice (some ⟨w.heap.size, 0, none⟩) 2 2, .int .i64 0, .int .i64 0, .int .i64 1, .slice A1 1 c1, .slice A1' 0 c1', .int .i64 0, .int .i64 0, .int .i64 1, .slice A2 1 c2, .slice A2' 0 c2', .int .i64 0, .int .i64 0, .int .i64 4, .slice none 0 0, .slice none 0 0, .int .i64 0, .int .i64 0]
  have hI3 : Blk w2 w.heap.size 3 #[.int .i64 1, .int .i64 2] := (HB2.out.block _ (Nat.lt_of_lt_of_le hlt HB1.out.size)).trans ((HB1.out.block _ hlt).trans HI.out)
  have hI4 : Blk _ w.heap.size 3 #[.int .i64 1, .int .i64 2] := (hb3.block _ (Nat.lt_of_lt_of_le hlt (Nat.le_trans HB1.out.size HB2.out.size))).trans hI3
  have hC3 := mA1_C bN hI4 hc1 (Kd.C_below (Kd.C_below HE1.out HB2.out) hb3) hc2 (Kd.C_below HE2.out hb3)
  have HBB : Aside0 (RowKit.Below w.heap.size w (w2.alloc (.cells #[.int .i64 2, .slice none 0 0, .slice (some ⟨w.heap.size, 0, none⟩) 2 2, .int .i64 0, .int .i64 0, .int .i64 1, .slice A1 1 c1, .slice A1' 0 c1', .int .i64 0, .int .i64 0, .int .i64 1, .slice A2 1 c2, .slice A2' 0 c2', .int .i64 0, .int .i64 0, .int .i64 4, .slice none 0 0, .slice none 0 0, .int .i64 0, .int .i64 0] 49))) := ⟨((HB0.out.trans (HB1.out.mono HB0.out.size)).trans (HB2.out.mono (HB0.out.trans (HB1.out.mono HB0.out.size)).size)).trans (hb3.mono ((HB0.out.trans (HB1.out.mono HB0.out.size)).trans (HB2.out.mono (HB0.out.trans (HB1.out.mono HB0.out.size)).size)).size)⟩
  have HC3 := Aside0.mk hC3
  clear bN hb3 hI3 hI4 hC3 HE1 HE2 HB1 HB2 HB0 HI hlt
  generalize w2.alloc (.cells #[.int .i64 2, .slice none 0 0, .slice (some ⟨w.heap.size, 0, none⟩) 2 2, .int .i64 0, .int .i64 0, .int .i64 1, .slice A1 1 c1, .slice A1' 0 c1', .int .i64 0, .int .i64 0, .int .i64 1, .slice A2 1 c2, .slice A2' 0 c2', .int .i64 0, .int .i64 0, .int .i64 4, .slice none 0 0, .slice none 0 0, .int .i64 0, .int .i64 0] 49) = W3 at *
  refine (T1.out W3 _ _ HC3.out).mono ?_
  rintro e w4 ⟨rfl, hb4⟩
  have HC4 := Aside0.mk (Kd.C_below HC3.out hb4)
  have HB4 := Aside0.mk (HBB.out.trans (hb4.mono HBB.out.size))
  clear hb4 HBB HC3
  go_wp2_with fail
  refine (eater_calls 1 _).mono ?_
  rintro e w5 ⟨A5, c5, A5', c5', rfl, hc5, hE5, hb5⟩
  have HE5 := Aside0.mk hE5
  have HC5 := Aside0.mk (Kd.C_below HC4.out hb5)
  have HB5 := Aside0.mk (HB4.out.trans (hb5.mono HB4.out.size))
  clear hE5 hb5 HC4 HB4
  go_wp2_with fail
  have hb6 := below_alloc (RowKit.Below.refl w5.heap.size w5) (.cells #[.int .i64 1, .slice A5 1 c5, .slice A5' 0 c5', .int .i64 0, .int .i64 0, .int .i64 4, .slice none 0 0, .slice none 0 0, .int .i64 0, .int .i64 0] 49)
  have bN := Blk.new w5 49 #[.int .i64 1, .slice A5 1 c5, .slice A5' 0 c5', .int .i64 0, .int .i64 0, .int .i64 4, .slice none 0 0, .slice none 0 0, .int .i64 0, .int .i64 0]
  have hC6 := mA2_C bN hc5 (Kd.C_below HE5.out hb6)
  have HC6 := Aside0.mk hC6
  have HC6' := Aside0.mk (Kd.C_below HC5.out hb6)
  have HB6 := Aside0.mk (HB5.out.trans (hb6.mono HB5.out.size))
  clear bN hb6 hC6 HE5 HC5 HB5
  generalize w5.alloc (.cells #[.int .i64 1, .slice A5 1 c5, .slice A5' 0 c5', .int .i64 0, .int .i64 0, .int .i64 4, .slice none 0 0, .slice none 0 0, .int .i64 0, .int .i64 0] 49) = W6 at *
  refine (T2.out W6 _ _ HC6.out).mono ?_
  rintro e w7 ⟨rfl, hb7⟩
  have HC7 := Aside0.mk (Kd.C_below HC6'.out hb7)
  have HB7 := Aside0.mk (HB6.out.trans (hb7.mono HB6.out.size))
  clear hb7 HC6 HC6' HB6
  go_wp2_with fail
  refine (T3.out w7 _ _ HC7.out).mono ?_
  rintro e w8 ⟨rfl, hb8⟩
  have HC8 := Aside0.mk (Kd.C_below HC7.out hb8)
  have HB8 := Aside0.mk (HB7.out.trans (hb8.mono HB7.out.size))
  clear hb8 HC7 HB7
  rw [hA]
  go_wp2_with fail
  refine (T4.out w8 _ _ HC8.out).mono ?_
  rintro e w9 ⟨rfl, hb9⟩
  have HB9 := Aside0.mk (HB8.out.trans (hb9.mono HB8.out.size))
  clear hb9 HC8 HB8
  go_wp2_with fail
  go_ret
  exact ⟨rfl, HB9.out⟩

end Go.Proofs.Ytcbflajacioinaa

/- TwinLine: a machine that eats one text alone; what the search tells of it. Plain Lean. -/
set_option linter.unusedVariables false
namespace Go.Proofs.Ytcbflajacioinaa
open Go.RowKit Go.Shelf Go.Proofs.YtcbflajacioinaaW.PrintWords Go.Proofs.YtcbflajacioinaaW.PrintLast Go.Proofs.Ytcbflajacioinaa.P

/-! #### what line makes -/
def e49 (s : ByteArray) (j : Nat) : S49 := ⟨1, [⟨bt s j, bt s j, (j : Int) + 1⟩], [], 0, 0⟩
def line49 (s : ByteArray) : List S49 := (List.range s.size).map (e49 s) ++ [⟨4, [], [], 0, 0⟩]
theorem line_l0 (s : ByteArray) (hs : s.size ≤ 1000) : ∀ (d i : Nat), s.size - i = d → i ≤ s.size → Ev (fun k => phalaropelaw20_line.l0 k s ((List.range i).map (e49 s)) i) (line49 s) := by
  intro d
  induction d with
  | zero =>
    intro i hd hi
    obtain rfl : i = s.size := by omega
    refine Ev.step (fun k => ?_) (Ev.now _)
    rw [phalaropelaw20_line.l0, if_neg (by omega), if_pos (by simp; omega)]
    rfl
  | succ d ih =>
    intro i hd hi
    have h := ih (i + 1) (by omega) (by omega)
    refine Ev.step (fun k => ?_) h
    rw [phalaropelaw20_line.l0, if_pos (by omega), if_pos (by omega), if_pos (by simp; omega), w64 _ (by omega), List.range_succ, List.map_append]
    rfl
theorem line_eval (s : ByteArray) (hs : s.size ≤ 1000) : Ev (fun k => phalaropelaw20_line.f k s) (line49 s) := line_l0 s hs _ 0 rfl (Nat.zero_le _)
def lineN (s : ByteArray) : List Node := (List.range s.size).map (fun (j : Nat) => eatN (bt s j) ((j : Int) + 1)) ++ [endN]
theorem line_nodes (s : ByteArray) : (line49 s).map n49 = lineN s := by
  unfold line49 lineN
  rw [List.map_append, List.map_map]
  rfl
theorem lineN_len (s : ByteArray) : (lineN s).length = s.size + 1 := by simp [lineN]
theorem line49_len (s : ByteArray) : (line49 s).length = s.size + 1 := by simp [line49]
theorem lineN_at (s : ByteArray) (i : Nat) (hi : i < s.size) : rd_Node (lineN s) (i : Int) = eatN (bt s i) ((i : Int) + 1) := by
  unfold rd_Node lineN
  rw [Int.toNat_natCast, List.getD_eq_getElem?_getD, List.getElem?_append_left (by simpa using hi), List.getElem?_map, List.getElem?_range hi]
  rfl
theorem lineN_end (s : ByteArray) : rd_Node (lineN s) (s.size : Int) = endN := by
  unfold rd_Node lineN
  rw [Int.toNat_natCast, List.getD_eq_getElem?_getD, List.getElem?_append_right (by simp)]
  simp
theorem lineN_may (s : ByteArray) (hs : s.size ≤ 1000) : mayB (lineN s) = true := by
  unfold mayB
  simp only [Bool.and_eq_true, decide_eq_true_eq, List.all_eq_true]
  rw [lineN_len]
  refine ⟨by omega, fun i hi => ?_⟩
  have hi := List.mem_range.1 hi
  by_cases h : i < s.size
  · rw [lineN_at s i h]
    unfold rightB eatN
    rw [if_pos rfl]
    have h1 : eatsB ((s.size + 1 : Nat) : Int) [(⟨bt s i, bt s i, (i : Int) + 1⟩ : Edge)] = true := by
      unfold eatsB edgeGood
      simp
      omega
    simpa using h1
  · obtain rfl : i = s.size := by omega
    rw [lineN_end]
    unfold rightB endN
    rfl
theorem lineN_mem {s : ByteArray} {x : Node} (hx : x ∈ lineN s) : (∃ i : Nat, i < s.size ∧ x = eatN (bt s i) ((i : Int) + 1)) ∨ x = endN := by
  unfold lineN at hx
  rcases List.mem_append.1 hx with hx | hx
  · obtain ⟨i, hi, rfl⟩ := List.mem_map.1 hx
    exact .inl ⟨i, List.mem_range.1 hi, rfl⟩
  · exact .inr (List.mem_singleton.1 hx)
theorem lineN_ok (s : ByteArray) (hs : s.size ≤ 1000) : ∀ x ∈ lineN s, NodeOk x := by
  intro x hx
  rcases lineN_mem hx with ⟨i, hi, rfl⟩ | rfl
  · exact eatN_ok _ _ (bt_range s i) (by omega)
  · exact endN_ok
theorem lineN_noFork (s : ByteArray) : ∀ x ∈ lineN s, x.f0 ≠ 2 := by
  intro x hx
  rcases lineN_mem hx with ⟨i, hi, rfl⟩ | rfl
  · exact (by decide : (1 : Int) ≠ 2)
  · exact (by decide : (4 : Int) ≠ 2)
theorem lineN_f2 (s : ByteArray) : ∀ x ∈ lineN s, x.f2.length ≤ 1000000 := by
  intro x hx
  rcases lineN_mem hx with ⟨i, hi, rfl⟩ | rfl
  · exact Nat.zero_le _
  · exact Nat.zero_le _

/-! #### what the search tells -/
def stepK (s : ByteArray) : Nat → Stp
  | 0 => ⟨⟨0, 0, false⟩, -1, 0, false⟩
  | j + 1 => ⟨⟨(j : Int) + 1, (j : Int) + 1, false⟩, j, bt s j, true⟩
def allK (s : ByteArray) (k : Nat) : List Stp := (List.range (k + 1)).map (stepK s)
theorem stepK_p (s : ByteArray) (j : Nat) : (stepK s j).p = ⟨j, j, false⟩ := by cases j <;> rfl
theorem allK_len (s : ByteArray) (k : Nat) : (allK s k).length = k + 1 := by simp [allK]
theorem allK_at (s : ByteArray) (k j : Nat) (h : j ≤ k) : stpAt (allK s k) (j : Int) = stepK s j := by
  unfold stpAt allK
  rw [Int.toNat_natCast, List.getD_eq_getElem?_getD, List.getElem?_map, List.getElem?_range (by omega)]
  rfl
theorem allK_src (s : ByteArray) (k : Nat) : ∀ (i : Nat) (x : Stp), (allK s k)[i]? = some x → -1 ≤ x.src ∧ x.src < i := by
  intro i x hx
  unfold allK at hx
  rw [List.getElem?_map] at hx
  obtain ⟨j, hj, rfl⟩ := Option.map_eq_some_iff.1 hx
  obtain ⟨h1, h2⟩ := List.getElem?_eq_some_iff.1 hj
  rw [List.getElem_range] at h2
  subst h2
  cases i with
  | zero => exact ⟨Int.le_refl _, (by decide : (-1 : Int) < 0)⟩
  | succ i => unfold stepK; dsimp only; omega
theorem backK (s : ByteArray) (n : Nat) : ∀ k, k ≤ n → backP (allK s n) (k : Int) = ((List.range k).map (fun (i : Nat) => bt s i)).reverse
  | 0, h => by
    rw [backP_step (allK_src s n) (by omega) (by rw [allK_len]; omega), show ((0 : Nat) : Int) = ((0 : Nat) : Int) from rfl, allK_at s n 0 (Nat.zero_le _)]
    unfold stepK
    dsimp only
    rw [backP_neg (by decide)]
    rfl
  | k + 1, h => by
    rw [backP_step (allK_src s n) (by omega) (by rw [allK_len]; omega), allK_at s n (k + 1) h]
    unfold stepK
    dsimp only
    rw [backK s n k (by omega), List.range_succ, List.map_append, List.reverse_append]
    rfl
theorem line_run (s : ByteArray) (hs : s.size ≤ 1000) (most : Int) (hmost : (s.size : Int) + 1 ≤ most) : ∀ (d k : Nat), k ≤ s.size → s.size - k < d → runF (lineN s) false most d ⟨allK s k, [(k : Int)]⟩ = ⟨s.size, true, allK s s.size⟩ := by
  intro d
  induction d with
  | zero => intro k _ h; omega
  | succ d ih =>
    intro k hk hd
    rw [runF_go _ _ _ _ _ (by simp)]
    have h1 : (0 : Nat) < (⟨allK s k, [(k : Int)]⟩ : SrS).now.length := by simp
    have h2 : ¬ ((⟨allK s k, [(k : Int)]⟩ : SrS).all.length : Int) > most := by dsimp only; rw [allK_len]; omega
    have hat : stpAt (allK s k) (([(k : Int)] : List Int).getD 0 0) = stepK s k := allK_at s k k (Nat.le_refl _)
    by_cases hkn : k = s.size
    · subst hkn
      rw [lvlF_end _ _ _ _ _ _ h1 h2 (by
        dsimp only
        rw [hat, stepK_p]
        unfold endB
        dsimp only
        rw [lineN_end]
        rfl)]
      rfl
    · have hlt : k < s.size := by omega
      rw [lvlF_on _ _ _ _ _ _ h1 h2 (by
        dsimp only
        rw [hat, stepK_p]
        unfold endB
        dsimp only
        rw [lineN_at s k hlt]
        exact Bool.false_ne_true)]
      have hsp : sprL (lineN s) (stpAt (allK s k) (([(k : Int)] : List Int).getD 0 0)).p = [] := by
        rw [hat, stepK_p]
        unfold sprL freeP
        dsimp only
        rw [lineN_at s k hlt]
        rfl
      dsimp only
      rw [hsp]
      have hgo : goL ⟨allK s k, [(k : Int)]⟩ [] (([(k : Int)] : List Int).getD 0 0) = ⟨allK s k, [(k : Int)]⟩ := rfl
      rw [hgo]
      have hst : ∀ D, lvlF (lineN s) false most D (0 + 1) ⟨allK s k, [(k : Int)]⟩ = (none, ⟨allK s k, [(k : Int)]⟩) := fun D => by
        cases D with
        | zero => rfl
        | succ D => exact lvlF_stop _ _ _ _ _ _ (by simp)
      rw [hst]
      have hnx : nextLvl (lineN s) ⟨allK s k, [(k : Int)]⟩ = ⟨allK s (k + 1), [((k + 1 : Nat) : Int)]⟩ := by
        unfold nextLvl
        dsimp only
        rw [List.foldl_cons, List.foldl_nil]
        dsimp only
        have hat' : stpAt (allK s k) (k : Int) = stepK s k := allK_at s k k (Nat.le_refl _)
        rw [hat', stepK_p]
        have he : eatL (lineN s) ⟨(k : Int), (k : Int), false⟩ = [(⟨(k : Int) + 1, (k : Int) + 1, false⟩, bt s k)] := by
          unfold eatL
          dsimp only
          rw [lineN_at s k hlt]
          unfold eatN eatAt bothB
          simp
        rw [he]
        have hr : goE ⟨allK s k, []⟩ [((⟨(k : Int) + 1, (k : Int) + 1, false⟩ : Pr), bt s k)] (k : Int) = reachP ⟨allK s k, []⟩ ⟨(k : Int) + 1, (k : Int) + 1, false⟩ k (bt s k) true := rfl
        rw [hr]
        have hn : normP ⟨(k : Int) + 1, (k : Int) + 1, false⟩ = ⟨(k : Int) + 1, (k : Int) + 1, false⟩ := by unfold normP; simp
        have hns : ¬ seenP (allK s k) ⟨(k : Int) + 1, (k : Int) + 1, false⟩ = true := fun h => by
          obtain ⟨x, hx, e⟩ := List.mem_map.1 (seen_iff.1 h)
          unfold allK at hx
          obtain ⟨j, hj, rfl⟩ := List.mem_map.1 hx
          have hj := List.mem_range.1 hj
          rw [stepK_p] at e
          injection e with e1 e2 e3
          omega
        unfold reachP
        rw [hn, if_neg hns]
        dsimp only
        rw [allK_len]
        unfold allK
        rw [List.range_succ (n := k + 1), List.map_append]
        rfl
      show runF (lineN s) false most d (nextLvl (lineN s) ⟨allK s k, [(k : Int)]⟩) = _
      rw [hnx]
      exact ih (k + 1) (by omega) (by omega)
theorem line_bytes (s : ByteArray) : strOfNums ((List.range s.size).map (fun (i : Nat) => bt s i)) = s := by
  apply ByteArray.ext
  apply Array.ext'
  rw [strOfNums_data, List.map_map]
  apply List.ext_getElem
  · simp
    try rfl
  · intro i h1 h2
    simp only [List.getElem_map, List.getElem_range, Function.comp]
    have hi : i < s.size := by simpa using h1
    rw [← bt_at s (i : Int) (by simpa using hi)]
    simp
    try rfl
theorem line_short (s : ByteArray) (hs : s.size ≤ 1000) : shortP (lineN s) = ((List.range s.size).map (fun (i : Nat) => bt s i), true) := by
  have hst : reachP ⟨[], []⟩ ⟨0, 0, false⟩ (-1) 0 false = ⟨allK s 0, [((0 : Nat) : Int)]⟩ := rfl
  have hr : runP (lineN s) false (2 * (lineN s).length * (lineN s).length + 1) = ⟨s.size, true, allK s s.size⟩ := by
    unfold runP
    rw [hst]
    refine line_run s hs _ ?_ _ 0 (Nat.zero_le _) ?_
    · rw [lineN_len]
      have : (s.size + 1) * 1 ≤ 2 * (s.size + 1) * (s.size + 1) := Nat.mul_le_mul (by omega) (by omega)
      have h2 : ((s.size + 1 : Nat) : Int) ≤ ((2 * (s.size + 1) * (s.size + 1) : Nat) : Int) := Int.ofNat_le.2 (by omega)
      push_cast at h2 ⊢
      omega
    · unfold topP
      rw [lineN_len]
      have : (s.size + 1) * 1 ≤ 2 * (s.size + 1) * (s.size + 1) := Nat.mul_le_mul (by omega) (by omega)
      omega
  unfold shortP
  rw [if_pos (lineN_may s hs), hr]
  dsimp only
  rw [if_neg (by omega), textP_eq, backK s s.size s.size (Nat.le_refl _), List.reverse_reverse]
theorem line_twin (s : ByteArray) (hs : s.size ≤ 1000) : twinP (lineN s) (2 * (lineN s).length * (lineN s).length) = ([], false, 0) :=
  twin_noFork (lineN_may s hs) (lineN_ok s hs) (lineN_noFork s) (by unfold topP; push_cast; exact Int.le_refl _)

end Go.Proofs.Ytcbflajacioinaa
