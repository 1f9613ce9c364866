/- Abstract code tells what the machine's code does. -/
import Derived.Test.YtljfbnbmcemdcaaGreatDoorAgDraw
set_option linter.unusedVariables false
namespace Go.Ag
open Go
open Go.RowKit (Below)

variable {T : Tab} {g : Ghost} {w : World} {H : Heap} {K KP : AVal → Heap → Prop} {e : Env} {a : Act} {n : Nat}

theorem QOK.le {L : Lnk} {g0 g : Ghost} {n : Nat} {Q : AExit → Env → Heap → Prop} {ex : Exit} {a : Act} {w : World} (h : QOK L g n Q ex a w) (hg : g0.le g) : QOK L g0 n Q ex a w := by
  have s : ∀ K, SOK L g n K a w → SOK L g0 n K a w := fun K ⟨k1, e, H, g', k2, k3, k4⟩ => ⟨k1, e, H, g', k2, hg.trans k3, k4⟩
  cases ex with
  | normal => exact s _ h
  | exit i => exact s _ h
  | ret => exact s _ h
  | panic ch => obtain ⟨k1, v, x, e, H, g', k2, k3, k4, k5⟩ := h; exact ⟨k1, v, x, e, H, g', k2, k3, hg.trans k4, k5⟩
  | goto l => exact h
  | outgrown => exact h

theorem code_sound {m : Bool} {n : Nat} : ∀ (c : Code) (ac : AC), cCode m T n c = some ac → ∀ (Q : AExit → Env → Heap → Prop) (g0 g : Ghost) (a : Act) (w : World) (e : Env) (H : Heap), g0.le g → St T.L g w H → RepT T.L g n a.tmps e → a.defers = [] →
    xcode T.L ac e H Q → c.wp T.L.P (QOK T.L g0 n Q) a w := by
  intro c
  induction c with
  | skip => intro ac hc Q g0 g a w e H hg hs hr hd h; cases hc; exact wp_skip ⟨hd, e, H, g, h, hg, hs, hr⟩
  | label l => intro ac hc Q g0 g a w e H hg hs hr hd h; cases hc; exact wp_label ⟨hd, e, H, g, h, hg, hs, hr⟩
  | exit id => intro ac hc Q g0 g a w e H hg hs hr hd h; cases hc; exact wp_exit ⟨hd, e, H, g, h, hg, hs, hr⟩
  | ret => intro ac hc Q g0 g a w e H hg hs hr hd h; cases hc; exact wp_ret ⟨hd, e, H, g, h, hg, hs, hr⟩
  | region id ops d =>
    intro ac hc Q g0 g a w e H hg hs hr hd h
    simp only [cCode] at hc
    cases h1 : cOpers T n ops ops.toList with
    | none => simp only [h1] at hc; cases hc
    | some l =>
      simp only [h1] at hc
      have hKK : ∀ a w e' H' g, Q .normal e' H' → g0.le g → St T.L g w H' → RepT T.L g n a.tmps e' → a.defers = [] → QOK T.L g0 n Q .normal a w := fun a w e H g k1 k2 k3 k4 k5 => ⟨k5, e, H, g, k1, k2, k3, k4⟩
      have hPP : ∀ e' v x a w H' g, Q (.pan x) e' H' → g0.le g → St T.L g w H' → Rep T.L g v x → a.defers = [] → QOK T.L g0 n Q (.panic [⟨v, false, false⟩]) a w := fun e' v x a w H g k1 k2 k3 k4 k5 => ⟨k5, v, x, _, H, g, rfl, k1, k2, k3, k4⟩
      cases d with
      | true =>
        have key : ∀ E, drawOK false ops l (masks ops.toList []) E = true → T.L.P.follows .mixedOrders = true → ac = .draw (earlyL E 0 l) ((lateL E 0 l).map (·.2)) → (Code.region id ops true).wp T.L.P (QOK T.L g0 n Q) a w := by
          rintro E hok hm rfl
          exact draw_sound (T := T) (n := n) (g0 := g0) (Q := QOK T.L g0 n Q) (K := fun e' H' => Q .normal e' H') (KP := fun v H' => ∃ e', Q (.pan v) e' H') hm hok h1 hKK
            (fun v x a w H g ⟨e', k1⟩ => hPP e' v x a w H g k1) hg hs hr hd
            (xsoft_mono (fun e' H' hx => xops_mono (fun _ _ h => h) (fun _ _ h => ⟨_, h⟩) hx) h)
        simp only [if_true] at hc
        split at hc
        · rename_i hm
          split at hc
          · rename_i hok
            exact key _ hok hm (Option.some.inj hc).symm
          · split at hc
            · rename_i hok
              simp only [Bool.and_eq_true] at hok
              obtain rfl := Option.some.inj hc
              exact drawn_sound (T := T) (n := n) (g0 := g0) (Q := QOK T.L g0 n Q) (K := fun e' H' => Q .normal e' H') (KP := fun v H' => ∃ e', Q (.pan v) e' H') (P := fun e' => stays (loadsOf (earlyL _ 0 l)) e' H) hm hok.1.2 (fun _ => hok.2) h1 hKK
                (fun v x a w H g ⟨e', k1⟩ => hPP e' v x a w H g k1) (fun _ _ _ hp => hp) hg hs hr hd
                (xsoft_mono (fun e' H' hx => xlate_mono (fun _ h => h) (fun _ _ h => h) (fun _ _ h => ⟨_, h⟩) hx) h)
            · split at hc
              · rename_i hok
                exact key _ hok hm (Option.some.inj hc).symm
              · cases hc
        · cases hc
      | false =>
        simp only [Bool.false_eq_true, if_false] at hc
        cases hc
        refine wp_region ?_
        have := ops_sound (T := T) (n := n) (ops := ops) (g0 := g0) (K := fun e' H' => Q .normal e' H') (KP := fun v H' => Q (.pan v) e H') (Q := QOK T.L g0 n Q)
          hKK (fun v x a w H g => hPP e v x a w H g) ops.toList 0 l (by simp) h1 a w e H g hg hs hr hd h
        simpa [List.range_eq_range'] using this
  | seq x y ihx ihy =>
    intro ac hc Q g0 g a w e H hg hs hr hd h
    simp only [cCode] at hc
    cases h1 : cCode m T n x <;> cases h2 : cCode m T n y <;> simp only [h1, h2] at hc <;> cases hc
    rename_i ax ay
    refine wp_seq (wp_mono (ihx ax h1 _ g0 g a w e H hg hs hr hd h) fun ex a' w' hq => ?_)
    cases ex with
    | normal =>
      obtain ⟨k1, e', H', g', k2, k3, k4, k5⟩ := hq
      exact ihy ay h2 Q g0 g' a' w' e' H' k3 k4 k5 k1 k2
    | exit i => exact hq
    | goto l => exact hq
    | ret => exact hq
    | panic ch => exact hq
    | outgrown => exact hq
  | cond c x y ihx ihy =>
    intro ac hc Q g0 g a w e H hg hs hr hd h
    simp only [cCode] at hc
    cases h0 : cX T c <;> cases h1 : cCode m T n x <;> cases h2 : cCode m T n y <;> simp only [h0, h1, h2] at hc <;> cases hc
    rename_i cx ax ay
    have hrc := cX_rep h0 hr
    simp only [xcode] at h
    cases hb : ev e cx <;> simp only [hb] at h
    rename_i b
    rw [hb] at hrc
    refine wp_cond (rep_bool hrc) ?_
    cases b
    · exact ihy ay h2 Q g0 g a w e H hg hs hr hd h
    · exact ihx ax h1 Q g0 g a w e H hg hs hr hd h
  | block id c ih =>
    intro ac hc Q g0 g a w e H hg hs hr hd h
    obtain ⟨ax, h1, rfl⟩ := map_some hc
    refine wp_block (wp_mono (ih ax h1 _ g0 g a w e H hg hs hr hd h) fun ex a' w' hq => ?_)
    cases ex with
    | exit i =>
      obtain ⟨k1, e', H', g', k2, k3, k4, k5⟩ := hq
      show if i = id then _ else _
      simp only [blkQ] at k2
      cases hb : i == id <;> simp only [hb] at k2
      · rw [if_neg (by simpa using hb)]; exact ⟨k1, e', H', g', k2, k3, k4, k5⟩
      · rw [if_pos (by simpa using hb)]; exact ⟨k1, e', H', g', k2, k3, k4, k5⟩
    | normal => exact hq
    | goto l => exact hq
    | ret => exact hq
    | panic ch => exact hq
    | outgrown => exact hq
  | loop c ih =>
    intro ac hc Q g0 g a w e H hg hs hr hd h
    obtain ⟨ax, h1, rfl⟩ := map_some hc
    have key := h (fun e H => ∀ (g1 : Ghost) (a : Act) (w : World), g.le g1 → St T.L g1 w H → RepT T.L g1 n a.tmps e → a.defers = [] →
        ∀ (b : Frame) (k : List Item) (cs : List Frame), ∃ ex a' w', QOK T.L g n Q ex a' w' ∧ Arrives T.L.P (lone (b.at a (.code c :: .inLoop c :: k)) cs w) b k cs ex a' w') ?_ ?_
    · intro b k cs
      obtain ⟨ex, a', w', hq, harr⟩ := key g a w (Ghost.le.refl g) hs hr hd b k cs
      exact ⟨ex, a', w', hq.le hg, .of_steps (.one step_loop) harr⟩
    rotate_left
    · intro e1 e2 H1 K J he hK hw hlo hn hI g1 a1 w1 hg1 hs1 hr1 hd1
      have hs2 := hs1.forget hK hw hlo
      exact hI (g1.cut H1.length) a1 w1 (Ghost.le_cut hg1 fun i v hi => hs.new i v (by omega)) hs2 ⟨hr1.size, fun i => ((he i).1 _ _ (hr1.rep i)).cut (he i).2⟩ hd1
    · intro e H hx g2 a w hg hs hr hd b k cs
      obtain ⟨ex, a₁, w₁, hq, harr⟩ := ih ax h1 _ g g2 a w e H hg hs hr hd hx b (.inLoop c :: k) cs
      cases ex with
      | normal =>
        obtain ⟨k1, e', H', g', k2, k3, k4, k5⟩ := hq
        obtain ⟨ex₂, a₂, w₂, hq₂, harr₂⟩ := k2 g' a₁ w₁ k3 k4 k5 k1 b k cs
        exact ⟨ex₂, a₂, w₂, hq₂, .of_steps (Steps.trans harr (.one step_inLoop)) harr₂⟩
      | exit id => exact ⟨.exit id, a₁, w₁, hq, .pass (x := .inLoop c) rfl (fun _ _ => .inl (by simp)) harr⟩
      | goto l => exact hq.elim
      | ret => exact ⟨.ret, a₁, w₁, hq, .pass (x := .inLoop c) rfl (fun _ _ => .inl (by simp)) harr⟩
      | panic ch => exact ⟨.panic ch, a₁, w₁, hq, .pass (x := .inLoop c) rfl (fun _ _ => .inl (by simp)) harr⟩
      | outgrown => exact hq.elim
  | _ => intro ac hc; cases hc

/-! ### functions -/
theorem cRes_len : ∀ (rs : List ResultVar) (as : List ARes), cRes T rs = some as → as.length = rs.length
  | [], as, h => by cases h; rfl
  | .tmp t :: rs, as, h => by
    simp only [cRes] at h
    obtain ⟨as', h1, rfl⟩ := map_some h
    simp [cRes_len rs as' h1]
  | .cell b t :: rs, as, h => by
    simp only [cRes] at h
    cases h1 : T.agg t <;> cases h2 : cRes T rs <;> simp only [h1, h2] at h <;> cases h
    simp [cRes_len rs _ h2]

def resOne (tmps : Array Value) : ResultVar → Sem Value
  | .tmp t => pure (tmps.getD t undef)
  | .cell a t => do loadVar t (← asAddr (tmps.getD a undef))

theorem loadAt_ptr {L : Lnk} {g : Ghost} {w : World} {H : Heap} (hs : St L g w H) {k : Option Nat} {a x : AVal} (h : loadAt H k a = some x) {v : Value} (hr : Rep L g v a) : ∃ ad, v = .pointer (some ad) := by
  unfold loadAt at h
  cases k with
  | none =>
    dsimp only at h
    split at h
    · rename_i c hc
      obtain ⟨b, o, vs, rfl, _⟩ := cellsAt_sound hs hc hr
      exact ⟨_, rfl⟩
    · cases h
  | some k =>
    dsimp only at h
    cases hc : cellsAt H a k with
    | none => rw [hc] at h; cases h
    | some cs =>
      obtain ⟨b, o, vs, rfl, _⟩ := cellsAt_sound hs hc hr
      exact ⟨_, rfl⟩

theorem res_sound (hs : St T.L g w H) {tmps : Array Value} (hr : RepT T.L g n tmps e) : ∀ (rs : List ResultVar) (as : List ARes) (vs : List AVal), cRes T rs = some as → resAll e H as = some vs →
    ∃ us, (rs.mapM (resOne tmps)).run T.L.P w = .ok us w ∧ RepL T.L g us vs
  | [], as, vs, h, h' => by cases h; cases h'; exact ⟨[], rfl, .nil⟩
  | r :: rs, as, vs, h, h' => by
    have one : ∃ ar as', as = ar :: as' ∧ cRes T rs = some as' ∧ ∀ v, resA e H ar = some v → ∃ u, (resOne tmps r).run T.L.P w = .ok u w ∧ Rep T.L g u v := by
      cases r with
      | tmp t =>
        simp only [cRes] at h
        obtain ⟨as', h1, rfl⟩ := map_some h
        refine ⟨_, _, rfl, h1, fun v hv => ⟨_, rfl, ?_⟩⟩
        cases hv
        exact hr.rep t
      | cell b t =>
        simp only [cRes] at h
        cases h1 : T.agg t <;> cases h2 : cRes T rs <;> simp only [h1, h2] at h <;> cases h
        refine ⟨_, _, rfl, rfl, fun v hv => ?_⟩
        obtain ⟨z, k1, k2⟩ := load_sound hs h1 hv (hr.rep b)
        refine ⟨z, ?_, k2⟩
        rw [← k1]
        unfold Instr.loadAt resOne
        obtain ⟨ad, hp⟩ := loadAt_ptr hs hv (hr.rep b)
        simp only [Sem.run_bind, hp]
        rfl
    obtain ⟨ar, as', rfl, h1, h2⟩ := one
    simp only [resAll] at h'
    cases h3 : resA e H ar with
    | none => simp only [h3] at h'; cases h'
    | some v =>
      cases h4 : resAll e H as' with
      | none => simp only [h3, h4] at h'; cases h'
      | some vs' =>
        simp only [h3, h4] at h'
        cases h'
        obtain ⟨u, k1, k2⟩ := h2 v h3
        obtain ⟨us, k3, k4⟩ := res_sound hs hr rs as' vs' h1 h4
        exact ⟨u :: us, by simp [List.mapM_cons, k1, k3], .cons _ _ _ _ k2 k4⟩

/-- The results of a function, as the machine hands them back. -/
theorem results_sound {fn : Func} {as : List ARes} {vs : List AVal} (hs : St T.L g w H) {tmps : Array Value} (hr : RepT T.L g n tmps e) (h1 : cRes T fn.results.toList = some as) (h2 : resAll e H as = some vs) :
    ∃ v, (results fn tmps).run T.L.P w = .ok v w ∧ Rep T.L g v (resV vs) := by
  obtain ⟨us, k1, k2⟩ := res_sound hs hr fn.results.toList as vs h1 h2
  have hm : (fn.results.mapM (resOne tmps)).run T.L.P w = .ok us.toArray w := by
    rw [Array.mapM_eq_mapM_toList]
    simp [k1]
  have hres : (results fn tmps).run T.L.P w = .ok (if h : us.toArray.size = 1 then us.toArray[0] else .tuple us.toArray) w := by
    have : results fn tmps = (do let vs ← fn.results.mapM (resOne tmps); pure (if h : vs.size = 1 then vs[0] else .tuple vs)) := by
      unfold results
      congr 1
    rw [this, Sem.run_bind, hm]
    rfl
  refine ⟨_, hres, ?_⟩
  match us, vs, k2 with
  | [], [], k2 => simp only [List.size_toArray, List.length_nil]; exact .tup _ _ k2
  | [u], [v], .cons _ _ _ _ k3 _ => simpa [resV] using k3
  | u :: u' :: us, v :: v' :: vs, k2 =>
    have : ¬ ((u :: u' :: us).toArray.size = 1) := by simp
    rw [dif_neg this]
    exact .tup _ _ k2

/-- A function's contract out of its code. -/
theorem acalls_of {T : Tab} {f : Nat} {af : AFunc} (hf : T.has f af) {args : List AVal} {H : Heap} {Q : ARet → Heap → Prop} (hlen : args.length ≤ af.ntmps) (h : xfunc T.L af args H Q) : ACalls T.L f args H Q := by
  obtain ⟨fn, h1, m, am, h2⟩ := hf
  unfold cFunc at h2
  cases hb : fn.body with
  | none => simp only [hb] at h2; cases h2
  | some c =>
    cases h3 : cCode m { T with am := am } fn.ntmps c <;> cases h4 : cRes { T with am := am } fn.results.toList <;> simp only [hb, h3, h4] at h2 <;> cases h2
    rename_i ac as
    intro g w vs hs hr
    have hvl := hr.length
    have hlen : args.length ≤ fn.ntmps := hlen
    refine calls_of_wp h1 hb (wp_mono (code_sound (T := { T with am := am }) c ac h3 _ g g _ w _ H (Ghost.le.refl g) hs ⟨?_, fun i => ?_⟩ rfl h) fun ex a' w' hq => ?_)
    · simp; omega
    · have e1 : (vs.toArray ++ Array.replicate (fn.ntmps - vs.toArray.size) undef).getD i undef = vs.getD i undef := by
        simp only [Array.getD_eq_getD_getElem?, List.getD_eq_getElem?_getD, Array.getElem?_append, List.size_toArray, List.getElem?_toArray]
        split
        · rfl
        · rw [List.getElem?_eq_none (by omega)]
          simp only [Array.getElem?_replicate]
          split <;> rfl
      rw [e1]
      cases hx : args[i]? with
      | none =>
        have : args.getD i .undef = .undef := by simp [hx]
        rw [this]; exact .undef _
      | some x =>
        obtain ⟨v, k1, k2⟩ := hr.at i x hx
        simpa [hx, k1] using k2
    · have fin : ∀ (x : AExit), (x = .normal ∨ x = .ret) → SOK T.L g fn.ntmps (funQ as Q x) a' w' → a'.defers = [] ∧ ∃ v, (results fn a'.tmps).run T.L.P w' = .ok v w' ∧ ∃ r H' g', Q r H' ∧ g.le g' ∧ St T.L g' w' H' ∧ EndRep T.L g' (.returned v) r := by
        rintro x hx ⟨k1, e', H', g', k2, k3, k4, k5⟩
        have k2 : (match resAll e' H' as with
            | some vs => Q (.ret (resV vs)) H'
            | none => False) := by rcases hx with rfl | rfl <;> exact k2
        cases hv : resAll e' H' as with
        | none => rw [hv] at k2; exact k2.elim
        | some vs' =>
          rw [hv] at k2
          obtain ⟨v, q1, q2⟩ := results_sound (T := { T with am := am }) k4 k5 h4 hv
          exact ⟨k1, v, q1, _, H', g', k2, k3, k4, v, rfl, q2⟩
      cases ex with
      | normal => exact fin .normal (.inl rfl) hq
      | ret => exact fin .ret (.inr rfl) hq
      | panic chain =>
        obtain ⟨k1, v, x, e', H', g', rfl, k2, k3, k4, k5⟩ := hq
        exact ⟨k1, .pan x, H', g', k2, k3, k4, v, rfl, k5⟩
      | exit i => obtain ⟨_, e', H', g', k2, _⟩ := hq; exact k2.elim
      | goto l => exact hq.elim
      | outgrown => exact hq.elim

end Go.Ag
