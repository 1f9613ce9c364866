/- A region whose order is drawn: its soft operations may come up in any order that their edges allow, and tell the same. -/
import Derived.Test.YtljfbnbmcemdcaaGreatDoorAgReg
import Derived.Orders
set_option linter.unusedVariables false
namespace Go.Ag
open Go
open Go.RowKit (Below)

variable {T : Tab} {L : Lnk} {g : Ghost} {w : World} {H : Heap} {e : Env} {a : Act} {n : Nat}

/-! ### the slots that an operation looks at are all that it looks at -/
theorem map_ev_congr {e e' : Env} {xs : List AX} (h : ∀ x ∈ xs, ev e x = ev e' x) : xs.map (ev e) = xs.map (ev e') := List.map_congr_left h
theorem opt_ev_congr {e e' : Env} {x : Option AX} (h : ∀ y ∈ x.toList, ev e y = ev e' y) : x.map (ev e) = x.map (ev e') := by
  cases x with
  | none => rfl
  | some y => simp [h y (by simp)]

theorem stepOp_congr {q : AOp} {e e' : Env} {H : Heap} {K KP : AVal → Heap → Prop} (hx : ∀ x ∈ q.xs, ev e x = ev e' x) (h : stepOp L q e H K KP) : stepOp L q e' H K KP := by
  cases q
  case build z ps =>
    simp only [stepOp] at h ⊢
    have h1 : ∀ p ∈ ps, ev e p.2.2 = ev e' p.2.2 := fun p hp => hx _ (by simp only [AOp.xs, List.mem_map]; exact ⟨p, hp, rfl⟩)
    refine ⟨fun p hp => by rw [← h1 p hp]; exact h.1 p hp, ?_⟩
    have h2 : (ps.map fun p => (p.1, (ev e' p.2.2).cells)) = ps.map fun p => (p.1, (ev e p.2.2).cells) := List.map_congr_left fun p hp => by rw [h1 p hp]
    rw [h2]; exact h.2
  case lit k b z m ps =>
    simp only [stepOp] at h ⊢
    have h1 : ∀ p ∈ ps, ev e p.2 = ev e' p.2 := fun p hp => hx _ (by simp only [AOp.xs, List.mem_map]; exact ⟨p, hp, rfl⟩)
    refine ⟨fun p hp => by rw [← h1 p hp]; exact h.1 p hp, ?_⟩
    have h2 : (ps.map fun p => ev e' p.2) = ps.map fun p => ev e p.2 := List.map_congr_left fun p hp => by rw [h1 p hp]
    rw [h2]; exact h.2
  case mkF f fi ca =>
    simp only [stepOp] at h ⊢
    rw [← map_ev_congr (xs := fi) fun x hm => hx x (by simp [AOp.xs, hm]), ← map_ev_congr (xs := ca) fun x hm => hx x (by simp [AOp.xs, hm])]
    exact h
  case slcS x lo hi =>
    simp only [stepOp] at h ⊢
    rw [← opt_ev_congr (x := lo) fun x hm => hx x (by simp only [AOp.xs]; exact List.mem_cons_of_mem _ (List.mem_append_left _ hm)), ← opt_ev_congr (x := hi) fun x hm => hx x (by simp only [AOp.xs]; exact List.mem_cons_of_mem _ (List.mem_append_right _ hm)), ← hx x (by simp [AOp.xs])]
    exact h
  case slcL k x lo hi =>
    simp only [stepOp] at h ⊢
    rw [← opt_ev_congr (x := lo) fun x hm => hx x (by simp only [AOp.xs]; exact List.mem_cons_of_mem _ (List.mem_append_left _ hm)), ← opt_ev_congr (x := hi) fun x hm => hx x (by simp only [AOp.xs]; exact List.mem_cons_of_mem _ (List.mem_append_right _ hm)), ← hx x (by simp [AOp.xs])]
    exact h
  case call f as =>
    simp only [stepOp] at h ⊢
    rw [← map_ev_congr (xs := as) fun x hm => hx x (by simp [AOp.xs, hm])]
    exact h
  case callv f as =>
    simp only [stepOp] at h ⊢
    rw [← map_ev_congr (xs := as) fun x hm => hx x (by simp [AOp.xs, hm]), ← hx f (by simp [AOp.xs])]
    exact h
  case pick c x y =>
    simp only [stepOp] at h ⊢
    rw [← hx c (by simp [AOp.xs]), ← hx x (by simp [AOp.xs]), ← hx y (by simp [AOp.xs])]
    exact h
  all_goals first
    | exact h
    | (rename_i x
       simp only [stepOp] at h ⊢
       rw [← hx x (by simp [AOp.xs])]
       exact h)
    | (rename_i x y
       simp only [stepOp] at h ⊢
       rw [← hx x (by simp [AOp.xs]), ← hx y (by simp [AOp.xs])]
       exact h)
    | (rename_i x y
       simp only [stepOp] at h ⊢
       rw [← hx x (by simp [AOp.xs])]
       exact h)

theorem light {q : AOp} (hq : isLight q = true) {e : Env} {H : Heap} {K KP : AVal → Heap → Prop} (h : stepOp L q e H K KP) :
    ∃ v, K v H ∧ ∀ H' K' KP', K' v H' → stepOp L q e H' K' KP' := by
  cases q <;> first | (cases hq; done) | skip
  case pick c a b => simp only [stepOp] at h ⊢; generalize ev e c = vx at h ⊢; cases vx <;> first | exact h.elim | exact ⟨_, h, fun _ _ _ h => h⟩
  case nilck x => simp only [stepOp] at h ⊢; generalize ev e x = vx at h ⊢; cases vx <;> first | exact h.elim | exact ⟨_, h, fun _ _ _ h => h⟩
  case bin op x y => simp only [stepOp] at h ⊢; generalize evBin op (ev e x) (ev e y) = vx at h ⊢; cases vx <;> first | exact h.elim | exact ⟨_, h, fun _ _ _ h => h⟩
  case un op x => simp only [stepOp] at h ⊢; generalize evUn op (ev e x) = vx at h ⊢; cases vx <;> first | exact h.elim | exact ⟨_, h, fun _ _ _ h => h⟩
  case convInt k x => simp only [stepOp] at h ⊢; generalize ev e x = vx at h ⊢; cases vx <;> first | exact h.elim | exact ⟨_, h, fun _ _ _ h => h⟩
  case convStr x => simp only [stepOp] at h ⊢; generalize ev e x = vx at h ⊢; cases vx <;> first | exact h.elim | exact ⟨_, h, fun _ _ _ h => h⟩
  case convB2S x =>
    simp only [stepOp] at h ⊢; generalize ev e x = vx at h ⊢; cases vx <;> try exact h.elim
    rename_i xs tk
    dsimp only at h ⊢
    cases h1 : bytesA xs <;> simp only [h1] at h ⊢
    exact ⟨_, h, fun _ _ _ h => h⟩
  case eqNil k neg x => simp only [stepOp] at h ⊢; generalize isNil k (ev e x) = vx at h ⊢; cases vx <;> first | exact h.elim | exact ⟨_, h, fun _ _ _ h => h⟩
  case eqBool neg x y => simp only [stepOp] at h ⊢; generalize ev e x = vx at h ⊢; generalize ev e y = vy at h ⊢; cases vx <;> cases vy <;> first | exact h.elim | exact ⟨_, h, fun _ _ _ h => h⟩
  case eqCells ks neg x y =>
    simp only [stepOp] at h ⊢; generalize ev e x = vx at h ⊢; generalize ev e y = vy at h ⊢; cases vx <;> cases vy <;> try exact h.elim
    rename_i xs ys
    dsimp only at h ⊢
    cases h1 : eqCells ks xs ys <;> simp only [h1] at h ⊢
    exact ⟨_, h, fun _ _ _ h => h⟩
  case slcS x lo hi =>
    simp only [stepOp] at h ⊢; generalize ev e x = vx at h ⊢; cases vx <;> try exact h.elim
    rename_i s
    dsimp only at h ⊢
    cases h1 : boundI (lo.map (ev e)) 0 <;> simp only [h1] at h ⊢ <;> cases h2 : boundI (hi.map (ev e)) s.length <;> simp only [h2] at h ⊢
    exact ⟨_, h.2.2, fun _ _ _ h' => ⟨h.1, h.2.1, h'⟩⟩
  case slcL k x lo hi =>
    simp only [stepOp] at h ⊢; generalize ev e x = vx at h ⊢; cases vx <;> try exact h.elim
    rename_i xs tk
    dsimp only at h ⊢
    cases h1 : boundI (lo.map (ev e)) 0 <;> simp only [h1] at h ⊢ <;> cases h2 : boundI (hi.map (ev e)) xs.length <;> simp only [h2] at h ⊢
    exact ⟨_, h.2.2.2, fun _ _ _ h' => ⟨h.1, h.2.1, h.2.2.1, h'⟩⟩
  case faddr off x => simp only [stepOp] at h ⊢; generalize ev e x = vx at h ⊢; cases vx <;> first | exact h.elim | exact ⟨_, h, fun _ _ _ h => h⟩ | exact ⟨_, h.2, fun _ _ _ h' => ⟨h.1, h'⟩⟩
  case fld off k x =>
    simp only [stepOp] at h ⊢; generalize ev e x = vx at h ⊢; cases vx <;> try exact h.elim
    rename_i cs
    cases k with
    | none => dsimp only at h ⊢; cases h1 : cs[off]? <;> simp only [h1] at h ⊢; exact ⟨_, h, fun _ _ _ h => h⟩
    | some k => exact ⟨_, h.2, fun _ _ _ h' => ⟨h.1, h'⟩⟩
  case iaddr k x i =>
    simp only [stepOp] at h ⊢; generalize ev e x = vx at h ⊢; generalize ev e i = vi at h ⊢; cases vx <;> cases vi <;> try exact h.elim
    · rename_i xs tk k' n
      dsimp only at h ⊢
      obtain ⟨h0, h⟩ := h
      cases h1 : xs[n.toNat]? <;> simp only [h1] at h ⊢
      exact ⟨_, h.2, fun _ _ _ h' => ⟨h0, h.1, h'⟩⟩
    · exact ⟨_, h.2, fun _ _ _ h' => ⟨h.1, h'⟩⟩
  case idxS x i =>
    simp only [stepOp] at h ⊢; generalize ev e x = vx at h ⊢; generalize ev e i = vi at h ⊢; cases vx <;> cases vi <;> try exact h.elim
    rename_i s k' n
    dsimp only at h ⊢
    obtain ⟨h0, h⟩ := h
    cases h1 : s[n.toNat]? <;> simp only [h1] at h ⊢
    exact ⟨_, h, fun _ _ _ h' => ⟨h0, h'⟩⟩
  case ssd x => simp only [stepOp] at h ⊢; generalize ev e x = vx at h ⊢; cases vx <;> first | exact h.elim | exact ⟨_, h.2, fun _ _ _ h' => ⟨h.1, h'⟩⟩
  case ext x i =>
    simp only [stepOp] at h ⊢; generalize ev e x = vx at h ⊢; cases vx <;> try exact h.elim
    rename_i vs
    dsimp only at h ⊢
    cases h1 : vs[i]? <;> simp only [h1] at h ⊢
    exact ⟨_, h, fun _ _ _ h => h⟩
  case lenS x => simp only [stepOp] at h ⊢; generalize ev e x = vx at h ⊢; cases vx <;> first | exact h.elim | exact ⟨_, h, fun _ _ _ h => h⟩
  case lenL x => simp only [stepOp] at h ⊢; generalize ev e x = vx at h ⊢; cases vx <;> first | exact h.elim | exact ⟨_, h, fun _ _ _ h => h⟩
  case build z ps => exact ⟨_, h.2, fun _ _ _ h' => ⟨h.1, h'⟩⟩
  case lit k b z m ps => exact ⟨_, h.2, fun _ _ _ h' => ⟨h.1, h'⟩⟩
  all_goals exact ⟨_, h, fun _ _ _ h => h⟩

/-! ### what the soft operations tell, fixed -/
def SoftFact (L : Lnk) (q : AOp) (e : Env) (H0 : Heap) (len : Nat) (v : AVal) : Option AObj → Prop
  | some zs => v = .ptr len 0 ∧ ((∃ cs t, q = .alloc cs t ∧ zs = .cells cs t) ∨ ∃ x t, q = .box t x ∧ zs = .cells (ev e x).cells t ∧ (ev e x).cells.all oneA = true)
  | none => isNew q = false ∧ ∀ H', (isLight q = true ∨ agree H0.length H0 H' ∨ ∃ k a, q = .load k a ∧ ∀ v, loadAt H0 k (ev e a) = some v → ptrOK H0.length (ev e a) = true → loadAt H' k (ev e a) = some v) → ∀ K KP, K v H' → stepOp L q e H' K KP

def objs : Option AObj → List AObj
  | some zs => [zs]
  | none => []

theorem loadAt_agree {n : Nat} {H0 H' : Heap} (ha : agree n H0 H') {k : Option Nat} {x v : AVal} (hp : ptrOK n x = true) (h : loadAt H0 k x = some v) : loadAt H' k x = some v := by
  have hc : ∀ m c, cellsAt H0 x m = some c → cellsAt H' x m = some c := fun m c hc => by
    cases x <;> try (exact hc)
    rename_i id off
    have hid : id < n := by simpa [ptrOK] using hp
    simp only [cellsAt] at hc ⊢
    cases ho : H0[id]? with
    | none => simp only [ho] at hc; cases hc
    | some o =>
      cases o <;> simp only [ho] at hc <;> try (cases hc; done)
      rw [ha.2 id _ hid ho (fun m t => by simp) (by simp)]
      exact hc
  unfold loadAt at h ⊢
  cases k with
  | none =>
    dsimp only at h ⊢
    cases h1 : cellsAt H0 x 1 with
    | none => rw [h1] at h; cases h
    | some c => rw [h1] at h; rw [hc 1 c h1]; exact h
  | some k =>
    dsimp only at h ⊢
    cases h1 : cellsAt H0 x k with
    | none => rw [h1] at h; cases h
    | some c => rw [h1] at h; rw [hc k c h1]; exact h

theorem softStep_fact {q : AOp} {e : Env} {H0 H : Heap} {K : AVal → Heap → Prop} (h : softStep L q e H0 H K) :
    ∃ v z, SoftFact L q e H0 H.length v z ∧ K v (H ++ objs z) := by
  have lt : isLight q = true → stepOp L q e H K (fun _ _ => False) → ∃ v z, SoftFact L q e H0 H.length v z ∧ K v (H ++ objs z) := fun hq h => by
    obtain ⟨v, h1, h2⟩ := light hq h
    have hnew : isNew q = false := by cases q <;> first | rfl | (cases hq; done)
    exact ⟨v, none, ⟨hnew, fun H' _ K' KP' hk => h2 H' K' KP' hk⟩, by simpa [objs] using h1⟩
  cases q <;> first | exact lt rfl h | exact h.elim | skip
  case alloc z t => exact ⟨_, some (.cells z t), ⟨rfl, .inl ⟨z, t, rfl, rfl⟩⟩, h⟩
  case box t x => exact ⟨_, some (.cells (ev e x).cells t), ⟨rfl, .inr ⟨x, t, rfl, rfl, h.1⟩⟩, h.2⟩
  case load k a =>
    simp only [softStep] at h
    obtain ⟨hp, h⟩ := h
    cases hl : loadAt H0 k (ev e a) with
    | none => simp only [hl] at h
    | some v =>
      simp only [hl] at h
      refine ⟨v, none, ⟨rfl, fun H' ha K' KP' hk => ?_⟩, by simpa [objs] using h⟩
      have hl' : loadAt H' k (ev e a) = some v := by
        rcases ha.resolve_left (by simp [isLight]) with ha | ⟨k', a', e1, ha⟩
        · exact loadAt_agree ha hp hl
        · cases e1; exact ha v hl hp
      simp only [stepOp, hl']
      exact hk
  case call f as =>
    obtain ⟨v, h1, h2⟩ := h
    refine ⟨v, none, ⟨rfl, fun H' ha K' KP' hk => ?_⟩, by simpa [objs] using h2⟩
    exact ACalls.mono (h1 H' ((ha.resolve_left (by simp [isLight])).resolve_right fun ⟨_, _, e1, _⟩ => by cases e1)) fun r H'' hr => by obtain ⟨rfl, rfl⟩ := hr; exact hk
  case callv f as =>
    simp only [softStep] at h
    cases hf : ev e f <;> simp only [hf] at h
    rename_i af fi ca
    cases af <;> simp only at h
    obtain ⟨v, h1, h2⟩ := h
    refine ⟨v, none, ⟨rfl, fun H' ha K' KP' hk => ?_⟩, by simpa [objs] using h2⟩
    simp only [stepOp, hf]
    exact ACalls.mono (h1 H' ((ha.resolve_left (by simp [isLight])).resolve_right fun ⟨_, _, e1, _⟩ => by cases e1)) fun r H'' hr => by obtain ⟨rfl, rfl⟩ := hr; exact hk

def SoftAct (L : Lnk) (o : AO) (e : Env) (H0 : Heap) (len : Nat) (v : AVal) (z : Option AObj) : Prop :=
  match o.guard with
  | none => SoftFact L o.op e H0 len v z
  | some (t, want) => (∃ b, e t = .bool b ∧ ((b = want ∧ SoftFact L o.op e H0 len v z) ∨ (b ≠ want ∧ v = .tup [] ∧ z = none))) ∨ (e t = .tup [] ∧ v = .tup [] ∧ z = none)

abbrev Trace := List (AVal × Option AObj)

def Tr (L : Lnk) (H0 : Heap) : List AO → Trace → Env → Nat → Prop
  | [], [], _, _ => True
  | o :: os, (v, z) :: tr, e, len => SoftAct L o e H0 len v z ∧ Tr L H0 os tr (putA e o.dst v) (len + (objs z).length)
  | _, _, _, _ => False

/-- The slots once the operations of S have come up. -/
def envS (S : Nat → Bool) : Nat → Env → List AO → Trace → Env
  | k, e, o :: os, (v, _) :: tr => envS S (k + 1) (if S k then putA e o.dst v else e) os tr
  | _, e, _, _ => e

/-- The new objects once the operations of S have come up: the others' places are kept. -/
def pad (S : Nat → Bool) : Nat → Trace → List AObj
  | _, [] => []
  | k, (_, none) :: tr => pad S (k + 1) tr
  | k, (_, some zs) :: tr => (if S k then zs else .dead) :: pad S (k + 1) tr

theorem xsoft_trace {H0 : Heap} {K : Env → Heap → Prop} : ∀ (l : List AO) (k : Nat) (e : Env) (H : Heap), xsoft L H0 l e H K →
    ∃ tr, Tr L H0 l tr e H.length ∧ K (envS (fun _ => true) k e l tr) (H ++ pad (fun _ => true) k tr)
  | [], k, e, H, h => ⟨[], trivial, by simpa [envS, pad] using (show K e H from h)⟩
  | o :: os, k, e, H, h => by
    have step : ∀ v z, SoftAct L o e H0 H.length v z → xsoft L H0 os (putA e o.dst v) (H ++ objs z) K → ∃ tr, Tr L H0 (o :: os) tr e H.length ∧ K (envS (fun _ => true) k e (o :: os) tr) (H ++ pad (fun _ => true) k tr) := fun v z h1 h2 => by
      obtain ⟨tr, k1, k2⟩ := xsoft_trace os (k + 1) _ _ h2
      refine ⟨(v, z) :: tr, ⟨h1, by simpa using k1⟩, ?_⟩
      cases z with
      | none => simpa [envS, pad, objs] using k2
      | some zs => simpa [envS, pad, objs] using k2
    simp only [xsoft] at h
    cases hg : o.guard with
    | none =>
      simp only [hg] at h
      obtain ⟨v, z, h1, h2⟩ := softStep_fact h
      exact step v z (by simpa [SoftAct, hg] using h1) h2
    | some p =>
      obtain ⟨t, want⟩ := p
      simp only [hg] at h
      cases he : e t <;> simp only [he] at h
      case tup vs =>
        cases vs with
        | cons => exact False.elim h
        | nil => exact step (.tup []) none (by unfold SoftAct; rw [hg]; exact .inr ⟨he, rfl, rfl⟩) (by simpa [objs] using h)
      rename_i b
      have act : softStep L o.op e H0 H (fun v H' => xsoft L H0 os (putA e o.dst v) H' K) → b = want → ∃ tr, Tr L H0 (o :: os) tr e H.length ∧ K (envS (fun _ => true) k e (o :: os) tr) (H ++ pad (fun _ => true) k tr) := fun h hb => by
        obtain ⟨v, z, h1, h2⟩ := softStep_fact h
        exact step v z (by simp only [SoftAct, hg]; exact .inl ⟨b, he, .inl ⟨hb, h1⟩⟩) h2
      have sk : xsoft L H0 os (putA e o.dst (.tup [])) H K → b ≠ want → ∃ tr, Tr L H0 (o :: os) tr e H.length ∧ K (envS (fun _ => true) k e (o :: os) tr) (H ++ pad (fun _ => true) k tr) := fun h hb =>
        step (.tup []) none (by unfold SoftAct; rw [hg]; exact .inl ⟨b, he, .inr ⟨hb, rfl, rfl⟩⟩) (by simpa [objs] using h)
      cases want <;> cases b <;> first | exact act h rfl | exact sk h (by simp)

/-- How many objects are made ahead of the i-th. -/
def cnt : Trace → Nat → Nat
  | _, 0 => 0
  | [], _ => 0
  | (_, z) :: tr, i + 1 => (objs z).length + cnt tr i

theorem Tr_at {H0 : Heap} : ∀ (l : List AO) (tr : Trace) (k : Nat) (e : Env) (len : Nat), Tr L H0 l tr e len → ∀ i o, l[i]? = some o →
    ∃ v z, tr[i]? = some (v, z) ∧ SoftAct L o (envS (fun j => decide (j < k + i)) k e l tr) H0 (len + cnt tr i) v z
  | [], [], k, e, len, h, i, o, ho => by simp at ho
  | [], _ :: _, k, e, len, h, i, o, ho => by simp at ho
  | _ :: _, [], k, e, len, h, i, o, ho => h.elim
  | o :: os, (v, z) :: tr, k, e, len, h, i, o', ho => by
    cases i with
    | zero =>
      simp at ho
      subst ho
      refine ⟨v, z, rfl, ?_⟩
      have hnone : ∀ (os : List AO) (tr : Trace) (m : Nat) (e : Env), k < m → envS (fun j => decide (j < k + 0)) m e os tr = e := by
        intro os
        induction os with
        | nil => intro tr m e _; rfl
        | cons o os ih =>
          intro tr m e hm
          cases tr with
          | nil => rfl
          | cons p tr =>
            obtain ⟨u, y⟩ := p
            simp only [envS]
            rw [ih tr (m + 1) _ (by omega), if_neg (by simp; omega)]
      simp only [envS]
      rw [hnone _ _ _ _ (Nat.lt_succ_self k), if_neg (by simp)]
      simpa [cnt] using h.1
    | succ i =>
      obtain ⟨v', z', h1, h2⟩ := Tr_at os tr (k + 1) _ _ h.2 i o' (by simpa using ho)
      refine ⟨v', z', by simpa using h1, ?_⟩
      simp only [envS]
      rw [if_pos (by simp)]
      have e1 : k + (i + 1) = k + 1 + i := by omega
      rw [e1]
      have e2 : len + cnt ((v, z) :: tr) (i + 1) = len + (objs z).length + cnt tr i := by simp only [cnt]; omega
      rw [e2]
      exact h2

def addS (S : Nat → Bool) (i : Nat) : Nat → Bool := fun k => decide (k = i) || S k

theorem pad_ext {S S' : Nat → Bool} : ∀ (tr : Trace) (k : Nat), (∀ j, k ≤ j → S j = S' j) → pad S k tr = pad S' k tr
  | [], k, h => rfl
  | (v, none) :: tr, k, h => by simp only [pad]; exact pad_ext tr (k + 1) fun j hj => h j (by omega)
  | (v, some zs) :: tr, k, h => by simp only [pad]; rw [h k (Nat.le_refl k), pad_ext tr (k + 1) fun j hj => h j (by omega)]

theorem pad_none {S : Nat → Bool} {v : AVal} : ∀ (tr : Trace) (k i : Nat), tr[i]? = some (v, none) → pad (addS S (k + i)) k tr = pad S k tr
  | [], k, i, h => by simp at h
  | (v', z) :: tr, k, 0, h => by
    simp at h
    obtain ⟨rfl, rfl⟩ := h
    simp only [pad]
    exact pad_ext tr (k + 1) fun j hj => by simp [addS]; omega
  | (v', z) :: tr, k, i + 1, h => by
    have ih := pad_none (S := S) (v := v) tr (k + 1) i (by simpa using h)
    rw [show k + (i + 1) = k + 1 + i from by omega]
    cases z with
    | none => simpa only [pad] using ih
    | some zs =>
      simp only [pad]
      rw [ih]
      have : addS S (k + 1 + i) k = S k := by simp [addS]; omega
      rw [this]

theorem pad_at {S : Nat → Bool} {v : AVal} {zs : AObj} : ∀ (tr : Trace) (k i : Nat), tr[i]? = some (v, some zs) → (pad S k tr)[cnt tr i]? = some (if S (k + i) then zs else .dead)
  | [], k, i, h => by simp at h
  | (v', z) :: tr, k, 0, h => by
    simp at h
    obtain ⟨rfl, rfl⟩ := h
    simp [pad, cnt]
  | (v', z) :: tr, k, i + 1, h => by
    have ih := pad_at (S := S) (v := v) tr (k + 1) i (by simpa using h)
    rw [show k + (i + 1) = k + 1 + i from by omega]
    cases z with
    | none => simpa only [pad, cnt, objs, List.length_nil, Nat.zero_add] using ih
    | some ys => simp only [pad, cnt, objs, List.length_singleton, Nat.add_comm 1]; simpa using ih

theorem pad_set {S : Nat → Bool} {v : AVal} {zs : AObj} : ∀ (tr : Trace) (k i : Nat), tr[i]? = some (v, some zs) → pad (addS S (k + i)) k tr = (pad S k tr).set (cnt tr i) zs
  | [], k, i, h => by simp at h
  | (v', z) :: tr, k, 0, h => by
    simp at h
    obtain ⟨rfl, rfl⟩ := h
    simp only [pad, cnt, List.set_cons_zero]
    rw [pad_ext tr (k + 1) (S' := S) fun j hj => by simp [addS]; omega]
    simp [addS]
  | (v', z) :: tr, k, i + 1, h => by
    have ih := pad_set (S := S) (v := v) tr (k + 1) i (by simpa using h)
    rw [show k + (i + 1) = k + 1 + i from by omega]
    cases z with
    | none => simpa only [pad, cnt, objs, List.length_nil, Nat.zero_add] using ih
    | some ys =>
      simp only [pad, cnt, objs, List.length_singleton, Nat.add_comm 1, List.set_cons_succ]
      rw [ih]
      have : addS S (k + 1 + i) k = S k := by simp [addS]; omega
      rw [this]

theorem putA_at (e : Env) (d : Option Nat) (v : AVal) (t : Nat) : putA e d v t = if d = some t then v else e t := by
  cases d with
  | none => simp [putA]
  | some d => simp only [putA, upd, Option.some.injEq]; by_cases h : t = d <;> simp [h, eq_comm]

theorem env_congr {t : Nat} {S S' : Nat → Bool} : ∀ (l : List AO) (tr : Trace) (k : Nat) (e e' : Env), (∀ j o, l[j]? = some o → o.dst = some t → S (k + j) = S' (k + j)) → e t = e' t → envS S k e l tr t = envS S' k e' l tr t
  | [], tr, k, e, e', h, he => by simpa [envS] using he
  | _ :: _, [], k, e, e', h, he => by simpa [envS] using he
  | o :: os, (v, z) :: tr, k, e, e', h, he => by
    simp only [envS]
    refine env_congr os tr (k + 1) _ _ (fun j o' ho hd => ?_) ?_
    · have := h (j + 1) o' (by simpa using ho) hd
      rwa [show k + (j + 1) = k + 1 + j from by omega] at this
    · by_cases hd : o.dst = some t
      · have hS : S k = S' k := h 0 o rfl hd
        rw [hS]
        cases S' k
        · simpa using he
        · simp [putA_at, hd]
      · have e1 : ∀ (b : Bool) (e : Env), (if b = true then putA e o.dst v else e) t = e t := fun b e => by cases b <;> simp [putA_at, hd]
        rw [e1, e1, he]

theorem env_comm {S : Nat → Bool} {d : Nat} {u : AVal} : ∀ (l : List AO) (tr : Trace) (k : Nat) (e : Env), (∀ j o, l[j]? = some o → S (k + j) = true → o.dst ≠ some d) → envS S k (upd e d u) l tr = upd (envS S k e l tr) d u
  | [], tr, k, e, h => rfl
  | _ :: _, [], k, e, h => rfl
  | o :: os, (v, z) :: tr, k, e, h => by
    simp only [envS]
    have hs : (if S k = true then putA (upd e d u) o.dst v else upd e d u) = upd (if S k = true then putA e o.dst v else e) d u := by
      cases hS : S k with
      | false => simp
      | true =>
        have hd := h 0 o rfl hS
        simp only [if_true]
        funext t
        simp only [putA_at, upd]
        by_cases h1 : o.dst = some t
        · have : t ≠ d := fun e => hd (e ▸ h1)
          simp [h1, this]
        · simp [h1]
    rw [hs]
    exact env_comm os tr (k + 1) _ fun j o' ho hSj => h (j + 1) o' (by simpa using ho) (by rwa [show k + (j + 1) = k + 1 + j from by omega])

theorem env_ext {S S' : Nat → Bool} : ∀ (l : List AO) (tr : Trace) (k : Nat) (e : Env), (∀ j, k ≤ j → S j = S' j) → envS S k e l tr = envS S' k e l tr
  | [], tr, k, e, h => rfl
  | _ :: _, [], k, e, h => rfl
  | o :: os, (v, z) :: tr, k, e, h => by
    simp only [envS]
    rw [h k (Nat.le_refl k)]
    exact env_ext os tr (k + 1) _ fun j hj => h j (by omega)

theorem env_add {S : Nat → Bool} {v : AVal} {z : Option AObj} {o : AO} : ∀ (l : List AO) (tr : Trace) (k i : Nat) (e : Env), l[i]? = some o → tr[i]? = some (v, z) → S (k + i) = false →
    (∀ j o' d, l[j]? = some o' → i < j → S (k + j) = true → o.dst = some d → o'.dst ≠ some d) → envS (addS S (k + i)) k e l tr = putA (envS S k e l tr) o.dst v
  | [], tr, k, i, e, h, _, _, _ => by simp at h
  | _ :: _, [], k, i, e, _, h, _, _ => by simp at h
  | o' :: os, (v', z') :: tr, k, 0, e, h, h', hS, hd => by
    simp at h h'
    obtain ⟨rfl, rfl⟩ := h'
    subst h
    simp only [envS]
    have e1 : addS S (k + 0) k = true := by simp [addS]
    have e2 : S k = false := hS
    rw [e1, e2, env_ext (S := addS S (k + 0)) (S' := S) os tr (k + 1) _ fun j hj => by simp [addS]; omega]
    simp only [if_true, Bool.false_eq_true, if_false]
    cases hdst : o'.dst with
    | none => rfl
    | some d =>
      exact env_comm os tr (k + 1) e fun j o'' ho hSj => hd (j + 1) o'' d (by simpa using ho) (by omega) (by rwa [show k + (j + 1) = k + 1 + j from by omega]) hdst
  | o' :: os, (v', z') :: tr, k, i + 1, e, h, h', hS, hd => by
    simp only [envS]
    rw [show k + (i + 1) = k + 1 + i from by omega]
    have e1 : addS S (k + 1 + i) k = S k := by simp [addS]; omega
    rw [e1]
    exact env_add os tr (k + 1) i _ (by simpa using h) (by simpa using h') (by rwa [show k + 1 + i = k + (i + 1) from by omega]) fun j o'' d ho hj hSj hdd =>
      hd (j + 1) o'' d (by simpa using ho) (by omega) (by rwa [show k + (j + 1) = k + 1 + j from by omega]) hdd


/-! ### which operations have come up -/
def isOn (listed : Array Bool) (k : Nat) : Bool := listed.getD k false

theorem isOn_set {listed : Array Bool} {i : Nat} (hi : i < listed.size) : isOn (listed.setIfInBounds i true) = addS (isOn listed) i := by
  funext k
  by_cases h : k = i
  · subst h; simp [isOn, addS, hi]
  · have h' : i ≠ k := Ne.symm h
    simp [isOn, addS, h, Array.getElem?_setIfInBounds_ne h']

def unl (S : Nat → Bool) : Nat → Nat
  | 0 => 0
  | m + 1 => unl S m + if S m then 0 else 1

theorem unl_le (S : Nat → Bool) : ∀ m, unl S m ≤ m
  | 0 => Nat.le_refl 0
  | m + 1 => by have := unl_le S m; simp only [unl]; split <;> omega
theorem unl_ge {S : Nat → Bool} {i : Nat} : ∀ m, m ≤ i → unl (addS S i) m = unl S m
  | 0, _ => rfl
  | m + 1, h => by
    have h1 : addS S i m = S m := by simp [addS]; omega
    have h2 := unl_ge (S := S) (i := i) m (by omega)
    simp only [unl, h1, h2]
theorem unl_add {S : Nat → Bool} {i : Nat} (hS : S i = false) : ∀ m, i < m → unl (addS S i) m + 1 = unl S m
  | 0, h => absurd h (by omega)
  | m + 1, h => by
    simp only [unl]
    by_cases hm : i = m
    · subst hm
      rw [unl_ge i (Nat.le_refl i)]
      simp [addS, hS]
    · have ih := unl_add hS m (by omega)
      have : addS S i m = S m := by simp [addS]; omega
      rw [this, ← ih]; omega
theorem unl_zero {S : Nat → Bool} : ∀ m, unl S m = 0 → ∀ k, k < m → S k = true
  | 0, _, k, hk => absurd hk (by omega)
  | m + 1, h, k, hk => by
    simp only [unl] at h
    by_cases hm : k = m
    · subst hm
      cases hS : S k
      · rw [hS] at h; simp at h
      · rfl
    · exact unl_zero m (by omega) k (by omega)

section
variable {ops : Array Oper} {as : List AO} {E : Nat → Bool}

theorem drawOK_at {cx : Bool} (h : drawOK cx ops as (masks ops.toList []) E = true) {j : Nat} {oj : Oper} (hj : ops[j]? = some oj) : ∃ aj, as[j]? = some aj ∧ makes oj aj = true ∧ (∀ e ∈ oj.after, Region.binds .any e = true → e.on < j) ∧
    ∀ i, i < ops.size → ∃ ai, as[i]? = some ai ∧ (match E j, E i with
      | true, true => i < j → pairOK (masks ops.toList []) i j ai aj = true
      | false, false => i < j → waits (masks ops.toList []) j i = true
      | false, true => waits (masks ops.toList []) j i = true ∨ crossOK cx ai aj = true
      | true, false => True) := by
  have hlt : j < ops.size := (Array.getElem?_eq_some_iff.1 hj).1
  simp only [drawOK, List.all_eq_true, List.mem_range] at h
  have h1 := h j hlt
  rw [hj] at h1
  cases haj : as[j]? with
  | none => simp only [haj] at h1; cases h1
  | some aj =>
    simp only [haj, Bool.and_eq_true, List.all_eq_true, List.mem_range] at h1
    refine ⟨aj, rfl, h1.1.1, fun e he hb => ?_, fun i hi => ?_⟩
    · have := h1.1.2 e (by simpa using he)
      rw [hb] at this
      simpa using this
    · have := h1.2 i hi
      cases hai : as[i]? with
      | none => simp only [hai] at this; cases this
      | some ai =>
        simp only [hai] at this
        refine ⟨ai, rfl, ?_⟩
        cases hEj : E j <;> cases hEi : E i <;> simp only [hEj, hEi] at this ⊢
        · intro hij
          simp only [Bool.or_eq_true, decide_eq_true_eq] at this
          exact this.resolve_left (by omega)
        · simpa [Bool.or_eq_true] using this
        · intro hij
          simp only [Bool.or_eq_true, decide_eq_true_eq] at this
          exact this.resolve_left (by omega)

/-- What is listed is closed under the edges. -/
def Closed (ops : Array Oper) (S : Nat → Bool) : Prop := ∀ j o, ops[j]? = some o → S j = true → ∀ e ∈ o.after, Region.binds .any e = true → S e.on = true

theorem fold_bits {acc : List Nat} {i : Nat} : ∀ (es : List Edge) (m : Nat), (es.foldl (fun m e => (m ||| 1 <<< e.on) ||| acc.getD e.on 0) m).testBit i = true → m.testBit i = true ∨ ∃ e ∈ es, i = e.on ∨ (acc.getD e.on 0).testBit i = true
  | [], m, h => .inl h
  | e :: es, m, h => by
    rcases fold_bits es _ h with h1 | ⟨e', h2, h3⟩
    · simp only [Nat.testBit_or, Bool.or_eq_true] at h1
      rcases h1 with (h1 | h1) | h1
      · exact .inl h1
      · refine .inr ⟨e, by simp, .inl ?_⟩
        rw [Nat.one_shiftLeft] at h1
        simpa [Nat.testBit_two_pow, eq_comm] using h1
      · exact .inr ⟨e, by simp, .inr h1⟩
    · exact .inr ⟨e', by simp [h2], h3⟩

theorem masks_listed {S : Nat → Bool} (hc : Closed ops S) : ∀ (os : List Oper) (acc : List Nat), ops.toList.drop acc.length = os →
    (∀ j i, (acc.getD j 0).testBit i = true → (S j = true ∨ ∃ o, ops[j]? = some o ∧ ∀ e ∈ o.after, Region.binds .any e = true → S e.on = true) → S i = true) →
    ∀ j i, waits (masks os acc) j i = true → (S j = true ∨ ∃ o, ops[j]? = some o ∧ ∀ e ∈ o.after, Region.binds .any e = true → S e.on = true) → S i = true
  | [], acc, hd, hacc, j, i, h, hj => hacc j i h hj
  | o :: os, acc, hd, hacc, j, i, h, hj => by
    have ho : ops[acc.length]? = some o := by
      have : (ops.toList.drop acc.length)[0]? = some o := by rw [hd]; rfl
      rw [List.getElem?_drop] at this
      simpa using this
    refine masks_listed hc os (acc ++ [(o.after.toList.filter fun e => Region.binds .any e).foldl (fun m e => (m ||| 1 <<< e.on) ||| acc.getD e.on 0) 0]) ?_ (fun j' i' h' hj' => ?_) j i h hj
    · have : (ops.toList.drop acc.length).drop 1 = os := by rw [hd]; rfl
      rw [List.drop_drop] at this
      simpa using this
    · rcases Nat.lt_trichotomy j' acc.length with hlt | heq | hgt
      · have e1 : (acc ++ [(o.after.toList.filter fun e => Region.binds .any e).foldl (fun m e => (m ||| 1 <<< e.on) ||| acc.getD e.on 0) 0]).getD j' 0 = acc.getD j' 0 := by
          simp only [List.getD_eq_getElem?_getD, List.getElem?_append_left hlt]
        rw [e1] at h'
        exact hacc j' i' h' hj'
      · subst heq
        have e1 : (acc ++ [(o.after.toList.filter fun e => Region.binds .any e).foldl (fun m e => (m ||| 1 <<< e.on) ||| acc.getD e.on 0) 0]).getD acc.length 0 = (o.after.toList.filter fun e => Region.binds .any e).foldl (fun m e => (m ||| 1 <<< e.on) ||| acc.getD e.on 0) 0 := by
          simp [List.getD_eq_getElem?_getD]
        rw [e1] at h'
        rcases fold_bits _ _ h' with h1 | ⟨e, h2, h3⟩
        · simp at h1
        · simp only [List.mem_filter] at h2
          have hon : S e.on = true := by
            rcases hj' with hj' | ⟨o', ho', hall⟩
            · exact hc _ o ho hj' e (by simpa using h2.1) h2.2
            · rw [ho] at ho'; cases ho'; exact hall e (by simpa using h2.1) h2.2
          rcases h3 with rfl | h3
          · exact hon
          · exact hacc e.on i' h3 (.inl hon)
      · have e1 : (acc ++ [(o.after.toList.filter fun e => Region.binds .any e).foldl (fun m e => (m ||| 1 <<< e.on) ||| acc.getD e.on 0) 0]).getD j' 0 = 0 := by
          simp only [List.getD_eq_getElem?_getD]
          rw [List.getElem?_eq_none (by simp; omega)]
          rfl
        rw [e1] at h'
        simp at h'

theorem clo_listed {S : Nat → Bool} (hc : Closed ops S) (j : Nat) (hj : S j = true ∨ ∃ o, ops[j]? = some o ∧ ∀ e ∈ o.after, Region.binds .any e = true → S e.on = true) (i : Nat) (hi : waits (masks ops.toList []) j i = true) : S i = true :=
  masks_listed hc ops.toList [] (by simp) (fun j i h => by simp at h) j i hi hj

theorem ready_all {cx : Bool} (hd : drawOK cx ops as (masks ops.toList []) E = true) {listed : Array Bool} (hr : Region.ready .any ops listed = []) (hsz : listed.size = ops.size) : ∀ j, j < ops.size → isOn listed j = true := by
  intro j
  induction j using Nat.strongRecOn with
  | ind j ih =>
    intro hj
    cases hon : isOn listed j with
    | true => rfl
    | false =>
      have ho : ops[j]? = some ops[j] := Array.getElem?_eq_getElem hj
      obtain ⟨aj, _, _, h2, _⟩ := drawOK_at hd ho
      have : j ∈ Region.ready .any ops listed := mem_ready.2 ⟨by
        simp only [isOn] at hon
        simp [hsz, hj] at hon ⊢
        exact hon, _, ho, fun e he hb => ih e.on (h2 e he hb) (by have := h2 e he hb; omega)⟩
      rw [hr] at this
      cases this

theorem ready_off {j : Nat} {listed : Array Bool} (h : j ∈ Region.ready .any ops listed) (hsz : listed.size = ops.size) : isOn listed j = false ∧ j < ops.size ∧ ∃ o, ops[j]? = some o ∧ ∀ e ∈ o.after, Region.binds .any e = true → isOn listed e.on = true := by
  obtain ⟨h1, o, h2, h3⟩ := mem_ready.1 h
  have hlt : j < ops.size := (Array.getElem?_eq_some_iff.1 h2).1
  refine ⟨?_, hlt, o, h2, h3⟩
  simp [isOn, hsz, hlt] at h1 ⊢
  exact h1

theorem Closed.add {listed : Array Bool} (hc : Closed ops (isOn listed)) (hsz : listed.size = ops.size) {j : Nat} (hj : j ∈ Region.ready .any ops listed) : Closed ops (isOn (listed.setIfInBounds j true)) := by
  obtain ⟨h1, h2, o, h3, h4⟩ := ready_off hj hsz
  rw [isOn_set (by omega)]
  intro k ok hk hS e he hb
  by_cases hkj : k = j
  · subst hkj
    rw [h3] at hk; cases hk
    simp [addS, h4 e he hb]
  · have : isOn listed k = true := by simpa [addS, hkj] using hS
    simp [addS, hc k ok hk this e he hb]
end


/-! ### a place that was kept is taken -/
theorem St.put (h : St L g w H) {b id : Nat} {ob : AObj} {s : Spot} (hid : H[id]? = some .dead) (hs : s.b = b) (hbw : b < w.heap.size) (hn : ∀ id o s, H[id]? = some o → o.alive = true → g.ob id o.ver = some s → s.b ≠ b)
    (hok : ObjOK L (g.setOb id ob.ver s) w id ob) : g.le (g.setOb id ob.ver s) ∧ St L (g.setOb id ob.ver s) w (H.set id ob) := by
  have hlt : id < H.length := by
    rcases Nat.lt_or_ge id H.length with h' | h'
    · exact h'
    · rw [List.getElem?_eq_none h'] at hid; cases hid
  have hnone : g.ob id ob.ver = none := h.obj id _ hid _
  have hle : g.le (g.setOb id ob.ver s) := Ghost.setOb_le hnone s
  have hget : ∀ (i : Nat) (o : AObj), (H.set id ob)[i]? = some o → (i ≠ id ∧ H[i]? = some o) ∨ (i = id ∧ o = ob) := by
    intro i o hi
    by_cases hii : i = id
    · subst hii; simp [hlt] at hi; exact .inr ⟨rfl, hi.symm⟩
    · rw [List.getElem?_set_ne (Ne.symm hii)] at hi; exact .inl ⟨hii, hi⟩
  refine ⟨hle, h.fz, fun i o ho => ?_, fun i v hv => ?_, fun i v s' hs' => ?_, fun i j o o' s1 s2 hi hj ha ha' h1 h2 hb => ?_, h.below, h.bs, h.fact, h.kp⟩
  · rcases hget i o ho with ⟨hii, ho⟩ | ⟨rfl, rfl⟩
    · exact (h.obj i o ho).keep hle (fun v => Ghost.setOb_ne g _ _ s hii) fun _ _ _ => ⟨rfl, fun _ => rfl⟩
    · exact hok
  · simp at hv
    rw [Ghost.setOb_ne g _ _ s (by omega)]
    exact h.new i v hv
  · simp only [Ghost.setOb] at hs'
    split at hs'
    · cases hs'; omega
    · exact h.bnd _ _ _ hs'
  · rcases hget i o hi with ⟨hii, hi'⟩ | ⟨rfl, rfl⟩ <;> rcases hget j o' hj with ⟨hjj, hj'⟩ | ⟨rfl, rfl⟩
    · rw [Ghost.setOb_ne g _ _ s (by omega)] at h1 h2
      exact h.inj i j o o' s1 s2 hi' hj' ha ha' h1 h2 hb
    · rw [Ghost.setOb_ne g _ _ s (by omega)] at h1
      rw [Ghost.setOb_at] at h2
      cases h2
      exact absurd (hb.trans hs) (hn i o s1 hi' ha h1)
    · rw [Ghost.setOb_ne g _ _ s (by omega)] at h2
      rw [Ghost.setOb_at] at h1
      cases h1
      exact absurd (hb.symm.trans hs) (hn j o' s2 hj' ha' h2)
    · rfl

theorem St.boxAt (h : St L g w H) {id : Nat} (hid : H[id]? = some .dead) (vs : Array Value) (t : Nat) (cs : List AVal) (hr : RepL L g vs.toList cs) :
    ∃ g', g.le g' ∧ St L g' (w.alloc (.cells vs (L.ty t))) (H.set id (.cells cs t)) ∧ Rep L g' (.pointer (some ⟨w.heap.size, 0, none⟩)) (.ptr id 0) := by
  have h1 := h.alloc (.cells vs (L.ty t))
  have hnone : g.ob id 0 = none := h.obj id _ hid _
  let s : Spot := ⟨w.heap.size, 0, vs.size, 0⟩
  have hle : g.le (g.setOb id 0 s) := Ghost.setOb_le hnone s
  obtain ⟨k1, k2⟩ := h1.put (b := w.heap.size) (ob := .cells cs t) (s := s) hid rfl (by rw [heap_alloc_size]; omega) h.new_ne
    ⟨s, vs, Ghost.setOb_at .., rfl, heap_alloc_at .., hr.mono hle, h.fz_new, h.own_new⟩
  exact ⟨_, k1, k2, .ptr id 0 s (Ghost.setOb_at ..) rfl⟩

theorem allocAt {o : Oper} {ao : AO} {zs : List AVal} {tt : Nat} (hm : makes o ao = true) (ha : ao.op = .alloc zs tt) (hq : cOp T o = some ao.op) (hs : St T.L g w H) {id : Nat} (hid : H[id]? = some .dead) {ρ : Operand → Value} :
    Good T.L g (fun v H' => v = .ptr id 0 ∧ H' = H.set id (.cells zs tt)) (fun _ _ => False) ((execOp ρ o).run T.L.P w) := by
  rw [ha] at hq
  simp only [makes, ha] at hm
  split at hm
  · rename_i t hop
    simp only [cOp, hop] at hq
    simp only [execOp, hop]
    cases hi : T.L.P.info? t with
    | none => simp only [hi] at hq; cases hq
    | some i =>
     cases htt : T.ty t with
     | none => simp only [hi, htt] at hq; cases hq
     | some t' =>
      simp only [hi, htt] at hq
      cases hz : i.zero with
      | none => simp only [hz] at hq; cases hq
      | some z =>
        simp only [hz] at hq
        obtain ⟨zs', h1, hh⟩ := map_some hq
        simp only [AOp.alloc.injEq] at hh
        obtain ⟨rfl, rfl⟩ := hh
        have hrep : RepL T.L g z.cells.toList zs := cScals_rep h1
        obtain ⟨g', k1, k2, k3⟩ := hs.boxAt hid z.cells tt zs hrep
        rw [Tab.ty_eq htt] at k2
        refine good_run (w' := w.alloc (.cells z.cells t)) (v := .pointer (some ⟨w.heap.size, 0, none⟩)) ?_ ⟨_, _, g', ⟨rfl, rfl⟩, k1, k2, k3⟩
        unfold Instr.alloc
        simp [zeroValue, typeInfo, hi, hz, newVar, newRow]
  · cases hm

theorem boxAt {o : Oper} {ao : AO} {x : AX} {tt : Nat} (hm : makes o ao = true) (ha : ao.op = .box tt x) (hq : cOp T o = some ao.op) (hs : St T.L g w H) (hr : RepT T.L g n a.tmps e) (h1 : (ev e x).cells.all oneA = true) {id : Nat} (hid : H[id]? = some .dead) :
    Good T.L g (fun v H' => v = .ptr id 0 ∧ H' = H.set id (.cells (ev e x).cells tt)) (fun _ _ => False) ((execOp a.eval o).run T.L.P w) := by
  rw [ha] at hq
  simp only [makes, ha] at hm
  split at hm
  · rename_i t y hop
    simp only [cOp, hop] at hq
    cases htt : T.ty t <;> cases h2 : cX T y <;> simp only [htt, h2] at hq <;> try (cases hq; done)
    rename_i t' ax
    simp only [Option.some.injEq, AOp.box.injEq] at hq
    obtain ⟨rfl, rfl⟩ := hq
    simp only [execOp, hop]
    have hrep := rep_cells (cX_rep h2 hr) h1
    obtain ⟨g', k1, k2, k3⟩ := hs.boxAt hid (a.eval y).cells _ _ hrep
    rw [Tab.ty_eq htt] at k2
    refine good_run (w' := w.alloc (.cells (a.eval y).cells t)) (v := .pointer (some ⟨w.heap.size, 0, none⟩)) ?_ ⟨_, _, g', ⟨rfl, rfl⟩, k1, k2, k3⟩
    unfold Instr.box
    simp [newVar, newRow]
  · cases hm


/-! ### the list parted -/
def dummy : AO := { dst := none, op := .mv (.const .undef), guard := none }

def maskE (E : Nat → Bool) : Nat → List AO → List AO
  | _, [] => []
  | k, o :: os => (if E k then o else dummy) :: maskE E (k + 1) os

theorem maskE_at {E : Nat → Bool} : ∀ (l : List AO) (k i : Nat) (o : AO), (maskE E k l)[i]? = some o → ∃ o', l[i]? = some o' ∧ o = (if E (k + i) then o' else dummy)
  | [], k, i, o, h => by simp [maskE] at h
  | o' :: os, k, 0, o, h => by simp [maskE] at h; exact ⟨o', rfl, h.symm⟩
  | o' :: os, k, i + 1, o, h => by
    have := maskE_at os (k + 1) i o (by simpa [maskE] using h)
    rw [show k + 1 + i = k + (i + 1) from by omega] at this
    simpa using this
theorem maskE_of {E : Nat → Bool} : ∀ (l : List AO) (k i : Nat) (o : AO), l[i]? = some o → E (k + i) = true → (maskE E k l)[i]? = some o
  | [], k, i, o, h, _ => by simp at h
  | o' :: os, k, 0, o, h, hE => by
    simp at h; subst h
    have : E k = true := hE
    simp [maskE, this]
  | o' :: os, k, i + 1, o, h, hE => by
    simp only [maskE, List.getElem?_cons_succ]
    exact maskE_of os (k + 1) i o (by simpa using h) (by rwa [show k + 1 + i = k + (i + 1) from by omega])
theorem maskE_len {E : Nat → Bool} : ∀ (l : List AO) (k : Nat), (maskE E k l).length = l.length
  | [], k => rfl
  | o :: os, k => by simp [maskE, maskE_len os (k + 1)]

theorem xsoft_mask {L : Lnk} {E : Nat → Bool} {H0 : Heap} {K : Env → Heap → Prop} : ∀ (l : List AO) (k : Nat) (e : Env) (H : Heap), xsoft L H0 (earlyL E k l) e H K → xsoft L H0 (maskE E k l) e H K
  | [], k, e, H, h => h
  | o :: os, k, e, H, h => by
    simp only [earlyL] at h
    simp only [maskE]
    cases hE : E k with
    | false =>
      simp only [hE, Bool.false_eq_true, if_false] at h ⊢
      exact xsoft_mask os (k + 1) e H h
    | true =>
      simp only [hE, if_true] at h ⊢
      simp only [xsoft] at h ⊢
      cases hg : o.guard with
      | none => simp only [hg] at h ⊢; exact softStep_mono (fun v H' h => xsoft_mask os (k + 1) _ _ h) h
      | some p =>
        obtain ⟨t, want⟩ := p
        simp only [hg] at h ⊢
        cases he : e t <;> simp only [he] at h ⊢
        · rename_i b
          cases want <;> cases b <;> first | exact softStep_mono (fun v H' h => xsoft_mask os (k + 1) _ _ h) h | exact xsoft_mask os (k + 1) _ _ h
        · rename_i vs
          cases vs with
          | nil => exact xsoft_mask os (k + 1) _ _ h
          | cons => exact False.elim h

theorem lateL_mem {E : Nat → Bool} : ∀ (l : List AO) (k : Nat) (p : Nat × AO), p ∈ lateL E k l ↔ ∃ i, p.1 = k + i ∧ l[i]? = some p.2 ∧ E (k + i) = false
  | [], k, p => by simp [lateL]
  | o :: os, k, p => by
    have ih := lateL_mem (E := E) os (k + 1) p
    have hsplit : (∃ i, p.1 = k + i ∧ (o :: os)[i]? = some p.2 ∧ E (k + i) = false) ↔ ((p = (k, o) ∧ E k = false) ∨ ∃ i, p.1 = k + 1 + i ∧ os[i]? = some p.2 ∧ E (k + 1 + i) = false) := by
      constructor
      · rintro ⟨i, h1, h2, h3⟩
        cases i with
        | zero =>
          simp at h2
          exact .inl ⟨Prod.ext h1 h2.symm, h3⟩
        | succ i => exact .inr ⟨i, by omega, by simpa using h2, by rwa [show k + 1 + i = k + (i + 1) from by omega]⟩
      · rintro (⟨rfl, h⟩ | ⟨i, h1, h2, h3⟩)
        · exact ⟨0, rfl, rfl, h⟩
        · exact ⟨i + 1, by omega, by simpa using h2, by rwa [show k + (i + 1) = k + 1 + i from by omega]⟩
    rw [hsplit, ← ih]
    simp only [lateL]
    cases hE : E k <;> simp

theorem lateL_sorted {E : Nat → Bool} : ∀ (l : List AO) (k : Nat), (lateL E k l).Pairwise (fun p q => p.1 < q.1)
  | [], k => .nil
  | o :: os, k => by
    simp only [lateL]
    split
    · exact lateL_sorted os (k + 1)
    · refine .cons (fun q hq => ?_) (lateL_sorted os (k + 1))
      obtain ⟨i, h1, _⟩ := (lateL_mem os (k + 1) q).1 hq
      show k < q.1
      omega

/-- What the late operations that have come up have put into their slots. -/
def lateE (U : List (Option Nat × AVal)) (e : Env) : Env := U.foldl (fun e p => putA e p.1 p.2) e

theorem lateE_at {t : Nat} : ∀ (U : List (Option Nat × AVal)) (e e' : Env), e t = e' t → lateE U e t = lateE U e' t
  | [], e, e', h => h
  | p :: U, e, e', h => by
    simp only [lateE, List.foldl_cons]
    exact lateE_at U _ _ (by simp [putA_at, h])
theorem lateE_free {t : Nat} : ∀ (U : List (Option Nat × AVal)) (e : Env), (∀ p ∈ U, p.1 ≠ some t) → lateE U e t = e t
  | [], e, h => rfl
  | p :: U, e, h => by
    simp only [lateE, List.foldl_cons]
    have := lateE_free U (putA e p.1 p.2) (fun q hq => h q (by simp [hq]))
    rw [lateE] at this
    rw [this, putA_at, if_neg (h p (by simp))]
theorem lateE_put {d : Option Nat} {v : AVal} (U : List (Option Nat × AVal)) (e : Env) (h : ∀ p ∈ U, ∀ t, d = some t → p.1 ≠ some t) : lateE U (putA e d v) = putA (lateE U e) d v := by
  funext t
  rw [putA_at]
  by_cases hd : d = some t
  · rw [if_pos hd, lateE_free U _ fun p hp => h p hp t hd, putA_at, if_pos hd]
  · rw [if_neg hd]
    exact lateE_at U _ _ (by rw [putA_at, if_neg hd])
theorem lateE_snoc (U : List (Option Nat × AVal)) (e : Env) (p : Option Nat × AVal) : lateE (U ++ [p]) e = putA (lateE U e) p.1 p.2 := by simp [lateE]

/-- What keeps the variables keeps them. -/
theorem agree.atDead {n id : Nat} {H0 H : Heap} (ha : agree n H0 H) (h1 : H[id]? = some .dead) (o : AObj) : agree n H0 (H.set id o) :=
  ⟨by have := ha.1; simpa using this, fun i ob hi ho hm hd => by
    have h2 := ha.2 i ob hi ho hm hd
    rw [List.getElem?_set_ne]
    · exact h2
    · rintro rfl
      rw [h1] at h2
      exact hd (Option.some.inj h2).symm⟩

theorem keep_agree {L : Lnk} {q : AOp} (hq : isKeep q = true) {e : Env} {n : Nat} {H0 H : Heap} (ha : agree n H0 H) {K KP : AVal → Heap → Prop} (h : stepOp L q e H K KP) :
    stepOp L q e H (fun v H' => K v H' ∧ agree n H0 H') KP := by
  have push : ∀ o, agree n H0 (H ++ [o]) := fun o => ⟨by have := ha.1; simp; omega, fun i ob hi ho hm hd => by
    have h1 := ha.2 i ob hi ho hm hd
    rw [List.getElem?_append_left]
    · exact h1
    · have := ha.1; omega⟩
  by_cases hl : isLight q = true
  · obtain ⟨v, h1, h2⟩ := light hl h
    exact h2 H _ _ ⟨h1, ha⟩
  · cases q <;> first | (cases hq; done) | (exact absurd rfl hl) | skip
    case alloc z t => exact ⟨h, push _⟩
    case box t x => exact ⟨h.1, h.2, push _⟩
    case load k a =>
      simp only [stepOp] at h ⊢
      cases hld : loadAt H k (ev e a) with
      | none => simp only [hld] at h
      | some v => simp only [hld] at h ⊢; exact ⟨h, ha⟩
    case append k bytes t s x =>
      simp only [stepOp] at h ⊢
      unfold appK at h ⊢
      generalize ev e s = vs_ at h ⊢; generalize ev e x = vx at h ⊢; cases vs_ <;> cases vx <;> try exact h.elim
      rename_i xs tk ys tk'
      dsimp only at h ⊢
      refine ⟨h.1, h.2.1, h.2.2.1, h.2.2.2.1, ?_⟩
      replace h := h.2.2.2.2
      by_cases hy : ys = []
      · rw [if_pos hy] at h ⊢; exact ⟨h, ha⟩
      · rw [if_neg hy] at h ⊢
        cases tk with
        | tail id =>
          dsimp only at h ⊢
          cases hH : H[id]? with
          | none => rw [hH] at h; exact h.elim
          | some o =>
            cases o <;> simp only [hH] at h ⊢
            refine ⟨h.1, h.2, by have := ha.1; simpa using this, fun i ob hi ho hm hd => ?_⟩
            have h1 := ha.2 i ob hi ho hm hd
            rw [List.getElem?_set_ne]
            · exact h1
            · rintro rfl
              rw [hH] at h1
              exact hm _ _ (Option.some.inj h1).symm
        | none => exact h.elim
        | nil => exact h.imp (fun h => ⟨h, push _⟩) fun ⟨id, h1, h2⟩ => ⟨id, h1, h2, ha.atDead h1 _⟩
        | full => exact h.imp (fun h => ⟨h, push _⟩) fun ⟨id, h1, h2⟩ => ⟨id, h1, h2, ha.atDead h1 _⟩
    case appendS bytes t s x =>
      simp only [stepOp] at h ⊢
      unfold appSK at h ⊢
      generalize ev e s = vs_ at h ⊢; generalize ev e x = vx at h ⊢; cases vs_ <;> cases vx <;> try exact h.elim
      rename_i xs tk ys
      dsimp only at h ⊢
      refine ⟨h.1, h.2.1, h.2.2.1, ?_⟩
      replace h := h.2.2.2
      by_cases hy : ys = []
      · rw [if_pos hy] at h ⊢; exact ⟨h, ha⟩
      · rw [if_neg hy] at h ⊢
        cases tk with
        | tail id =>
          dsimp only at h ⊢
          cases hH : H[id]? with
          | none => rw [hH] at h; exact h.elim
          | some o =>
            cases o <;> simp only [hH] at h ⊢
            refine ⟨h.1, h.2, by have := ha.1; simpa using this, fun i ob hi ho hm hd => ?_⟩
            have h1 := ha.2 i ob hi ho hm hd
            rw [List.getElem?_set_ne]
            · exact h1
            · rintro rfl
              rw [hH] at h1
              exact hm _ _ (Option.some.inj h1).symm
        | none => exact h.elim
        | nil => exact ⟨h, push _⟩
        | full => exact ⟨h, push _⟩


section
variable {ops : Array Oper} {as : List AO} {E : Nat → Bool} {g0 : Ghost} {Q : Exit → Act → World → Prop} {K : Env → Heap → Prop} {KP : AVal → Heap → Prop}

theorem set_append_pad {H P : Heap} {c : Nat} {x : AObj} : (H ++ P).set (H.length + c) x = H ++ P.set c x := by
  rw [List.set_append_right _ _ (by omega)]
  simp

theorem Tr_len {L : Lnk} {H0 : Heap} : ∀ (l : List AO) (tr : Trace) (e : Env) (len : Nat), Tr L H0 l tr e len → tr.length = l.length
  | [], [], _, _, _ => rfl
  | [], _ :: _, _, _, h => h.elim
  | _ :: _, [], _, _, h => h.elim
  | o :: os, (v, z) :: tr, e, len, h => by simp [Tr_len os tr _ _ h.2]

theorem pad_ext' {S S' : Nat → Bool} : ∀ (tr : Trace) (k : Nat), (∀ j v zs, tr[j]? = some (v, some zs) → S (k + j) = S' (k + j)) → pad S k tr = pad S' k tr
  | [], k, h => rfl
  | (v, none) :: tr, k, h => by
    simp only [pad]
    exact pad_ext' tr (k + 1) fun j u zs hj => by have := h (j + 1) u zs (by simpa using hj); rwa [show k + (j + 1) = k + 1 + j from by omega] at this
  | (v, some zs) :: tr, k, h => by
    simp only [pad]
    have h0 : S k = S' k := h 0 v zs rfl
    rw [h0]
    congr 1
    exact pad_ext' tr (k + 1) fun j u zs hj => by have := h (j + 1) u zs (by simpa using hj); rwa [show k + (j + 1) = k + 1 + j from by omega] at this

/-- A read that tells what it told. -/
def Still (H0 H : Heap) (e : Env) (q : AOp) : Prop := ∃ k a, q = .load k a ∧ ∀ v, loadAt H0 k (ev e a) = some v → ptrOK H0.length (ev e a) = true → loadAt H k (ev e a) = some v

theorem load_ptr {H : Heap} {k : Option Nat} {a v : AVal} (h : loadAt H k a = some v) : ptrOK H.length a = true := by
  have key : ∀ m c, cellsAt H a m = some c → ptrOK H.length a = true := fun m c hc => by
    cases a <;> simp only [cellsAt] at hc <;> first | (cases hc; done) | rfl | skip
    rename_i id off
    cases ho : H[id]? with
    | none => rw [ho] at hc; cases hc
    | some o =>
      rcases Nat.lt_or_ge id H.length with h' | h'
      · simp [ptrOK, h']
      · rw [List.getElem?_eq_none h'] at ho; cases ho
  unfold loadAt at h
  cases k with
  | none => dsimp only at h; cases hc : cellsAt H a 1 with
    | none => rw [hc] at h; cases h
    | some c => exact key _ _ hc
  | some k => dsimp only at h; cases hc : cellsAt H a k with
    | none => rw [hc] at h; cases h
    | some c => exact key _ _ hc

theorem loadAt_set {n id : Nat} {H : Heap} {o : AObj} (hn : n ≤ id) {k : Option Nat} {a : AVal} (hp : ptrOK n a = true) : loadAt (H.set id o) k a = loadAt H k a := by
  have key : ∀ m, cellsAt (H.set id o) a m = cellsAt H a m := fun m => by
    cases a <;> try rfl
    rename_i id' off
    have : id' < n := by simpa [ptrOK] using hp
    simp only [cellsAt]
    rw [List.getElem?_set_ne (by omega)]
  unfold loadAt
  cases k <;> simp only [key]

theorem agree.trans {n : Nat} {H0 H H' : Heap} (h : agree n H0 H) (h' : agree H.length H H') : agree n H0 H' :=
  ⟨Nat.le_trans h.1 h'.1, fun i o hi ho hm hd => h'.2 i o (by have := h.1; omega) (h.2 i o hi ho hm hd) hm hd⟩
theorem agree.refl (H : Heap) : agree H.length H H := ⟨Nat.le_refl _, fun _ _ _ h _ _ => h⟩

theorem Still.keep {H0 H H' : Heap} {e : Env} {q : AOp} (h : Still H0 H e q) (ha : agree H.length H H') : Still H0 H' e q := by
  obtain ⟨k, a, e1, h1⟩ := h
  exact ⟨k, a, e1, fun v hv hp => loadAt_agree ha (load_ptr (h1 v hv hp)) (h1 v hv hp)⟩
theorem Still.set {H0 H : Heap} {e : Env} {q : AOp} (h : Still H0 H e q) {id : Nat} (hid : H0.length ≤ id) (o : AObj) : Still H0 (H.set id o) e q := by
  obtain ⟨k, a, e1, h1⟩ := h
  exact ⟨k, a, e1, fun v hv hp => by rw [loadAt_set hid hp]; exact h1 v hv hp⟩

theorem loadsOK_at (h : loadsOK as E = true) {i j : Nat} {oi oj : AO} {d : Nat} (hi : as[i]? = some oi) (hj : as[j]? = some oj) (hE : E i = true) (hl : isLoad oi.op = true) (hij : i ≤ j) (hEj : E j = true) (hd : oj.dst = some d) : d ∉ oi.looks := by
  have lt : ∀ {k : Nat} {o : AO}, as[k]? = some o → k < as.length := fun {k o} hk => by
    rcases Nat.lt_or_ge k as.length with h' | h'
    · exact h'
    · rw [List.getElem?_eq_none h'] at hk; cases hk
  simp only [loadsOK, List.all_eq_true, List.mem_range] at h
  have h1 := h i (lt hi)
  simp only [hi, hE, hl, Bool.and_self, Bool.not_true, Bool.false_or, List.all_eq_true, List.mem_range] at h1
  have h2 := h1 j (lt hj)
  simp only [hj, hEj, hd, Bool.not_true, Bool.or_false, Bool.or_eq_true, decide_eq_true_eq] at h2
  have h3 := h2.resolve_left (by omega)
  simpa using h3

theorem keep_call {q : AOp} (h : isKeep q = true) : isCall q = false := by cases q <;> first | rfl | (cases h; done)
theorem lateK_call {P : Heap → Prop} {q : AOp} {H : Heap} {K : Prop} (h : lateK P q H K) : K ∧ (isCall q = true → P H) := by
  cases q <;> simp only [lateK] at h <;> first | exact ⟨h.2, fun _ => h.1⟩ | exact ⟨h, fun hc => by cases hc⟩

/-- What holds while a drawn region runs: the early operations of S have come up (and told what they tell), the late ones up to 'rem'. -/
structure Mid (T : Tab) (as : List AO) (E : Nat → Bool) (n : Nat) (K : Env → Heap → Prop) (KP : AVal → Heap → Prop) (cx : Bool) (P : Heap → Prop) (H0 : Heap) (e0 : Env) (tr : Trace) (g0 : Ghost) (S : Nat → Bool) (rem : List (Nat × AO)) (a : Act) (w : World) (H : Heap) (g : Ghost) (U : List (Option Nat × AVal)) (Hv : Heap) : Prop where
  hg : g0.le g
  hs : St T.L g w H
  hr : RepT T.L g n a.tmps (lateE U (envS S 0 e0 (maskE E 0 as) tr))
  hd : a.defers = []
  rest : xlate T.L P (rem.map (·.2)) (lateE U (envS (fun _ => true) 0 e0 (maskE E 0 as) tr)) Hv K KP
  suf : ∃ pre, lateL E 0 as = pre ++ rem
  remS : ∀ p ∈ rem, S p.1 = false
  done : ∀ k o, as[k]? = some o → E k = false → S k = false → (k, o) ∈ rem
  slots : ∀ p ∈ U, ∃ k o, as[k]? = some o ∧ E k = false ∧ S k = true ∧ p.1 = o.dst
  heap : (H = Hv ∧ (∀ i v zs, tr[i]? = some (v, some zs) → S i = true)) ∨ (U = [] ∧ Hv = H0 ++ pad (fun _ => true) 0 tr ∧ H = H0 ++ pad S 0 tr)
  agr : ∀ i o, as[i]? = some o → E i = true → S i = false → isLight o.op = true ∨ agree H0.length H0 H ∨ (cx = true ∧ Still H0 H (envS (fun _ => true) 0 e0 (maskE E 0 as) tr) o.op)

theorem SoftAct_new {L : Lnk} {o : AO} {e : Env} {H0 : Heap} {len : Nat} {v : AVal} {zs : AObj} (h : SoftAct L o e H0 len v (some zs)) : isNew o.op = true := by
  have key : SoftFact L o.op e H0 len v (some zs) → isNew o.op = true := fun hf => by
    rcases hf.2 with ⟨_, _, h1, _⟩ | ⟨x, _, h1, _⟩ <;> rw [h1] <;> rfl
  unfold SoftAct at h
  cases hg : o.guard with
  | none => rw [hg] at h; exact key h
  | some p =>
    obtain ⟨t, want⟩ := p
    rw [hg] at h
    rcases h with ⟨b, _, h⟩ | ⟨_, _, h⟩
    · rcases h with ⟨_, h⟩ | ⟨_, _, h⟩
      · exact key h
      · cases h
    · cases h

theorem addS_on {S : Nat → Bool} {i k : Nat} (h : S k = true) : addS S i k = true := by simp [addS, h]
theorem addS_off {S : Nat → Bool} {i k : Nat} (h : addS S i k = false) : S k = false ∧ k ≠ i := by simp [addS] at h; exact ⟨h.2, h.1⟩

theorem mid_sound {cx : Bool} {P : Heap → Prop} {H0 : Heap} {e0 : Env} {tr : Trace} (hdr : drawOK cx ops as (masks ops.toList []) E = true) (hcl : cx = true → loadsOK as E = true)
    (hPs : cx = true → ∀ H', P H' → ∀ i o, as[i]? = some o → E i = true → isLoad o.op = true → Still H0 H' (envS (fun _ => true) 0 e0 (maskE E 0 as) tr) o.op) (hcs : ∀ (i : Nat) (o : Oper), ops[i]? = some o → ∃ ao, as[i]? = some ao ∧ cOper T n ops o = some ao) (hlen : as.length = ops.size)
    (hK : ∀ a w e H g, K e H → g0.le g → St T.L g w H → RepT T.L g n a.tmps e → a.defers = [] → Q .normal a w)
    (hP : ∀ v x a w H g, KP x H → g0.le g → St T.L g w H → Rep T.L g v x → a.defers = [] → Q (.panic [⟨v, false, false⟩]) a w)
    (htr : Tr T.L H0 (maskE E 0 as) tr e0 H0.length) :
    ∀ (fuel : Nat) (listed : Array Bool) (rem : List (Nat × AO)) (a : Act) (w : World) (H : Heap) (g : Ghost) (U : List (Option Nat × AVal)) (Hv : Heap), unl (isOn listed) ops.size ≤ fuel → listed.size = ops.size → Closed ops (isOn listed) →
      Mid T as E n K KP cx P H0 e0 tr g0 (isOn listed) rem a w H g U Hv → wpAny T.L.P .any ops Q fuel listed a w := by
  have hT := Tr_len _ _ _ _ htr
  rw [maskE_len] at hT
  have inAs : ∀ {j : Nat} {o : AO}, as[j]? = some o → j < ops.size := fun {j o} hj => by
    rcases Nat.lt_or_ge j as.length with h' | h'
    · omega
    · rw [List.getElem?_eq_none h'] at hj; cases hj
  have masked : ∀ {j t : Nat} {oj : AO}, (maskE E 0 as)[j]? = some oj → oj.dst = some t → as[j]? = some oj ∧ E j = true := fun {j t oj} hj hd => by
    obtain ⟨o', h1, h2⟩ := maskE_at as 0 j oj hj
    rw [Nat.zero_add] at h2
    cases hE : E j with
    | true => rw [hE] at h2; simp only [if_true] at h2; exact ⟨h2 ▸ h1, rfl⟩
    | false => rw [hE] at h2; simp only [Bool.false_eq_true, if_false] at h2; rw [h2] at hd; cases hd
  have newE : ∀ {j : Nat} {v : AVal} {zs : AObj}, tr[j]? = some (v, some zs) → ∃ o, as[j]? = some o ∧ E j = true ∧ isNew o.op = true := fun {j v zs} hj => by
    have hjl : j < (maskE E 0 as).length := by
      rw [maskE_len]
      rcases Nat.lt_or_ge j tr.length with h' | h'
      · omega
      · rw [List.getElem?_eq_none h'] at hj; cases hj
    have hm : (maskE E 0 as)[j]? = some (maskE E 0 as)[j] := List.getElem?_eq_getElem hjl
    obtain ⟨v', z', h1, h2⟩ := Tr_at _ tr 0 e0 H0.length htr j _ hm
    rw [hj] at h1
    cases h1
    have hnew := SoftAct_new h2
    obtain ⟨o', h3, h4⟩ := maskE_at as 0 j _ hm
    rw [Nat.zero_add] at h4
    cases hE : E j with
    | true => rw [hE] at h4; simp only [if_true] at h4; rw [h4] at hnew; exact ⟨o', h3, rfl, hnew⟩
    | false => rw [hE] at h4; simp only [Bool.false_eq_true, if_false] at h4; rw [h4] at hnew; cases hnew
  have padAll : ∀ (S : Nat → Bool), (∀ j v zs, tr[j]? = some (v, some zs) → S j = true) → pad S 0 tr = pad (fun _ => true) 0 tr := fun S h =>
    pad_ext' tr 0 fun j v zs hj => by rw [Nat.zero_add]; exact h j v zs hj
  have fin : ∀ (listed : Array Bool) (rem : List (Nat × AO)) (a : Act) (w : World) (H : Heap) (g : Ghost) (U : List (Option Nat × AVal)) (Hv : Heap), (∀ k, k < ops.size → isOn listed k = true) →
      Mid T as E n K KP cx P H0 e0 tr g0 (isOn listed) rem a w H g U Hv → Q .normal a w := by
    intro listed rem a w H g U Hv hall m
    have hrem : rem = [] := by
      cases hr : rem with
      | nil => rfl
      | cons p ps =>
        exfalso
        have h1 := m.remS p (by rw [hr]; simp)
        obtain ⟨pre, hpre⟩ := m.suf
        have hmem : p ∈ lateL E 0 as := by rw [hpre, hr]; simp
        obtain ⟨i, h2, h3, _⟩ := (lateL_mem as 0 p).1 hmem
        rw [Nat.zero_add] at h2
        rw [hall p.1 (by rw [h2]; exact inAs h3)] at h1
        cases h1
    have hrest := m.rest
    rw [hrem] at hrest
    have henv : envS (isOn listed) 0 e0 (maskE E 0 as) tr = envS (fun _ => true) 0 e0 (maskE E 0 as) tr := by
      funext t
      exact env_congr _ _ _ _ _ (fun j o hj hd => by rw [Nat.zero_add]; exact hall j (inAs (masked hj hd).1)) rfl
    have hheap : H = Hv := by
      rcases m.heap with h | ⟨_, h1, h2⟩
      · exact h.1
      · rw [h1, h2, padAll _ fun j v zs hj => by obtain ⟨o, h3, _⟩ := newE hj; exact hall j (inAs h3)]
    have hr := m.hr
    rw [henv] at hr
    exact hK _ _ _ _ g (by rw [hheap]; exact hrest) m.hg m.hs hr m.hd
  intro fuel
  induction fuel with
  | zero =>
    intro listed rem a w H g U Hv hf hsz hc m
    have hall := unl_zero ops.size (Nat.le_zero.1 hf)
    refine ⟨?_, fin listed rem a w H g U Hv hall m⟩
    cases hrd : Region.ready .any ops listed with
    | nil => rfl
    | cons i is =>
      obtain ⟨h1, h2, _⟩ := ready_off (by rw [hrd]; simp : i ∈ Region.ready .any ops listed) hsz
      rw [hall i h2] at h1
      cases h1
  | succ fuel ih =>
    intro listed rem a w H g U Hv hf hsz hc m
    refine ⟨fun hrd => fin listed rem a w H g U Hv (ready_all hdr hrd hsz) m, fun i hi => ?_⟩
    obtain ⟨h1, h2, o, h3, h4⟩ := ready_off hi hsz
    obtain ⟨ao, hao, hmk, hlow, hpairs⟩ := drawOK_at hdr h3
    obtain ⟨ao', hao', hco⟩ := hcs i o h3
    rw [hao] at hao'
    cases hao'
    have hS' : isOn (listed.setIfInBounds i true) = addS (isOn listed) i := isOn_set (by omega)
    have hunl : unl (isOn (listed.setIfInBounds i true)) ops.size ≤ fuel := by
      rw [hS']
      have := unl_add h1 ops.size h2
      omega
    have behind : ∀ j oj, ops[j]? = some oj → waits (masks ops.toList []) j i = true → isOn listed j = false := fun j oj hj hmem => by
      cases hon : isOn listed j with
      | false => rfl
      | true => have := clo_listed hc j (.inl hon) i hmem; rw [h1] at this; cases this
    have before : ∀ j, waits (masks ops.toList []) i j = true → isOn listed j = true := fun j hmem => clo_listed hc i (.inr ⟨o, h3, h4⟩) j hmem
    obtain ⟨q1, q2, q3, q4⟩ := cOper_some hco
    cases hE : E i with
    | true =>
      have hto : (maskE E 0 as)[i]? = some ao := maskE_of as 0 i ao hao (by rw [Nat.zero_add]; exact hE)
      obtain ⟨v, z, hvz, hact⟩ := Tr_at _ tr 0 e0 H0.length htr i ao hto
      rw [Nat.zero_add] at hact
      -- late operations that have come up wait not for this one
      have cross : ∀ k ok, as[k]? = some ok → E k = false → isOn listed k = true → crossOK cx ao ok = true := fun k ok hk hEk hon => by
        have hks := inAs hk
        have hok : ops[k]? = some ops[k] := Array.getElem?_eq_getElem hks
        obtain ⟨ak, k0, _, _, kp⟩ := drawOK_at hdr hok
        rw [hk] at k0; cases k0
        obtain ⟨ai, k1, k2⟩ := kp i h2
        rw [hao] at k1; cases k1
        rw [hEk, hE] at k2
        rcases k2 with k2 | k2
        · have := behind k _ hok k2; rw [hon] at this; cases this
        · exact k2
      have pairs : ∀ j oj, as[j]? = some oj → E j = true → (j < i → pairOK (masks ops.toList []) j i oj ao = true) ∧ (i < j → pairOK (masks ops.toList []) i j ao oj = true) := fun j oj hj hEj => by
        have hjs := inAs hj
        have hoj : ops[j]? = some ops[j] := Array.getElem?_eq_getElem hjs
        constructor
        · intro hji
          obtain ⟨aj, k1, k2⟩ := hpairs j hjs
          rw [hj] at k1; cases k1
          rw [hE, hEj] at k2
          exact k2 hji
        · intro hij
          obtain ⟨aj, k0, _, _, kp⟩ := drawOK_at hdr hoj
          rw [hj] at k0; cases k0
          obtain ⟨ai, k1, k2⟩ := kp i h2
          rw [hao] at k1; cases k1
          rw [hEj, hE] at k2
          exact k2 hij
      have hsee : ∀ t ∈ ao.looks, envS (fun j => decide (j < i)) 0 e0 (maskE E 0 as) tr t = lateE U (envS (isOn listed) 0 e0 (maskE E 0 as) tr) t := fun t ht => by
        rw [lateE_free U _ fun p hp hpt => by
          obtain ⟨k, ok, k1, k2, k3, k4⟩ := m.slots p hp
          have := cross k ok k1 k2 k3
          simp only [crossOK, Bool.and_eq_true] at this
          rw [k4] at hpt
          simp [hpt, ht] at this]
        refine env_congr _ _ _ _ _ (fun j oj hj hdst => ?_) rfl
        rw [Nat.zero_add]
        obtain ⟨hj, hEj⟩ := masked hj hdst
        have hjs := inAs hj
        have hoj : ops[j]? = some ops[j] := Array.getElem?_eq_getElem hjs
        rcases Nat.lt_trichotomy j i with hji | hji | hji
        · have k2 := (pairs j oj hj hEj).1 hji
          simp only [pairOK, Bool.and_eq_true, hdst] at k2
          have k3 := k2.1
          have hmem : waits (masks ops.toList []) i j = true := by
            simp only [Bool.or_eq_true, Bool.and_eq_true] at k3
            rcases k3 with k3 | k3
            · have := k3.1; simp [ht] at this
            · simpa using k3
          rw [before j hmem]
          simpa using hji
        · subst hji; rw [h1]; simp
        · have k2 := (pairs j oj hj hEj).2 hji
          simp only [pairOK, Bool.and_eq_true, hdst] at k2
          have k3 := k2.2
          have hmem : waits (masks ops.toList []) j i = true := by
            simp only [Bool.or_eq_true] at k3
            rcases k3 with k3 | k3
            · simp [ht] at k3
            · simpa using k3
          rw [behind j _ hoj hmem]
          simp; omega
      have hnewE : lateE U (envS (isOn (listed.setIfInBounds i true)) 0 e0 (maskE E 0 as) tr) = putA (lateE U (envS (isOn listed) 0 e0 (maskE E 0 as) tr)) ao.dst v := by
        rw [hS']
        have := env_add (S := isOn listed) (maskE E 0 as) tr 0 i e0 hto hvz (by rw [Nat.zero_add]; exact h1) (fun j oj d hj hij hS hdst hdj => by
          rw [Nat.zero_add] at hS
          obtain ⟨hj, hEj⟩ := masked hj hdj
          have hjs := inAs hj
          have hoj : ops[j]? = some ops[j] := Array.getElem?_eq_getElem hjs
          have k2 := (pairs j oj hj hEj).2 hij
          simp only [pairOK, Bool.and_eq_true, hdst] at k2
          have k3 := k2.1
          simp only [Bool.or_eq_true, Bool.and_eq_true] at k3
          rcases k3 with k3 | k3
          · simp [hdj] at k3
          · rw [behind j _ hoj (by simpa using k3)] at hS; cases hS)
        rw [Nat.zero_add] at this
        rw [this]
        refine lateE_put U _ fun p hp t ht => ?_
        obtain ⟨k, ok, k1, k2, k3, k4⟩ := m.slots p hp
        have := cross k ok k1 k2 k3
        simp only [crossOK, Bool.and_eq_true, ht] at this
        rw [k4]
        have h5 := this.1.2.2
        simpa using h5
      -- the heap once it has come up
      obtain ⟨H', hH'⟩ : ∃ H', H' = (match z with | none => H | some zs => H.set (H0.length + cnt tr i) zs) := ⟨_, rfl⟩
      have next : ∀ (u : Value) (w' : World) (g' : Ghost), g.le g' → St T.L g' w' H' → Rep T.L g' u v → wpAny T.L.P .any ops Q fuel (listed.setIfInBounds i true) (a.put o.dst u) w' := fun u w' g' k1 k2 k3 => by
        obtain ⟨p1, p2⟩ := (m.hr.mono k1).putO q3 k3
        refine ih _ rem _ _ H' g' U Hv hunl (by simpa using hsz) (hc.add hsz hi) ?_
        refine { hg := m.hg.trans k1, hs := k2, hr := ?_, hd := p2.trans m.hd, rest := m.rest, suf := m.suf, remS := fun p hp => ?_, done := fun k ok k1 k2 k3 => ?_, slots := fun p hp => ?_, heap := ?_, agr := ?_ }
        · rw [hnewE, q2]; exact p1
        · rw [hS']
          have hne : p.1 ≠ i := fun e => by
            obtain ⟨pre, hpre⟩ := m.suf
            have hmem : p ∈ lateL E 0 as := by rw [hpre]; simp [hp]
            obtain ⟨j, q1, q2, q3⟩ := (lateL_mem as 0 p).1 hmem
            rw [← q1, e, hE] at q3
            cases q3
          simp [addS, hne, m.remS p hp]
        · rw [hS'] at k3
          exact m.done k ok k1 k2 (addS_off k3).1
        · obtain ⟨k, ok, k1, k2, k3, k4⟩ := m.slots p hp
          exact ⟨k, ok, k1, k2, by rw [hS']; exact addS_on k3, k4⟩
        · rw [hS']
          rcases m.heap with ⟨k1, k2⟩ | ⟨k1, k2, k3⟩
          · cases z with
            | some zs => have := k2 i v zs hvz; rw [h1] at this; cases this
            | none => exact .inl ⟨by rw [hH']; exact k1, fun j u zs hj => addS_on (k2 j u zs hj)⟩
          · refine .inr ⟨k1, k2, ?_⟩
            cases z with
            | none =>
              have hp := pad_none (S := isOn listed) tr 0 i hvz
              rw [Nat.zero_add] at hp
              rw [hH', hp]; exact k3
            | some zs =>
              have hp := pad_set (S := isOn listed) tr 0 i hvz
              rw [Nat.zero_add] at hp
              rw [hH', hp, ← set_append_pad]
              dsimp only
              rw [k3]
        · intro j oj hj hEj hon
          rw [hS'] at hon
          rcases m.agr j oj hj hEj (addS_off hon).1 with k1 | k1 | k1
          · exact .inl k1
          · refine .inr (.inl ?_)
            cases z with
            | none => rw [hH']; exact k1
            | some zs =>
              rw [hH']
              refine ⟨by have := k1.1; simpa using this, fun j ob hj ho hm hd => ?_⟩
              dsimp only
              rw [List.getElem?_set_ne (by omega)]
              exact k1.2 j ob hj ho hm hd
          · refine .inr (.inr ?_)
            cases z with
            | none => rw [hH']; exact k1
            | some zs => rw [hH']; exact ⟨k1.1, k1.2.set (by omega) zs⟩
      have hxs : ∀ x ∈ ao.op.xs, ev (envS (fun j => decide (j < i)) 0 e0 (maskE E 0 as) tr) x = ev (lateE U (envS (isOn listed) 0 e0 (maskE E 0 as) tr)) x := fun x hx => by
        cases x with
        | const c => rfl
        | tmp t => exact hsee t (by simp only [AO.looks, List.mem_append, List.mem_flatMap]; exact .inl ⟨_, hx, by simp [AX.slots]⟩)
      have perform : SoftFact T.L ao.op (envS (fun j => decide (j < i)) 0 e0 (maskE E 0 as) tr) H0 (H0.length + cnt tr i) v z → Oper.wp T.L.P o a w (wpAny T.L.P .any ops Q fuel (listed.setIfInBounds i true)) Q := fun hf => by
        have hgood : Good T.L g (fun v' H'' => v' = v ∧ H'' = H') (fun _ _ => False) ((execOp a.eval o).run T.L.P w) := by
          cases z with
          | none =>
            have hh : H' = H := hH'
            rw [hh]
            refine op_sound q1 m.hs m.hr (stepOp_congr hxs (hf.2 H ?_ _ _ ⟨rfl, rfl⟩))
            rcases m.agr i ao hao hE h1 with k1 | k1 | ⟨hcx, k', a', e1, k1⟩
            · exact .inl k1
            · exact .inr (.inl k1)
            · refine .inr (.inr ⟨k', a', e1, ?_⟩)
              have hev : ev (envS (fun j => decide (j < i)) 0 e0 (maskE E 0 as) tr) a' = ev (envS (fun _ => true) 0 e0 (maskE E 0 as) tr) a' := by
                cases a' with
                | const c => rfl
                | tmp t =>
                  refine env_congr _ _ _ _ _ (fun j oj hj hdst => ?_) rfl
                  rw [Nat.zero_add]
                  obtain ⟨hj, hEj⟩ := masked hj hdst
                  rcases Nat.lt_or_ge j i with h' | h'
                  · simp [h']
                  · exact absurd (by simp [AO.looks, e1, AOp.xs, AX.slots]) (loadsOK_at (hcl hcx) hao hj hE (by rw [e1]; rfl) h' hEj hdst)
              rw [hev]; exact k1
          | some zs =>
            have hh : H' = H.set (H0.length + cnt tr i) zs := hH'
            rcases m.heap with ⟨_, k2⟩ | ⟨k1, k2, k3⟩
            · have := k2 i v zs hvz; rw [h1] at this; cases this
            · have hat := pad_at (S := isOn listed) tr 0 i hvz
              rw [Nat.zero_add, h1] at hat
              obtain ⟨rfl, hf⟩ := hf
              rw [hh]
              have hid : H[H0.length + cnt tr i]? = some .dead := by
                rw [k3, List.getElem?_append_right (by omega)]
                simpa using hat
              rcases hf with ⟨cs, tt, hf, rfl⟩ | ⟨x, tt, hf, rfl, hx2⟩
              · exact allocAt hmk hf q1 m.hs hid
              · have hxx := hxs x (by rw [hf]; simp [AOp.xs])
                rw [hxx] at hx2 ⊢
                exact boxAt hmk hf q1 m.hs m.hr hx2 hid
        exact oper_sound hgood (fun u x w' H'' g' k1 k2 k3 k4 => by
          obtain ⟨rfl, rfl⟩ := k1
          exact next u w' g' k2 k3 k4) (fun _ _ _ _ _ k1 => k1.elim)
      unfold wpOp
      rw [h3]
      cases hgd : o.guard with
      | none =>
        rw [hgd] at q4
        simp only [SoftAct, q4] at hact
        dsimp only
        rw [if_pos (by simp [Region.wanted, hgd])]
        exact .inl (perform hact)
      | some pw =>
        obtain ⟨jg, want⟩ := pw
        rw [hgd] at q4
        obtain ⟨oj, t, e1, e2, e3⟩ := q4
        simp only [SoftAct, e3] at hact
        dsimp only
        rcases hact with ⟨b, hb, hact⟩ | ⟨hb, rfl, rfl⟩
        · rw [hsee t (by simp [AO.looks, e3])] at hb
          have hy := yielded_rep (tmps := a.tmps) e1 e2 (hb ▸ m.hr.rep t)
          rcases hact with ⟨rfl, hact⟩ | ⟨hne, rfl, rfl⟩
          · rw [if_pos (by simp [Region.wanted, hgd, hy])]
            exact .inl (perform hact)
          · rw [if_neg (by simp [Region.wanted, hgd, hy]; exact hne)]
            exact next undef w g (Ghost.le.refl g) (by rw [hH']; exact m.hs) (rep_skip g)
        · rw [hsee t (by simp [AO.looks, e3])] at hb
          have hy := yielded_none (tmps := a.tmps) e1 e2 (hb ▸ m.hr.rep t)
          rw [if_neg (by simp [Region.wanted, hgd, hy])]
          exact next undef w g (Ghost.le.refl g) (by rw [hH']; exact m.hs) (rep_skip g)
    | false =>
      have hin := m.done i ao hao hE h1
      obtain ⟨pre, hpre⟩ := m.suf
      have remE : ∀ p ∈ rem, as[p.1]? = some p.2 ∧ E p.1 = false := fun p hp => by
        have hmem : p ∈ lateL E 0 as := by rw [hpre]; simp [hp]
        obtain ⟨j, k1, k2, k3⟩ := (lateL_mem as 0 p).1 hmem
        rw [Nat.zero_add] at k1 k3
        rw [k1]; exact ⟨k2, k3⟩
      have hsorted : rem.Pairwise (fun p q => p.1 < q.1) := by
        have := lateL_sorted (E := E) as 0
        rw [hpre] at this
        exact (List.pairwise_append.1 this).2.1
      obtain ⟨rs, hrem⟩ : ∃ rs, rem = (i, ao) :: rs := by
        cases hr : rem with
        | nil => rw [hr] at hin; cases hin
        | cons p ps =>
          rw [hr] at hin hsorted
          rcases List.mem_cons.1 hin with hin | hin
          · exact ⟨ps, by rw [hin]⟩
          · exfalso
            have hlt : p.1 < i := (List.pairwise_cons.1 hsorted).1 _ hin
            obtain ⟨k1, k2⟩ := remE p (by rw [hr]; simp)
            obtain ⟨ak, k3, k4⟩ := hpairs p.1 (inAs k1)
            rw [hE, k2] at k4
            have := before p.1 (k4 hlt)
            rw [m.remS p (by rw [hr]; simp)] at this
            cases this
      -- an early one that has not come up is in nobody's way
      have cross : ∀ k ok, as[k]? = some ok → E k = true → isOn listed k = false → crossOK cx ok ao = true := fun k ok hk hEk hon => by
        obtain ⟨ak, k1, k2⟩ := hpairs k (inAs hk)
        rw [hk] at k1; cases k1
        rw [hE, hEk] at k2
        rcases k2 with k2 | k2
        · have := before k k2; rw [hon] at this; cases this
        · exact k2
      have allNew : ∀ j v zs, tr[j]? = some (v, some zs) → isOn listed j = true := fun j v zs hj => by
        obtain ⟨oj, k1, k2, k3⟩ := newE hj
        cases hon : isOn listed j with
        | true => rfl
        | false =>
          have := cross j oj k1 k2 hon
          simp [crossOK, k3] at this
      have hHv : H = Hv := by
        rcases m.heap with h | ⟨_, k1, k2⟩
        · exact h.1
        · rw [k1, k2, padAll _ allNew]
      subst hHv
      have hsee : ∀ t ∈ ao.looks, lateE U (envS (fun _ => true) 0 e0 (maskE E 0 as) tr) t = lateE U (envS (isOn listed) 0 e0 (maskE E 0 as) tr) t := fun t ht => by
        refine lateE_at U _ _ (env_congr _ _ _ _ _ (fun j oj hj hdst => ?_) rfl)
        rw [Nat.zero_add]
        obtain ⟨hj, hEj⟩ := masked hj hdst
        cases hon : isOn listed j with
        | true => rfl
        | false =>
          have := cross j oj hj hEj hon
          simp [crossOK, hdst, ht] at this
      have hxs : ∀ x ∈ ao.op.xs, ev (lateE U (envS (fun _ => true) 0 e0 (maskE E 0 as) tr)) x = ev (lateE U (envS (isOn listed) 0 e0 (maskE E 0 as) tr)) x := fun x hx => by
        cases x with
        | const c => rfl
        | tmp t => exact hsee t (by simp only [AO.looks, List.mem_append, List.mem_flatMap]; exact .inl ⟨_, hx, by simp [AX.slots]⟩)
      have hnewE : envS (isOn (listed.setIfInBounds i true)) 0 e0 (maskE E 0 as) tr = envS (isOn listed) 0 e0 (maskE E 0 as) tr := by
        rw [hS']
        funext t
        refine env_congr _ _ _ _ _ (fun j oj hj hdst => ?_) rfl
        rw [Nat.zero_add]
        obtain ⟨hj, hEj⟩ := masked hj hdst
        have hji : j ≠ i := fun e => by rw [e, hE] at hEj; cases hEj
        simp [addS, hji]
      have next : ∀ (v : AVal) (H' : Heap) (u : Value) (w' : World) (g' : Ghost), xlate T.L P (rs.map (·.2)) (putA (lateE U (envS (fun _ => true) 0 e0 (maskE E 0 as) tr)) ao.dst v) H' K KP →
          (∀ j oj, as[j]? = some oj → E j = true → isOn listed j = false → isLight oj.op = true ∨ agree H0.length H0 H' ∨ (cx = true ∧ Still H0 H' (envS (fun _ => true) 0 e0 (maskE E 0 as) tr) oj.op)) → g.le g' → St T.L g' w' H' → Rep T.L g' u v →
          wpAny T.L.P .any ops Q fuel (listed.setIfInBounds i true) (a.put o.dst u) w' := fun v H' u w' g' hrest hagr k1 k2 k3 => by
        obtain ⟨p1, p2⟩ := (m.hr.mono k1).putO q3 k3
        refine ih _ rs _ _ H' g' (U ++ [(ao.dst, v)]) H' hunl (by simpa using hsz) (hc.add hsz hi) ?_
        refine { hg := m.hg.trans k1, hs := k2, hr := ?_, hd := p2.trans m.hd, rest := ?_, suf := ⟨pre ++ [(i, ao)], by rw [hpre, hrem]; simp⟩, remS := fun p hp => ?_, done := fun k ok k1 k2 k3 => ?_, slots := fun p hp => ?_, heap := .inl ⟨rfl, fun j u zs hj => by rw [hS']; exact addS_on (allNew j u zs hj)⟩, agr := ?_ }
        · rw [hnewE, lateE_snoc, q2]
          exact p1
        · rw [lateE_snoc]; exact hrest
        · rw [hS']
          have hne : p.1 ≠ i := by
            rw [hrem] at hsorted
            have := (List.pairwise_cons.1 hsorted).1 p hp
            have : i < p.1 := this
            omega
          simp [addS, hne, m.remS p (by rw [hrem]; simp [hp])]
        · rw [hS'] at k3
          obtain ⟨k4, k5⟩ := addS_off k3
          have := m.done k ok k1 k2 k4
          rw [hrem] at this
          rcases List.mem_cons.1 this with h | h
          · exact absurd (congrArg Prod.fst h) k5
          · exact h
        · rcases List.mem_append.1 hp with hp | hp
          · obtain ⟨k, ok, k1, k2, k3, k4⟩ := m.slots p hp
            exact ⟨k, ok, k1, k2, by rw [hS']; exact addS_on k3, k4⟩
          · simp only [List.mem_singleton] at hp
            exact ⟨i, ao, hao, hE, by rw [hS']; simp [addS], by rw [hp]⟩
        · exact fun j oj hj hEj hon => hagr j oj hj hEj (by rw [hS'] at hon; exact (addS_off hon).1)
      have perform : stepOp T.L ao.op (lateE U (envS (fun _ => true) 0 e0 (maskE E 0 as) tr)) H (fun v H' => lateK P ao.op H' (xlate T.L P (rs.map (·.2)) (putA (lateE U (envS (fun _ => true) 0 e0 (maskE E 0 as) tr)) ao.dst v) H' K KP)) KP →
          Oper.wp T.L.P o a w (wpAny T.L.P .any ops Q fuel (listed.setIfInBounds i true)) Q := fun hst => by
        have hst' : stepOp T.L ao.op (lateE U (envS (fun _ => true) 0 e0 (maskE E 0 as) tr)) H (fun v H' => xlate T.L P (rs.map (·.2)) (putA (lateE U (envS (fun _ => true) 0 e0 (maskE E 0 as) tr)) ao.dst v) H' K KP ∧
            (∀ j oj, as[j]? = some oj → E j = true → isOn listed j = false → isLight oj.op = true ∨ agree H0.length H0 H' ∨ (cx = true ∧ Still H0 H' (envS (fun _ => true) 0 e0 (maskE E 0 as) tr) oj.op))) KP := by
          by_cases hk : isKeep ao.op = true
          · refine stepOp_mono (fun v H' h => ⟨(lateK_call h.1).1, fun j oj hj hEj hon => ?_⟩) (fun _ _ h => h) (keep_agree hk (agree.refl H) hst)
            rcases m.agr j oj hj hEj hon with k1 | k1 | k1
            · exact .inl k1
            · exact .inr (.inl (k1.trans h.2))
            · exact .inr (.inr ⟨k1.1, k1.2.keep h.2⟩)
          · refine stepOp_mono (fun v H' h => ⟨(lateK_call h).1, fun j oj hj hEj hon => ?_⟩) (fun _ _ h => h) hst
            have := cross j oj hj hEj hon
            simp only [crossOK, Bool.and_eq_true, Bool.or_eq_true] at this
            rcases this.1.1.2 with (k1 | k1) | ⟨⟨k1, k2⟩, k3⟩
            · exact absurd k1 hk
            · exact .inl k1
            · exact .inr (.inr ⟨k1, hPs k1 H' ((lateK_call h).2 k2) j oj hj hEj k3⟩)
        exact oper_sound (op_sound q1 m.hs m.hr (stepOp_congr hxs hst'))
          (fun u x w' H' g' k1 k2 k3 k4 => next x H' u w' g' k1.1 k1.2 k2 k3 k4)
          (fun u x w' H' g' k1 k2 k3 k4 => hP u x a w' H' g' k1 (m.hg.trans k2) k3 k4 m.hd)
      have hrest := m.rest
      rw [hrem] at hrest
      simp only [List.map_cons, xlate] at hrest
      unfold wpOp
      rw [h3]
      cases hgd : o.guard with
      | none =>
        rw [hgd] at q4
        simp only [q4] at hrest
        dsimp only
        rw [if_pos (by simp [Region.wanted, hgd])]
        exact .inl (perform hrest)
      | some pw =>
        obtain ⟨jg, want⟩ := pw
        rw [hgd] at q4
        obtain ⟨oj, t, e1, e2, e3⟩ := q4
        simp only [e3] at hrest
        have hst := hsee t (by simp [AO.looks, e3])
        have skip : xlate T.L P (rs.map (·.2)) (putA (lateE U (envS (fun _ => true) 0 e0 (maskE E 0 as) tr)) ao.dst (.tup [])) H K KP → wpAny T.L.P .any ops Q fuel (listed.setIfInBounds i true) (a.put o.dst undef) w := fun h =>
          next (.tup []) H undef w g h m.agr (Ghost.le.refl g) m.hs (rep_skip g)
        dsimp only
        cases hb : lateE U (envS (fun _ => true) 0 e0 (maskE E 0 as) tr) t <;> simp only [hb] at hrest
        case tup vs =>
          cases vs with
          | cons => exact False.elim hrest
          | nil =>
            rw [hb] at hst
            have hy := yielded_none (tmps := a.tmps) e1 e2 (hst.symm ▸ m.hr.rep t)
            rw [if_neg (by simp [Region.wanted, hgd, hy])]
            exact skip hrest
        rename_i b
        rw [hb] at hst
        have hy := yielded_rep (tmps := a.tmps) e1 e2 (hst.symm ▸ m.hr.rep t)
        cases want <;> cases b <;> first
          | (rw [if_pos (by simp [Region.wanted, hgd, hy])]; exact .inl (perform hrest))
          | (rw [if_neg (by simp [Region.wanted, hgd, hy])]; exact skip hrest)
/-- Places kept. -/
theorem St.pads (h : St L g w H) (m : Nat) : St L g w (H ++ List.replicate m .dead) := by
  have hget : ∀ (i : Nat) (o : AObj), (H ++ List.replicate m .dead)[i]? = some o → H[i]? = some o ∨ (H.length ≤ i ∧ o = .dead) := by
    intro i o hi
    rcases Nat.lt_or_ge i H.length with h' | h'
    · rw [List.getElem?_append_left h'] at hi; exact .inl hi
    · rw [List.getElem?_append_right h', List.getElem?_replicate] at hi
      split at hi
      · exact .inr ⟨h', (Option.some.inj hi).symm⟩
      · cases hi
  refine ⟨h.fz, fun i o ho => ?_, fun i v hv => h.new i v (by simp at hv; omega), h.bnd, fun i j o o' s s' hi hj ha ha' h1 h2 hb => ?_, h.below, h.bs, h.fact, h.kp⟩
  · rcases hget i o ho with ho | ⟨h1, rfl⟩
    · exact h.obj i o ho
    · exact fun v => h.new i v h1
  · rcases hget i o hi with hi | ⟨_, rfl⟩
    · rcases hget j o' hj with hj | ⟨_, rfl⟩
      · exact h.inj i j o o' s s' hi hj ha ha' h1 h2 hb
      · cases ha'
    · cases ha

/-- A draw changes nothing that is told. -/
theorem St.drawn (h : St L g w H) : St L g { w with drawn := w.drawn + 1 } H :=
  ⟨h.fz, fun i o ho => (h.obj i o ho).keep (Ghost.le.refl g) (fun _ => rfl) fun _ _ _ => ⟨rfl, fun _ => rfl⟩, h.new, h.bnd, h.inj, h.below.drew, h.bs, h.fact, h.kp⟩

theorem stays_mem : ∀ {l : List (Option Nat × AX)} {e : Env} {H H' : Heap}, stays l e H H' → ∀ p ∈ l, loadAt H' p.1 (ev e p.2) = loadAt H p.1 (ev e p.2)
  | [], _, _, _, _, p, hp => by cases hp
  | q :: l, e, H, H', h, p, hp => by
    rcases List.mem_cons.1 hp with rfl | hp
    · exact h.1
    · exact stays_mem h.2 p hp
theorem loadsOf_mem : ∀ {l : List AO} {o : AO} {k : Option Nat} {a : AX}, o ∈ l → o.op = .load k a → (k, a) ∈ loadsOf l
  | [], o, k, a, h, _ => by cases h
  | q :: l, o, k, a, h, he => by
    rcases List.mem_cons.1 h with rfl | h
    · simp only [loadsOf, he]; simp
    · simp only [loadsOf]
      have := loadsOf_mem h he
      split
      · simp [this]
      · exact this
theorem earlyL_mem : ∀ (as : List AO) (k i : Nat) (o : AO), as[i]? = some o → E (k + i) = true → o ∈ earlyL E k as
  | [], k, i, o, h, _ => by simp at h
  | q :: as, k, i, o, h, hE => by
    simp only [earlyL]
    cases i with
    | zero =>
      simp at h; subst h
      rw [Nat.add_zero] at hE
      rw [if_pos hE]; simp
    | succ i =>
      have := earlyL_mem as (k + 1) i o (by simpa using h) (by rw [← hE]; congr 1; omega)
      split
      · simp [this]
      · exact this
theorem stays_at {e : Env} {H H' : Heap} (h : stays (loadsOf (earlyL E 0 as)) e H H') {i : Nat} {o : AO} (hi : as[i]? = some o) (hE : E i = true) (hl : isLoad o.op = true) : Still H H' e o.op := by
  cases hq : o.op <;> rw [hq] at hl <;> try (cases hl; done)
  rename_i k a
  exact ⟨k, a, rfl, fun v hv _ => (stays_mem h _ (loadsOf_mem (earlyL_mem as 0 i o hi (by rw [Nat.zero_add]; exact hE)) hq)).trans hv⟩

/-- A region whose order is drawn. -/
theorem drawn_sound {id : Nat} {cx : Bool} {P : Env → Heap → Prop} (hm : T.L.P.follows .mixedOrders = true) (hdr : drawOK cx ops as (masks ops.toList []) E = true) (hcl : cx = true → loadsOK as E = true) (hcs : cOpers T n ops ops.toList = some as)
    (hK : ∀ a w e H g, K e H → g0.le g → St T.L g w H → RepT T.L g n a.tmps e → a.defers = [] → Q .normal a w)
    (hP : ∀ v x a w H g, KP x H → g0.le g → St T.L g w H → Rep T.L g v x → a.defers = [] → Q (.panic [⟨v, false, false⟩]) a w)
    {a : Act} {w : World} {e : Env} {H : Heap} {g : Ghost} (hPs : cx = true → ∀ e' H', P e' H' → stays (loadsOf (earlyL E 0 as)) e' H H') (hg : g0.le g) (hs : St T.L g w H) (hr : RepT T.L g n a.tmps e) (hd : a.defers = [])
    (h : xsoft T.L H (earlyL E 0 as) e H (fun e' H' => xlate T.L (P e') ((lateL E 0 as).map (·.2)) e' H' K KP)) : (Code.region id ops true).wp T.L.P Q a w := by
  obtain ⟨k1, k2⟩ := cOpers_at ops.toList as hcs
  obtain ⟨tr, h1, h2⟩ := xsoft_trace (maskE E 0 as) 0 e H (xsoft_mask as 0 e H h)
  have hoffall : ∀ k, isOn (Array.replicate ops.size false) k = false := fun k => by
    simp only [isOn, Array.getD_eq_getD_getElem?, Array.getElem?_replicate]
    split <;> rfl
  have hpad : ∀ (tr : Trace) k, ∃ m, pad (fun _ => false) k tr = List.replicate m .dead := by
    intro tr
    induction tr with
    | nil => exact fun k => ⟨0, rfl⟩
    | cons p tr ih =>
      intro k
      obtain ⟨v, z⟩ := p
      obtain ⟨m, hm⟩ := ih (k + 1)
      cases z with
      | none => exact ⟨m, by simpa only [pad] using hm⟩
      | some zs => exact ⟨m + 1, by simp only [pad, hm]; rfl⟩
  have henv : ∀ (l : List AO) (tr : Trace) (k : Nat) (e : Env), envS (fun _ => false) k e l tr = e := by
    intro l
    induction l with
    | nil => intro tr k e; rfl
    | cons o os ih =>
      intro tr k e
      cases tr with
      | nil => rfl
      | cons p tr => obtain ⟨v, z⟩ := p; simp only [envS]; exact ih tr (k + 1) e
  have hS : isOn (Array.replicate ops.size false) = fun _ => false := funext hoffall
  refine wp_region_any hm (mid_sound (KP := KP) (K := K) (P := P (envS (fun _ => true) 0 e (maskE E 0 as) tr)) (tr := tr) hdr hcl (fun hcx H' hp i o hi hE hl => stays_at (hPs hcx _ _ hp) hi hE hl) (fun i o ho => k2 i o (by simpa using ho)) (by simpa using k1) hK hP h1 ops.size _ (lateL E 0 as) a _ (H ++ pad (fun _ => false) 0 tr) g [] (H ++ pad (fun _ => true) 0 tr) (unl_le _ _) (by simp) (fun j o _ hon => by rw [hoffall] at hon; cases hon)
    { hg := hg, hs := ?_, hr := ?_, hd := hd, rest := h2, suf := ⟨[], rfl⟩, remS := fun p _ => hoffall _, done := fun k o k1 k2 _ => ?_, slots := fun p hp => by simp at hp, heap := .inr ⟨rfl, rfl, by rw [hS]⟩, agr := fun _ _ _ _ _ => .inr (.inl ⟨by simp, fun i ob hi ho _ _ => by rw [List.getElem?_append_left hi]; exact ho⟩) })
  · obtain ⟨m, hm⟩ := hpad tr 0
    rw [hm]
    exact (hs.pads m).drawn
  · rw [hS, henv]; exact hr
  · exact (lateL_mem as 0 (k, o)).2 ⟨k, by simp, k1, by rwa [Nat.zero_add]⟩

theorem draw_sound {id : Nat} (hm : T.L.P.follows .mixedOrders = true) (hdr : drawOK false ops as (masks ops.toList []) E = true) (hcs : cOpers T n ops ops.toList = some as)
    (hK : ∀ a w e H g, K e H → g0.le g → St T.L g w H → RepT T.L g n a.tmps e → a.defers = [] → Q .normal a w)
    (hP : ∀ v x a w H g, KP x H → g0.le g → St T.L g w H → Rep T.L g v x → a.defers = [] → Q (.panic [⟨v, false, false⟩]) a w)
    {a : Act} {w : World} {e : Env} {H : Heap} {g : Ghost} (hg : g0.le g) (hs : St T.L g w H) (hr : RepT T.L g n a.tmps e) (hd : a.defers = [])
    (h : xsoft T.L H (earlyL E 0 as) e H (fun e' H' => xops T.L ((lateL E 0 as).map (·.2)) e' H' K KP)) : (Code.region id ops true).wp T.L.P Q a w :=
  drawn_sound (cx := false) (P := fun _ _ => True) hm hdr (fun h => by cases h) hcs hK hP (fun h => by cases h) hg hs hr hd (xsoft_mono (fun _ _ h => xlate_of (fun _ => trivial) h) h)
end

end Go.Ag
