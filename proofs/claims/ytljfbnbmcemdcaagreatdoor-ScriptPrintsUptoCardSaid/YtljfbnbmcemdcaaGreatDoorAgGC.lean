/- What a call has made and nobody can see any more is forgotten. -/
import Derived.Test.YtljfbnbmcemdcaaGreatDoorAgRep
set_option linter.unusedVariables false
namespace Go.Ag
open Go
open Go.RowKit (Below)

variable {L : Lnk}

def tokLow (n : Nat) : Tok → Prop
  | .tail id => id < n
  | _ => True

/-- All places that a value names lie below n. -/
inductive Low (n : Nat) : AVal → Prop where
  | undef : Low n .undef
  | bool (b : Bool) : Low n (.bool b)
  | int (k : IntKind) (m : Int) : Low n (.int k m)
  | str (s : List UInt8) : Low n (.str s)
  | ptr (id off : Nat) (h : id < n) : Low n (.ptr id off)
  | nilptr : Low n .nilptr
  | lptr (cs : List AVal) (h : ∀ x ∈ cs, Low n x) : Low n (.lptr cs)
  | lst (xs : List AVal) (tk : Tok) (ht : tokLow n tk) (h : ∀ x ∈ xs, Low n x) : Low n (.lst xs tk)
  | arr (id ver off len : Nat) (h : id < n) : Low n (.arr id ver off len)
  | map (id : Nat) (h : id < n) : Low n (.map id)
  | nilmap : Low n .nilmap
  | fn (f : AFn) (fi ca : List AVal) (h1 : ∀ x ∈ fi, Low n x) (h2 : ∀ x ∈ ca, Low n x) : Low n (.fn f fi ca)
  | nilfn : Low n .nilfn
  | iface (t : Nat) (x : AVal) (h : Low n x) : Low n (.iface t x)
  | niliface : Low n .niliface
  | agg (cs : List AVal) (h : ∀ x ∈ cs, Low n x) : Low n (.agg cs)
  | tup (cs : List AVal) (h : ∀ x ∈ cs, Low n x) : Low n (.tup cs)
  | dptr (xs : List AVal) (tk : Tok) (ht : tokLow n tk) (h : ∀ x ∈ xs, Low n x) : Low n (.dptr xs tk)

theorem Low.cells {n : Nat} {x : AVal} (h : Low n x) : ∀ y ∈ x.cells, Low n y := by
  cases h with
  | agg cs h => exact h
  | _ => simp only [AVal.cells, List.mem_singleton]; rintro y rfl; first | constructor <;> assumption | constructor

theorem low_flat {n : Nat} {xs : List AVal} (h : ∀ x ∈ xs, Low n x) : ∀ y ∈ flat xs, Low n y := by
  intro y hy
  simp only [flat, List.mem_flatMap] at hy
  obtain ⟨x, hx, hy⟩ := hy
  exact (h x hx).cells y hy

theorem Low.mono {n m : Nat} (hnm : n ≤ m) {x : AVal} (h : Low n x) : Low m x := by
  induction h with
  | undef => exact .undef
  | bool => exact .bool _
  | int => exact .int _ _
  | str => exact .str _
  | ptr _ _ h => exact .ptr _ _ (by omega)
  | nilptr => exact .nilptr
  | lptr _ _ ih => exact .lptr _ ih
  | lst _ tk ht _ ih => exact .lst _ _ (by cases tk <;> first | trivial | (simp only [tokLow] at ht ⊢; omega)) ih
  | arr _ _ _ _ h => exact .arr _ _ _ _ (by omega)
  | map _ h => exact .map _ (by omega)
  | nilmap => exact .nilmap
  | fn _ _ _ _ _ i1 i2 => exact .fn _ _ _ i1 i2
  | nilfn => exact .nilfn
  | iface _ _ _ ih => exact .iface _ _ ih
  | niliface => exact .niliface
  | agg _ _ ih => exact .agg _ ih
  | tup _ _ ih => exact .tup _ ih
  | dptr _ tk ht _ ih => exact .dptr _ _ (by cases tk <;> first | trivial | (simp only [tokLow] at ht ⊢; omega)) ih

/-- The ghost without the places from n on. -/
def Ghost.cut (g : Ghost) (n : Nat) : Ghost := { g with ob := fun i v => if i < n then g.ob i v else none }

theorem Ghost.cut_at (g : Ghost) {n i : Nat} (h : i < n) (v : Nat) : (g.cut n).ob i v = g.ob i v := by simp [Ghost.cut, h]

theorem TokOK.cut {g : Ghost} {n : Nat} {a : Option Addr} {m c k : Nat} {tk : Tok} (h : TokOK g a m c k tk) (ht : tokLow n tk) : TokOK (g.cut n) a m c k tk := by
  cases tk with
  | tail id =>
    obtain ⟨s, h1, h2⟩ := h
    exact ⟨s, by rw [Ghost.cut_at g ht]; exact h1, h2⟩
  | _ => exact h

theorem Rep.cut {g : Ghost} {n : Nat} {v : Value} {x : AVal} (h : Rep L g v x) : Low n x → Rep L (g.cut n) v x :=
  Rep.rec (motive_1 := fun v x _ => Low n x → Rep L (g.cut n) v x) (motive_2 := fun vs xs _ => (∀ x ∈ xs, Low n x) → RepL L (g.cut n) vs xs)
    (fun v _ => .undef v) (fun b _ => .bool b) (fun k m _ => .int k m) (fun s _ => .str s)
    (fun id off s h h0 hl => by cases hl with | ptr _ _ hl => exact .ptr id off s (by rw [Ghost.cut_at g hl]; exact h) h0) (fun _ => .nilptr)
    (fun b o vs cs hf _ ih hl => by cases hl with | lptr _ hl => exact .lptr b o vs cs hf (ih hl))
    (fun a c k b o xs vs tk ha hf hk hc ht _ ih hl => by cases hl with | lst _ _ h1 h2 => exact .lst a c k b o xs vs tk ha hf hk hc (ht.cut h1) (ih (low_flat h2)))
    (fun id ver off len c s h h0 hc hl => by cases hl with | arr _ _ _ _ hl => exact .arr id ver off len c s (by rw [Ghost.cut_at g hl]; exact h) h0 hc)
    (fun id s h hl => by cases hl with | map _ hl => exact .map id s (by rw [Ghost.cut_at g hl]; exact h)) (fun _ => .nilmap)
    (fun f af fi ca afi aca h _ _ h1 h2 hl => by cases hl with | fn _ _ _ l1 l2 => exact .fn f af fi ca afi aca h (h1 l1) (h2 l2)) (fun _ => .nilfn)
    (fun t v x _ ih hl => by cases hl with | iface _ _ hl => exact .iface t v x (ih hl)) (fun _ => .niliface)
    (fun vs cs _ ih hl => by cases hl with | agg _ hl => exact .agg vs cs (ih hl)) (fun vs cs _ ih hl => by cases hl with | tup _ hl => exact .tup vs cs (ih hl))
    (fun a c k b o xs vs tk ha hf hk hc ht _ ih hl => by cases hl with | dptr _ _ h1 h2 => exact .dptr a c k b o xs vs tk ha hf hk hc (ht.cut h1) (ih (low_flat h2)))
    (fun _ => .nil) (fun v x vs xs _ _ ih ihs hl => .cons v x vs xs (ih (hl x (by simp))) (ihs fun y hy => hl y (by simp [hy]))) h

theorem RepL.cut {g : Ghost} {n : Nat} {vs : List Value} {xs : List AVal} (h : RepL L g vs xs) (hl : ∀ x ∈ xs, Low n x) : RepL L (g.cut n) vs xs := by
  induction vs generalizing xs with
  | nil => cases h; exact .nil
  | cons v vs ih => cases h with | cons _ x _ xs h hs => exact .cons _ _ _ _ (h.cut (hl x (by simp))) (ih hs fun y hy => hl y (by simp [hy]))

/-- An object's values name places below n alone. -/
def LowO (n : Nat) : AObj → Prop
  | .cells cs _ => ∀ x ∈ cs, Low n x
  | .arr _ xs => ∀ x ∈ xs, Low n x
  | .map es => ∀ e ∈ es, Low n e.1 ∧ Low n e.2
  | _ => True

theorem St.cut {g : Ghost} {w : World} {H J : Heap} (h : St L g w (H ++ J)) (hl : ∀ o ∈ H, LowO H.length o) : St L (g.cut H.length) w H := by
  have hget : ∀ (i : Nat) (o : AObj), H[i]? = some o → i < H.length ∧ (H ++ J)[i]? = some o := fun i o hi => by
    have hlt : i < H.length := by
      rcases Nat.lt_or_ge i H.length with h' | h'
      · exact h'
      · rw [List.getElem?_eq_none h'] at hi; cases hi
    exact ⟨hlt, by rw [List.getElem?_append_left hlt]; exact hi⟩
  refine ⟨h.fz, fun i o ho => ?_, fun i v hi => by simp [Ghost.cut]; omega, fun i v s hs => ?_, fun i j o o' s s' hi hj ha ha' h1 h2 hb => ?_, h.below, h.bs, h.fact, h.kp⟩
  · obtain ⟨hlt, ho'⟩ := hget i o ho
    have hob : ∀ v, (g.cut H.length).ob i v = g.ob i v := fun v => Ghost.cut_at g hlt v
    have hlo := hl o (List.mem_of_getElem? ho)
    have hok := h.obj i o ho'
    cases o with
    | dead => exact fun v => (hob v).trans (hok v)
    | gone => trivial
    | cells cs t =>
      obtain ⟨s, vs, h1, h2, h3, h4, h5, h6⟩ := hok
      exact ⟨s, vs, (hob 0).trans h1, h2, h3, h4.cut hlo, h5, h6⟩
    | tail n t =>
      obtain ⟨s, vs, h1, h0, h2, h3⟩ := hok
      exact ⟨s, vs, (hob n).trans h1, h0, fun m hm => (hob m).trans (h2 m hm), h3⟩
    | arr v xs =>
      obtain ⟨s, vs, t, ws, h1, h2, h3, h4, h5, h6, h7, h8, h9⟩ := hok
      exact ⟨s, vs, t, ws, (hob v).trans h1, fun m hm => (hob m).trans (h2 m hm), h3, h4, h5, h6, h7, h8.cut (low_flat hlo), h9⟩
    | map es =>
      obtain ⟨s, ents, clock, h1, h2, h3, h4, h5⟩ := hok
      exact ⟨s, ents, clock, (hob 0).trans h1, h2, h3.cut (fun x hx => by
        obtain ⟨e, he, rfl⟩ := List.mem_map.1 hx
        exact (hlo e he).1), h4.cut (fun x hx => by
        obtain ⟨e, he, rfl⟩ := List.mem_map.1 hx
        exact (hlo e he).2), h5⟩
  · simp only [Ghost.cut] at hs
    split at hs
    · exact h.bnd i v s hs
    · cases hs
  · obtain ⟨l1, hi'⟩ := hget i o hi
    obtain ⟨l2, hj'⟩ := hget j o' hj
    rw [Ghost.cut_at g l1] at h1
    rw [Ghost.cut_at g l2] at h2
    exact h.inj i j o o' s s' hi' hj' ha ha' h1 h2 hb

theorem Ghost.le_cut {g g' : Ghost} {n : Nat} (h : g.le g') (hn : ∀ i v, n ≤ i → g.ob i v = none) : g.le (g'.cut n) :=
  ⟨h.w0, h.base, h.fz, fun i v s hs => by
    rw [Ghost.cut_at g' (by
      rcases Nat.lt_or_ge i n with h' | h'
      · exact h'
      · rw [hn i v h'] at hs; cases hs)]
    exact h.ob i v s hs, h.kp, h.fzk⟩

/-- A value that stands in a ghost names places of that ghost alone. -/
theorem Rep.low {g : Ghost} {n : Nat} (hn : ∀ i v s, g.ob i v = some s → i < n) {v : Value} {x : AVal} (h : Rep L g v x) : Low n x := by
  have tk : ∀ {a m c k t}, TokOK g a m c k t → tokLow n t := fun {a m c k t} ht => by
    cases t with
    | tail id => obtain ⟨s, h1, _⟩ := ht; exact hn _ _ _ h1
    | _ => trivial
  have fl : ∀ xs : List AVal, (∀ y ∈ flat xs, Low n y) → ∀ x ∈ xs, Low n x := fun xs hy x hx => by
    have hc : ∀ y ∈ x.cells, Low n y := fun y hyc => hy y (by simp only [flat, List.mem_flatMap]; exact ⟨x, hx, hyc⟩)
    cases x <;> first | exact .agg _ hc | exact hc _ (by simp [AVal.cells])
  exact Rep.rec (motive_1 := fun v x _ => Low n x) (motive_2 := fun vs xs _ => ∀ x ∈ xs, Low n x)
    (fun v => .undef) (fun b => .bool b) (fun k m => .int k m) (fun s => .str s)
    (fun id off s h h0 => .ptr _ _ (hn _ _ _ h)) .nilptr
    (fun b o vs cs hf _ ih => .lptr _ ih)
    (fun a c k b o xs vs t ha hf hk hc ht _ ih => .lst _ _ (tk ht) (fl _ ih))
    (fun id ver off len c s h h0 hc => .arr _ _ _ _ (hn _ _ _ h))
    (fun id s h => .map _ (hn _ _ _ h)) .nilmap
    (fun f af fi ca afi aca h _ _ h1 h2 => .fn _ _ _ h1 h2) .nilfn
    (fun t v x _ ih => .iface _ _ ih) .niliface
    (fun vs cs _ ih => .agg _ ih) (fun vs cs _ ih => .tup _ ih)
    (fun a c k b o xs vs t ha hf hk hc ht _ ih => .dptr _ _ (tk ht) (fl _ ih))
    (fun x hx => by cases hx) (fun v x vs xs _ _ ih ihs y hy => by
      rcases List.mem_cons.1 hy with rfl | hy
      · exact ih
      · exact ihs y hy) h

theorem RepL.low {g : Ghost} {n : Nat} (hn : ∀ i v s, g.ob i v = some s → i < n) {vs : List Value} {xs : List AVal} (h : RepL L g vs xs) : ∀ x ∈ xs, Low n x := by
  induction vs generalizing xs with
  | nil => cases h; intro x hx; cases hx
  | cons v vs ih =>
    cases h with
    | cons _ x _ xs h hs =>
      intro y hy
      rcases List.mem_cons.1 hy with rfl | hy
      · exact h.low hn
      · exact ih hs y hy

theorem St.dom {g : Ghost} {w : World} {H : Heap} (h : St L g w H) : ∀ i v s, g.ob i v = some s → i < H.length := fun i v s hs => by
  rcases Nat.lt_or_ge i H.length with h' | h'
  · exact h'
  · rw [h.new i v h'] at hs; cases hs

theorem St.lowO {g : Ghost} {w : World} {H : Heap} (h : St L g w H) : ∀ o ∈ H, LowO H.length o := fun o ho => by
  obtain ⟨i, hi, rfl⟩ := List.mem_iff_getElem.1 ho
  have hok := h.obj i H[i] (List.getElem?_eq_getElem hi)
  generalize H[i] = o at hok
  cases o with
  | cells cs t => obtain ⟨s, vs, _, _, _, h4, _⟩ := hok; exact h4.low h.dom
  | arr v xs =>
    obtain ⟨s, vs, t, ws, _, _, _, _, _, _, _, h8, _⟩ := hok
    intro x hx
    have hc : ∀ y ∈ x.cells, Low H.length y := fun y hy => h8.low h.dom y (by simp only [flat, List.mem_flatMap]; exact ⟨x, hx, hy⟩)
    cases x <;> first | exact .agg _ hc | exact hc _ (by simp [AVal.cells])
  | map es =>
    obtain ⟨s, ents, clock, _, _, h3, h4, _⟩ := hok
    intro e he
    exact ⟨h3.low h.dom _ (List.mem_map.2 ⟨e, he, rfl⟩), h4.low h.dom _ (List.mem_map.2 ⟨e, he, rfl⟩)⟩
  | _ => trivial

/-- What stands for one abstract value stands for the other. -/
def Weak (L : Lnk) (x y : AVal) : Prop := ∀ g v, Rep L g v x → Rep L g v y
theorem Weak.refl (x : AVal) : Weak L x x := fun _ _ h => h
theorem Weak.tok (xs : List AVal) (tk : Tok) : Weak L (.lst xs tk) (.lst xs .none) := fun g v h => by
  cases h with
  | lst a c k b o _ vs _ ha hf hk hc ht hr => exact .lst a c k b o xs vs .none ha hf hk hc trivial hr

def WeakL (L : Lnk) : List AVal → List AVal → Prop
  | [], [] => True
  | x :: xs, y :: ys => Weak L x y ∧ WeakL L xs ys
  | _, _ => False
theorem WeakL.refl : ∀ xs : List AVal, WeakL L xs xs
  | [] => trivial
  | x :: xs => ⟨Weak.refl x, WeakL.refl xs⟩

theorem RepL.weak {g : Ghost} {vs : List Value} {xs ys : List AVal} (h : RepL L g vs xs) (hw : WeakL L xs ys) : RepL L g vs ys := by
  induction xs generalizing vs ys with
  | nil => cases ys with
    | nil => exact h
    | cons => exact False.elim hw
  | cons x xs ih => cases ys with
    | nil => exact False.elim hw
    | cons y ys => cases h with | cons _ _ _ _ h hs => exact .cons _ _ _ _ (hw.1 _ _ h) (ih hs hw.2)
theorem Weak.agg {xs ys : List AVal} (h : WeakL L xs ys) : Weak L (.agg xs) (.agg ys) := fun g v hv => by
  cases hv with | agg vs _ hr => exact .agg vs _ (hr.weak h)
theorem Weak.tup {xs ys : List AVal} (h : WeakL L xs ys) : Weak L (.tup xs) (.tup ys) := fun g v hv => by
  cases hv with | tup vs _ hr => exact .tup vs _ (hr.weak h)
theorem Weak.iface {t : Nat} {x y : AVal} (h : Weak L x y) : Weak L (.iface t x) (.iface t y) := fun g v hv => by
  cases hv with | iface _ v _ hr => exact .iface t v _ (h _ _ hr)
theorem Weak.undef (x : AVal) : Weak L x .undef := fun g v hv => .undef v

def WeakO (L : Lnk) : AObj → AObj → Prop
  | .cells cs t, .cells cs' t' => t = t' ∧ WeakL L cs cs'
  | .map es, .map es' => WeakL L (es.map (·.1)) (es'.map (·.1)) ∧ WeakL L (es.map (·.2)) (es'.map (·.2))
  | o, .gone => True
  | o, o' => o = o'

theorem WeakO.refl (o : AObj) : WeakO L o o := by
  cases o <;> simp only [WeakO]
  · exact ⟨trivial, WeakL.refl _⟩
  · exact ⟨WeakL.refl _, WeakL.refl _⟩

theorem WeakO.alive {o o' : AObj} (h : WeakO L o o') : o'.alive = true → o.alive = true ∧ o.ver = o'.ver := by
  intro ha
  cases o <;> cases o' <;> simp only [WeakO, reduceCtorEq] at h <;> first | (cases ha; done) | exact ⟨rfl, rfl⟩ | (cases h; exact ⟨ha, rfl⟩)

theorem St.weak {g : Ghost} {w : World} {H H' : Heap} (h : St L g w H) (hl : H'.length = H.length) (hw : ∀ (i : Nat) (o o' : AObj), H[i]? = some o → H'[i]? = some o' → WeakO L o o') : St L g w H' := by
  have get : ∀ (i : Nat) (o' : AObj), H'[i]? = some o' → ∃ o, H[i]? = some o ∧ WeakO L o o' := fun i o' ho => by
    have hlt : i < H.length := by
      rw [← hl]
      rcases Nat.lt_or_ge i H'.length with h' | h'
      · exact h'
      · rw [List.getElem?_eq_none h'] at ho; cases ho
    exact ⟨H[i], List.getElem?_eq_getElem hlt, hw i _ o' (List.getElem?_eq_getElem hlt) ho⟩
  refine ⟨h.fz, fun i o' ho => ?_, fun i v hi => h.new i v (by rw [← hl]; exact hi), h.bnd, fun i j o1 o2 s s' hi hj ha ha' e1 e2 hb => ?_, h.below, h.bs, h.fact, h.kp⟩
  · obtain ⟨o, h1, h2⟩ := get i o' ho
    have hok := h.obj i o h1
    cases o <;> cases o' <;> simp only [WeakO, reduceCtorEq] at h2
    all_goals first
      | exact trivial
      | exact hok
      | skip
    case cells.cells cs t cs' t' =>
      obtain ⟨rfl, h2⟩ := h2
      obtain ⟨s, vs, k1, k2, k3, k4, k5⟩ := hok
      exact ⟨s, vs, k1, k2, k3, k4.weak h2, k5⟩
    case tail.tail => cases h2; exact hok
    case arr.arr => cases h2; exact hok
    case map.map es es' =>
      obtain ⟨s, ents, clock, k1, k2, k3, k4, k5⟩ := hok
      exact ⟨s, ents, clock, k1, k2, k3.weak h2.1, k4.weak h2.2, k5⟩
  · obtain ⟨p, hp, wp⟩ := get i o1 hi
    obtain ⟨q, hq, wq⟩ := get j o2 hj
    obtain ⟨a1, a2⟩ := wp.alive ha
    obtain ⟨b1, b2⟩ := wq.alive ha'
    exact h.inj i j p q s s' hp hq a1 b1 (by rw [a2]; exact e1) (by rw [b2]; exact e2) hb

/-- May what is known of slots and heap be less, and may new objects be forgotten? -/
def GC (L : Lnk) (n0 : Nat) (I : Env → Heap → Prop) : Prop := ∀ (e e' : Env) (H K J : Heap), (∀ i, Weak L (e' i) (e i) ∧ Low H.length (e i)) → K.length = H.length →
  (∀ (i : Nat) (o o' : AObj), K[i]? = some o → H[i]? = some o' → WeakO L o o') → (∀ o ∈ H, LowO H.length o) → n0 ≤ H.length → I e H → I e' (K ++ J)

/-- A state, new objects forgotten. -/
theorem St.forget {g : Ghost} {w : World} {H K J : Heap} (h : St L g w (K ++ J)) (hl : K.length = H.length) (hw : ∀ (i : Nat) (o o' : AObj), K[i]? = some o → H[i]? = some o' → WeakO L o o') (hlo : ∀ o ∈ H, LowO H.length o) : St L (g.cut H.length) w H := by
  have h2 : St L g w (H ++ J) := h.weak (by simp [hl]) fun i o o' ho ho' => by
    rcases Nat.lt_or_ge i K.length with hi | hi
    · rw [List.getElem?_append_left hi] at ho
      rw [List.getElem?_append_left (by omega)] at ho'
      exact hw i o o' ho ho'
    · rw [List.getElem?_append_right hi] at ho
      rw [List.getElem?_append_right (by omega), ← hl, ho] at ho'
      cases ho'
      exact WeakO.refl o
  exact h2.cut hlo

/-- A call that leaves what there was as it was, and new things that its result does not name: as if it had made nothing. -/
theorem ACalls.gc {f : Nat} {args : List AVal} {H : Heap} {Q : AVal → Prop} (h : ACalls L f args H fun r H' => ∃ J x y, H' = H ++ J ∧ r = .ret x ∧ Weak L x y ∧ Low H.length y ∧ Q y) :
    ACalls L f args H fun r H' => ∃ y, r = .ret y ∧ H' = H ∧ Q y := fun g w vs hs hr =>
  (h g w vs hs hr).mono fun e w' ⟨r, H', g', ⟨J, x, y, h1, h2, h3, h4, h5⟩, hle, hst, hrep⟩ => by
    subst h1 h2
    obtain ⟨v, rfl, hrep⟩ := hrep
    exact ⟨.ret y, H, g'.cut H.length, ⟨y, rfl, rfl, h5⟩, Ghost.le_cut hle fun i v hi => hs.new i v hi, hst.cut hs.lowO, v, rfl, (h3 _ _ hrep).cut h4⟩

/-- The same where the result is known. -/
theorem ACalls.pure {f : Nat} {args : List AVal} {H : Heap} {y : AVal} (h : ACalls L f args H fun r H' => ∃ J x, H' = H ++ J ∧ r = .ret x ∧ Weak L x y) (hy : Low H.length y) :
    ACalls L f args H fun r H' => r = .ret y ∧ H' = H :=
  (ACalls.gc (Q := fun z => z = y) (h.mono fun r H' ⟨J, x, h1, h2, h3⟩ => ⟨J, x, y, h1, h2, h3, hy, rfl⟩)).mono fun r H' ⟨z, h1, h2, h3⟩ => ⟨h3 ▸ h1, h2⟩

end Go.Ag
