/- How abstract values and heaps stand for the machine's values and worlds; the abstract contract of a call. -/
import Derived.Test.YtljfbnbmcemdcaaGreatDoorAgCore
import Derived.Below
namespace Go.Ag
open Go
open Go.RowKit (Below)

/-- A program, and which of its functions and types bear our numbers. -/
structure Lnk where
  P : Program
  num : Nat → Nat
  ty : Nat → Nat
  /-- What is known of the world at the start, and of the blocks that no call changes. -/
  start : World → Nat → Prop

/-- Where an abstract object lies: block, first cell, cells of the block, cells of an element. -/
structure Spot where
  b : Nat
  s : Nat
  z : Nat
  k : Nat

structure Ghost where
  w0 : World
  base : Nat
  fz : Nat → Nat → Option Value
  ob : Nat → Nat → Option Spot
  /-- Blocks that stay as they are. -/
  kp : Nat → Option Obj

/-- A block that may be written. -/
def Ghost.own (g : Ghost) (b : Nat) : Prop := g.base ≤ b ∧ g.kp b = none

structure Ghost.le (g g' : Ghost) : Prop where
  w0 : g'.w0 = g.w0
  base : g'.base = g.base
  fz : ∀ b o v, g.fz b o = some v → g'.fz b o = some v
  ob : ∀ i k s, g.ob i k = some s → g'.ob i k = some s
  kp : g'.kp = g.kp
  fzk : ∀ b o, g.kp b ≠ none → g'.fz b o = g.fz b o

theorem Ghost.le.refl (g : Ghost) : g.le g := ⟨rfl, rfl, fun _ _ _ h => h, fun _ _ _ h => h, rfl, fun _ _ _ => rfl⟩
theorem Ghost.le.trans {a b c : Ghost} (h : a.le b) (h' : b.le c) : a.le c :=
  ⟨h'.w0.trans h.w0, h'.base.trans h.base, fun b o v x => h'.fz b o v (h.fz b o v x), fun i k s x => h'.ob i k s (h.ob i k s x), h'.kp.trans h.kp,
   fun b o x => (h'.fzk b o (by rw [h.kp]; exact x)).trans (h.fzk b o x)⟩
theorem Ghost.le.own {a b : Ghost} (h : a.le b) {k : Nat} (ho : a.own k) : b.own k := ⟨by rw [h.base]; exact ho.1, by rw [h.kp]; exact ho.2⟩

/-- A function that a call may enter. -/
def Lnk.callable (L : Lnk) (g : Nat) : Prop := ∃ fn, L.P.funcs[L.num g]? = some fn ∧ fn.body.isSome = true ∧ (fn.name == "runtime.NumGoroutine") = false

def FnRep (L : Lnk) : Fn → AFn → Prop
  | .func f, .func g => f = L.num g ∧ L.callable g
  | .yield l, .yield l' => l = l'
  | _, _ => False

/-- What a list's right to be appended to says of its capacity and place. -/
def TokOK (g : Ghost) (a : Option Addr) (n c k : Nat) : Tok → Prop
  | .nil => a = none ∧ c = 0
  | .full => c = n
  | .none => True
  | .tail id => ∃ s, g.ob id n = some s ∧ a = some ⟨s.b, s.s, none⟩ ∧ s.k = k ∧ s.s + c * k ≤ s.z ∧ 0 < k ∧ 0 < n

mutual
inductive Rep (L : Lnk) (g : Ghost) : Value → AVal → Prop where
  | undef (v : Value) : Rep L g v .undef
  | bool (b : Bool) : Rep L g (.bool b) (.bool b)
  | int (k : IntKind) (n : Int) : Rep L g (.int k n) (.int k n)
  | str (s : List UInt8) : Rep L g (.string ⟨s.toArray⟩) (.str s)
  | ptr (id off : Nat) (s : Spot) (h : g.ob id 0 = some s) (h0 : s.s = 0) : Rep L g (.pointer (some ⟨s.b, off, none⟩)) (.ptr id off)
  | nilptr : Rep L g (.pointer none) .nilptr
  | lptr (b o : Nat) (vs : List Value) (cs : List AVal) (hf : ∀ j v, vs[j]? = some v → g.fz b (o + j) = some v) (hr : RepL L g vs cs) :
      Rep L g (.pointer (some ⟨b, o, none⟩)) (.lptr cs)
  | lst (a : Option Addr) (c k b o : Nat) (xs : List AVal) (vs : List Value) (tk : Tok)
      (ha : xs ≠ [] → a = some ⟨b, o, none⟩) (hf : ∀ j v, vs[j]? = some v → g.fz b (o + j) = some v)
      (hk : ∀ x ∈ xs, x.cells.length = k) (hc : xs.length ≤ c) (ht : TokOK g a xs.length c k tk)
      (hr : RepL L g vs (flat xs)) : Rep L g (.slice a xs.length c) (.lst xs tk)
  | arr (id k off len c : Nat) (s : Spot) (h : g.ob id 0 = some s) (h0 : s.s = 0) (hc : len ≤ c) :
      Rep L g (.slice (some ⟨s.b, off, none⟩) len c) (.arr id k off len)
  | map (id : Nat) (s : Spot) (h : g.ob id 0 = some s) : Rep L g (.map (some s.b)) (.map id)
  | nilmap : Rep L g (.map none) .nilmap
  | fn (f : Fn) (af : AFn) (fi ca : List Value) (afi aca : List AVal) (h : FnRep L f af) (h1 : RepL L g fi afi) (h2 : RepL L g ca aca) :
      Rep L g (.func f fi.toArray ca.toArray) (.fn af afi aca)
  | nilfn : Rep L g .nilFunc .nilfn
  | iface (t : Nat) (v : Value) (x : AVal) (h : Rep L g v x) : Rep L g (.iface (L.ty t) v) (.iface t x)
  | niliface : Rep L g .nilIface .niliface
  | agg (vs : List Value) (cs : List AVal) (h : RepL L g vs cs) : Rep L g (.agg vs.toArray) (.agg cs)
  | tup (vs : List Value) (cs : List AVal) (h : RepL L g vs cs) : Rep L g (.tuple vs.toArray) (.tup cs)
  | dptr (a : Option Addr) (c k b o : Nat) (xs : List AVal) (vs : List Value) (tk : Tok)
      (ha : xs ≠ [] → a = some ⟨b, o, none⟩) (hf : ∀ j v, vs[j]? = some v → g.fz b (o + j) = some v)
      (hk : ∀ x ∈ xs, x.cells.length = k) (hc : xs.length ≤ c) (ht : TokOK g a xs.length c k tk)
      (hr : RepL L g vs (flat xs)) : Rep L g (.pointer a) (.dptr xs tk)
inductive RepL (L : Lnk) (g : Ghost) : List Value → List AVal → Prop where
  | nil : RepL L g [] []
  | cons (v : Value) (x : AVal) (vs : List Value) (xs : List AVal) (h : Rep L g v x) (hs : RepL L g vs xs) : RepL L g (v :: vs) (x :: xs)
end

theorem TokOK.mono {g g' : Ghost} (hg : g.le g') {a : Option Addr} {n c k : Nat} {tk : Tok} (h : TokOK g a n c k tk) : TokOK g' a n c k tk := by
  cases tk with
  | tail id =>
    obtain ⟨s, h1, h2⟩ := h
    exact ⟨s, hg.ob _ _ _ h1, h2⟩
  | _ => exact h

/-- The minor premises of the recursor, for a turn of the ghost. -/
theorem Rep.mono {L : Lnk} {g g' : Ghost} (hg : g.le g') {v : Value} {x : AVal} (h : Rep L g v x) : Rep L g' v x :=
  Rep.rec (motive_1 := fun v x _ => Rep L g' v x) (motive_2 := fun vs xs _ => RepL L g' vs xs)
    (fun v => .undef v) (fun b => .bool b) (fun k n => .int k n) (fun s => .str s) (fun id off s h h0 => .ptr id off s (hg.ob _ _ _ h) h0) .nilptr
    (fun b o vs cs hf _ hr => .lptr b o vs cs (fun j v hj => hg.fz _ _ _ (hf j v hj)) hr)
    (fun a c k b o xs vs tk ha hf hk hc ht _ hr => .lst a c k b o xs vs tk ha (fun j v hj => hg.fz _ _ _ (hf j v hj)) hk hc (ht.mono hg) hr)
    (fun id k off len c s h h0 hc => .arr id k off len c s (hg.ob _ _ _ h) h0 hc) (fun id s h => .map id s (hg.ob _ _ _ h)) .nilmap
    (fun f af fi ca afi aca h _ _ h1 h2 => .fn f af fi ca afi aca h h1 h2) .nilfn (fun t v x _ h => .iface t v x h) .niliface
    (fun vs cs _ h => .agg vs cs h) (fun vs cs _ h => .tup vs cs h)
    (fun a c k b o xs vs tk ha hf hk hc ht _ hr => .dptr a c k b o xs vs tk ha (fun j v hj => hg.fz _ _ _ (hf j v hj)) hk hc (ht.mono hg) hr) .nil (fun v x vs xs _ _ h hs => .cons v x vs xs h hs) h
theorem RepL.mono {L : Lnk} {g g' : Ghost} (hg : g.le g') {vs : List Value} {xs : List AVal} (h : RepL L g vs xs) : RepL L g' vs xs := by
  induction vs generalizing xs with
  | nil => cases h; exact .nil
  | cons v vs ih => cases h with | cons _ x _ xs h hs => exact .cons _ _ _ _ (h.mono hg) (ih hs)

theorem RepL.length {L : Lnk} {g : Ghost} {vs : List Value} {xs : List AVal} (h : RepL L g vs xs) : vs.length = xs.length := by
  induction vs generalizing xs with
  | nil => cases h; rfl
  | cons v vs ih => cases h with | cons _ x _ xs h hs => simp [ih hs]
theorem RepL.at {L : Lnk} {g : Ghost} {vs : List Value} {xs : List AVal} (h : RepL L g vs xs) (i : Nat) (x : AVal) (hx : xs[i]? = some x) : ∃ v, vs[i]? = some v ∧ Rep L g v x := by
  induction vs generalizing xs i with
  | nil => cases h; simp at hx
  | cons v vs ih =>
    cases h with
    | cons _ y _ ys h hs =>
      cases i with
      | zero => simp at hx; subst hx; exact ⟨v, rfl, h⟩
      | succ i => simp at hx; simpa using ih hs i hx
theorem RepL.append {L : Lnk} {g : Ghost} {vs vs' : List Value} {xs xs' : List AVal} (h : RepL L g vs xs) (h' : RepL L g vs' xs') : RepL L g (vs ++ vs') (xs ++ xs') := by
  induction vs generalizing xs with
  | nil => cases h; exact h'
  | cons v vs ih => cases h with | cons _ x _ xs h hs => exact .cons _ _ _ _ h (ih hs)
theorem RepL.take {L : Lnk} {g : Ghost} {vs : List Value} {xs : List AVal} (h : RepL L g vs xs) (n : Nat) : RepL L g (vs.take n) (xs.take n) := by
  induction vs generalizing xs n with
  | nil => cases h; simp; exact .nil
  | cons v vs ih =>
    cases h with
    | cons _ x _ xs h hs => cases n with
      | zero => simp; exact .nil
      | succ n => simp; exact .cons _ _ _ _ h (ih hs n)
theorem RepL.drop {L : Lnk} {g : Ghost} {vs : List Value} {xs : List AVal} (h : RepL L g vs xs) (n : Nat) : RepL L g (vs.drop n) (xs.drop n) := by
  induction vs generalizing xs n with
  | nil => cases h; simp; exact .nil
  | cons v vs ih =>
    cases h with
    | cons _ x _ xs h hs => cases n with
      | zero => simp; exact .cons _ _ _ _ h hs
      | succ n => simp; exact ih hs n
/-- A value's cells stand for an abstract value's cells. -/
theorem Rep.cells {L : Lnk} {g : Ghost} {v : Value} {x : AVal} (h : Rep L g v x) (hu : x ≠ .undef) : RepL L g v.cells.toList x.cells := by
  cases h with
  | undef => exact absurd rfl hu
  | agg vs cs h => simpa [Value.cells, AVal.cells] using h
  | _ => simp only [Value.cells, AVal.cells]; exact .cons _ _ _ _ (by constructor <;> assumption) .nil

/-! ### worlds -/
/-- An object's version. -/
def AObj.ver : AObj → Nat
  | .tail n _ => n
  | .arr v _ => v
  | _ => 0

def AObj.alive : AObj → Bool
  | .dead | .gone => false
  | _ => true

def ObjOK (L : Lnk) (g : Ghost) (w : World) (id : Nat) : AObj → Prop
  | .dead => ∀ v, g.ob id v = none
  | .gone => True
  | .cells cs t => ∃ s vs, g.ob id 0 = some s ∧ s.s = 0 ∧ w.heap[s.b]? = some (.cells vs (L.ty t) (0, 0)) ∧ RepL L g vs.toList cs ∧ (∀ o, g.fz s.b o = none) ∧ g.own s.b
  | .tail n t => ∃ s vs, g.ob id n = some s ∧ s.s = 0 ∧ (∀ m, n < m → g.ob id m = none) ∧ w.heap[s.b]? = some (.cells vs (L.ty t) (0, 0)) ∧ vs.size = s.z ∧
      (∀ o, s.s + n * s.k ≤ o → g.fz s.b o = none) ∧ g.own s.b
  | .arr v xs => ∃ s vs t ws, g.ob id v = some s ∧ (∀ m, v < m → g.ob id m = none) ∧ 0 < s.k ∧ w.heap[s.b]? = some (.cells vs t (0, 0)) ∧ vs.size = s.z ∧ (∀ x ∈ xs, x.cells.length = s.k) ∧
      (∀ j v, ws[j]? = some v → vs[s.s + j]? = some v) ∧ RepL L g ws (flat xs) ∧ (∀ o, g.fz s.b o = none) ∧ g.own s.b
  | .map es => ∃ s ents clock, g.ob id 0 = some s ∧ w.heap[s.b]? = some (.map ents clock) ∧ RepL L g (ents.toList.map (·.key)) (es.map (·.1)) ∧ RepL L g (ents.toList.map (·.val)) (es.map (·.2)) ∧ g.own s.b ∧
      (∀ e ∈ ents, e.born < clock) ∧ (ents.toList.map (·.born)).Nodup

structure St (L : Lnk) (g : Ghost) (w : World) (H : Heap) : Prop where
  fz : ∀ b o v, g.fz b o = some v → w.cell? ⟨b, o, none⟩ = some v
  obj : ∀ id obj, H[id]? = some obj → ObjOK L g w id obj
  new : ∀ id v, H.length ≤ id → g.ob id v = none
  bnd : ∀ id v s, g.ob id v = some s → s.b < w.heap.size
  inj : ∀ i j o o' s s', H[i]? = some o → H[j]? = some o' → o.alive = true → o'.alive = true → g.ob i o.ver = some s → g.ob j o'.ver = some s' → s.b = s'.b → i = j
  below : Below g.base g.w0 w
  bs : g.base ≤ g.w0.heap.size
  fact : L.start g.w0 g.base
  kp : ∀ b o, g.kp b = some o → w.heap[b]? = some o

def EndRep (L : Lnk) (g : Ghost) (en : Ending) : ARet → Prop
  | .ret x => ∃ v, en = .returned v ∧ Rep L g v x
  | .pan x => ∃ v, en = .panicked [⟨v, false, false⟩] ∧ Rep L g v x

/-- The abstract contract of a call: from every state of machine and ghost that stands for H and args. -/
def ACalls (L : Lnk) (f : Nat) (args : List AVal) (H : Heap) (Q : ARet → Heap → Prop) : Prop :=
  ∀ g w vs, St L g w H → RepL L g vs args →
    Calls L.P (L.num f) vs.toArray w fun e w' => ∃ r H' g', Q r H' ∧ g.le g' ∧ St L g' w' H' ∧ EndRep L g' e r

theorem ACalls.mono {L : Lnk} {f : Nat} {args : List AVal} {H : Heap} {Q Q' : ARet → Heap → Prop} (h : ACalls L f args H Q) (hq : ∀ r H', Q r H' → Q' r H') : ACalls L f args H Q' :=
  fun g w vs hs hr => (h g w vs hs hr).mono fun _ _ ⟨r, H', g', q, rest⟩ => ⟨r, H', g', hq _ _ q, rest⟩

end Go.Ag
