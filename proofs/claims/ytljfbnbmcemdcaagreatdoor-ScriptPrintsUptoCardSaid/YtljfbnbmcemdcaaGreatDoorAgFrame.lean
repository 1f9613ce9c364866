/- A contract told at a small heap holds beside other objects, and under other names of places. -/
import Derived.Test.YtljfbnbmcemdcaaGreatDoorAgRun
set_option linter.unusedVariables false
namespace Go.Ag
open Go
open Go.RowKit (Below)

variable {L : Lnk}

def renT (ρ : Nat → Nat) : Tok → Tok
  | .tail id => .tail (ρ id)
  | .nil => .nil
  | .full => .full
  | .none => .none

mutual
def ren (ρ : Nat → Nat) : AVal → AVal
  | .undef => .undef
  | .bool b => .bool b
  | .int k n => .int k n
  | .str s => .str s
  | .ptr id off => .ptr (ρ id) off
  | .nilptr => .nilptr
  | .lptr cs => .lptr (renL ρ cs)
  | .lst xs tk => .lst (renL ρ xs) (renT ρ tk)
  | .arr id v o n => .arr (ρ id) v o n
  | .map id => .map (ρ id)
  | .nilmap => .nilmap
  | .fn f a c => .fn f (renL ρ a) (renL ρ c)
  | .nilfn => .nilfn
  | .iface t x => .iface t (ren ρ x)
  | .niliface => .niliface
  | .agg cs => .agg (renL ρ cs)
  | .tup vs => .tup (renL ρ vs)
  | .dptr xs tk => .dptr (renL ρ xs) (renT ρ tk)
def renL (ρ : Nat → Nat) : List AVal → List AVal
  | [] => []
  | x :: xs => ren ρ x :: renL ρ xs
end

theorem renL_map (ρ : Nat → Nat) (xs : List AVal) : renL ρ xs = xs.map (ren ρ) := by
  induction xs with
  | nil => simp [renL]
  | cons x xs ih => simp [renL, ih]
theorem renL_len (ρ : Nat → Nat) (xs : List AVal) : (renL ρ xs).length = xs.length := by rw [renL_map]; simp
theorem ren_cells (ρ : Nat → Nat) (x : AVal) : (ren ρ x).cells = renL ρ x.cells := by
  cases x <;> simp [ren, AVal.cells, renL]
theorem renL_flat (ρ : Nat → Nat) (xs : List AVal) : flat (renL ρ xs) = renL ρ (flat xs) := by
  induction xs with
  | nil => simp [renL, flat]
  | cons x xs ih =>
    rw [renL_map] at ih ⊢
    rw [renL_map] at ih ⊢
    simp only [flat, List.map_cons, List.flatMap_cons, List.map_append] at ih ⊢
    rw [ih, ren_cells, renL_map]
theorem renL_cells_len (ρ : Nat → Nat) (x : AVal) : (ren ρ x).cells.length = x.cells.length := by rw [ren_cells, renL_len]

/-- A value without places is what it was. -/
theorem ren_low {ρ : Nat → Nat} {n : Nat} (hρ : ∀ i, i < n → ρ i = i) {x : AVal} (h : Low n x) : ren ρ x = x := by
  have tk : ∀ t, tokLow n t → renT ρ t = t := fun t ht => by
    cases t <;> first | rfl | (simp only [renT]; rw [hρ _ ht])
  have ls : ∀ xs : List AVal, (∀ x ∈ xs, ren ρ x = x) → renL ρ xs = xs := fun xs hx => by
    rw [renL_map]
    exact (List.map_congr_left (g := id) hx).trans (List.map_id xs)
  induction h with
  | undef => simp [ren]
  | bool => simp [ren]
  | int => simp [ren]
  | str => simp [ren]
  | ptr _ _ h => simp [ren, hρ _ h]
  | nilptr => simp [ren]
  | lptr cs _ ih => simp only [ren]; rw [ls _ ih]
  | lst xs t ht _ ih => simp only [ren]; rw [ls _ ih, tk _ ht]
  | arr _ _ _ _ h => simp [ren, hρ _ h]
  | map _ h => simp [ren, hρ _ h]
  | nilmap => simp [ren]
  | fn _ _ _ _ _ i1 i2 => simp only [ren]; rw [ls _ i1, ls _ i2]
  | nilfn => simp [ren]
  | iface _ _ _ ih => simp only [ren]; rw [ih]
  | niliface => simp [ren]
  | agg _ _ ih => simp only [ren]; rw [ls _ ih]
  | tup _ _ ih => simp only [ren]; rw [ls _ ih]
  | dptr xs t ht _ ih => simp only [ren]; rw [ls _ ih, tk _ ht]

def renO (ρ : Nat → Nat) : AObj → AObj
  | .dead => .dead
  | .gone => .gone
  | .cells cs t => .cells (renL ρ cs) t
  | .tail n t => .tail n t
  | .arr v xs => .arr v (renL ρ xs)
  | .map es => .map (es.map fun e => (ren ρ e.1, ren ρ e.2))

theorem renO_ver (ρ : Nat → Nat) (o : AObj) : (renO ρ o).ver = o.ver := by cases o <;> rfl
theorem renO_alive (ρ : Nat → Nat) (o : AObj) : (renO ρ o).alive = o.alive := by cases o <;> rfl

def renR (ρ : Nat → Nat) : ARet → ARet
  | .ret v => .ret (ren ρ v)
  | .pan v => .pan (ren ρ v)

theorem TokOK.ren {g g' : Ghost} {ρ : Nat → Nat} (h : ∀ i v s, g.ob i v = some s → g'.ob (ρ i) v = some s) {a : Option Addr} {n c k : Nat} {tk : Tok} (ht : TokOK g a n c k tk) : TokOK g' a n c k (renT ρ tk) := by
  cases tk with
  | tail id => obtain ⟨s, h1, h2⟩ := ht; exact ⟨s, h _ _ _ h1, h2⟩
  | _ => exact ht
theorem TokOK.unren {g g' : Ghost} {ρ : Nat → Nat} (h : ∀ i v s, g.ob (ρ i) v = some s → g'.ob i v = some s) {a : Option Addr} {n c k : Nat} {tk : Tok} (ht : TokOK g a n c k (renT ρ tk)) : TokOK g' a n c k tk := by
  cases tk with
  | tail id => obtain ⟨s, h1, h2⟩ := ht; exact ⟨s, h _ _ _ h1, h2⟩
  | _ => exact ht

theorem Rep.ren {g g' : Ghost} {ρ : Nat → Nat} (hf : ∀ b o v, g.fz b o = some v → g'.fz b o = some v) (ho : ∀ i v s, g.ob i v = some s → g'.ob (ρ i) v = some s) {v : Value} {x : AVal} (h : Rep L g v x) : Rep L g' v (ren ρ x) :=
  have kk : ∀ (xs : List AVal) (k : Nat), (∀ x ∈ xs, x.cells.length = k) → ∀ x ∈ renL ρ xs, x.cells.length = k := fun xs k hk x hx => by
    rw [renL_map] at hx
    obtain ⟨y, hy, rfl⟩ := List.mem_map.1 hx
    rw [renL_cells_len]; exact hk y hy
  Rep.rec (motive_1 := fun v x _ => Rep L g' v (Go.Ag.ren ρ x)) (motive_2 := fun vs xs _ => RepL L g' vs (renL ρ xs))
    (fun v => by simp only [Go.Ag.ren]; exact .undef v) (fun b => by simp only [Go.Ag.ren]; exact .bool b) (fun k n => by simp only [Go.Ag.ren]; exact .int k n) (fun s => by simp only [Go.Ag.ren]; exact .str s)
    (fun id off s h h0 => by simp only [Go.Ag.ren]; exact .ptr _ off s (ho _ _ _ h) h0) (by simp only [Go.Ag.ren]; exact .nilptr)
    (fun b o vs cs hf' _ hr => by simp only [Go.Ag.ren]; exact .lptr b o vs _ (fun j v hj => hf _ _ _ (hf' j v hj)) hr)
    (fun a c k b o xs vs tk ha hf' hk hc ht _ hr => by
      simp only [Go.Ag.ren]
      have := Rep.lst (L := L) (g := g') a c k b o (renL ρ xs) vs (renT ρ tk) (fun e => ha (fun e0 => e (by subst e0; simp [renL]))) (fun j v hj => hf _ _ _ (hf' j v hj)) (kk xs k hk) (by rw [renL_len]; exact hc) (by rw [renL_len]; exact ht.ren ho) (by rw [renL_flat]; exact hr)
      rwa [renL_len] at this)
    (fun id ver off len c s h h0 hc => by simp only [Go.Ag.ren]; exact .arr _ ver off len c s (ho _ _ _ h) h0 hc) (fun id s h => by simp only [Go.Ag.ren]; exact .map _ s (ho _ _ _ h)) (by simp only [Go.Ag.ren]; exact .nilmap)
    (fun f af fi ca afi aca h _ _ h1 h2 => by simp only [Go.Ag.ren]; exact .fn f af fi ca _ _ h h1 h2) (by simp only [Go.Ag.ren]; exact .nilfn) (fun t v x _ h => by simp only [Go.Ag.ren]; exact .iface t v _ h) (by simp only [Go.Ag.ren]; exact .niliface)
    (fun vs cs _ h => by simp only [Go.Ag.ren]; exact .agg vs _ h) (fun vs cs _ h => by simp only [Go.Ag.ren]; exact .tup vs _ h)
    (fun a c k b o xs vs tk ha hf' hk hc ht _ hr => by
      simp only [Go.Ag.ren]
      exact Rep.dptr (L := L) (g := g') a c k b o (renL ρ xs) vs (renT ρ tk) (fun e => ha (fun e0 => e (by subst e0; simp [renL]))) (fun j v hj => hf _ _ _ (hf' j v hj)) (kk xs k hk) (by rw [renL_len]; exact hc) (by rw [renL_len]; exact ht.ren ho) (by rw [renL_flat]; exact hr))
    (by simp only [renL]; exact .nil) (fun v x vs xs _ _ h hs => by simp only [renL]; exact .cons v _ vs _ h hs) h

theorem RepL.ren {g g' : Ghost} {ρ : Nat → Nat} (hf : ∀ b o v, g.fz b o = some v → g'.fz b o = some v) (ho : ∀ i v s, g.ob i v = some s → g'.ob (ρ i) v = some s) {vs : List Value} {xs : List AVal} (h : RepL L g vs xs) : RepL L g' vs (renL ρ xs) := by
  induction vs generalizing xs with
  | nil => cases h; simp only [renL]; exact .nil
  | cons v vs ih => cases h with | cons _ x _ xs h hs => simp only [renL]; exact .cons _ _ _ _ (h.ren hf ho) (ih hs)

theorem renL_eq_nil {ρ : Nat → Nat} {xs : List AVal} (h : [] = renL ρ xs) : xs = [] := by
  cases xs with
  | nil => rfl
  | cons => simp [renL] at h

theorem Rep.unren {g g' : Ghost} {ρ : Nat → Nat} (hf : ∀ b o v, g.fz b o = some v → g'.fz b o = some v) (ho : ∀ i v s, g.ob (ρ i) v = some s → g'.ob i v = some s) {v : Value} {y : AVal} (h : Rep L g v y) : ∀ x, y = Go.Ag.ren ρ x → Rep L g' v x :=
  have kk : ∀ (xs : List AVal) (k : Nat), (∀ x ∈ renL ρ xs, x.cells.length = k) → ∀ x ∈ xs, x.cells.length = k := fun xs k hk x hx => by
    rw [← renL_cells_len ρ]
    exact hk _ (by rw [renL_map]; exact List.mem_map.2 ⟨x, hx, rfl⟩)
  Rep.rec (motive_1 := fun v y _ => ∀ x, y = Go.Ag.ren ρ x → Rep L g' v x) (motive_2 := fun vs ys _ => ∀ xs, ys = renL ρ xs → RepL L g' vs xs)
    (fun v x e => by cases x <;> simp only [Go.Ag.ren, reduceCtorEq] at e; exact .undef v)
    (fun b x e => by cases x <;> simp only [Go.Ag.ren, reduceCtorEq] at e; cases e; exact .bool b)
    (fun k n x e => by cases x <;> simp only [Go.Ag.ren, reduceCtorEq] at e; cases e; exact .int k n)
    (fun s x e => by cases x <;> simp only [Go.Ag.ren, reduceCtorEq] at e; cases e; exact .str s)
    (fun id off s h h0 x e => by cases x <;> simp only [Go.Ag.ren, reduceCtorEq] at e; cases e; exact .ptr _ off s (ho _ _ _ h) h0)
    (fun x e => by cases x <;> simp only [Go.Ag.ren, reduceCtorEq] at e; exact .nilptr)
    (fun b o vs cs hf' _ hr x e => by cases x <;> simp only [Go.Ag.ren, reduceCtorEq] at e; cases e; exact .lptr b o vs _ (fun j v hj => hf _ _ _ (hf' j v hj)) (hr _ rfl))
    (fun a c k b o xs vs tk ha hf' hk hc ht _ hr x e => by
      cases x <;> simp only [Go.Ag.ren, reduceCtorEq] at e
      case lst ys tk' =>
      cases e
      rw [renL_len] at hc ht ⊢
      exact .lst a c k b o ys vs tk' (fun e => ha (fun e0 => e (renL_eq_nil e0.symm))) (fun j v hj => hf _ _ _ (hf' j v hj)) (kk ys k hk) hc (ht.unren ho) (hr _ (renL_flat ρ ys)))
    (fun id ver off len c s h h0 hc x e => by cases x <;> simp only [Go.Ag.ren, reduceCtorEq] at e; cases e; exact .arr _ ver off len c s (ho _ _ _ h) h0 hc)
    (fun id s h x e => by cases x <;> simp only [Go.Ag.ren, reduceCtorEq] at e; cases e; exact .map _ s (ho _ _ _ h))
    (fun x e => by cases x <;> simp only [Go.Ag.ren, reduceCtorEq] at e; exact .nilmap)
    (fun f af fi ca afi aca h _ _ h1 h2 x e => by cases x <;> simp only [Go.Ag.ren, reduceCtorEq] at e; cases e; exact .fn f af fi ca _ _ h (h1 _ rfl) (h2 _ rfl))
    (fun x e => by cases x <;> simp only [Go.Ag.ren, reduceCtorEq] at e; exact .nilfn)
    (fun t v y _ h x e => by cases x <;> simp only [Go.Ag.ren, reduceCtorEq] at e; cases e; exact .iface t v _ (h _ rfl))
    (fun x e => by cases x <;> simp only [Go.Ag.ren, reduceCtorEq] at e; exact .niliface)
    (fun vs cs _ h x e => by cases x <;> simp only [Go.Ag.ren, reduceCtorEq] at e; cases e; exact .agg vs _ (h _ rfl))
    (fun vs cs _ h x e => by cases x <;> simp only [Go.Ag.ren, reduceCtorEq] at e; cases e; exact .tup vs _ (h _ rfl))
    (fun a c k b o xs vs tk ha hf' hk hc ht _ hr x e => by
      cases x <;> simp only [Go.Ag.ren, reduceCtorEq] at e
      case dptr ys tk' =>
      cases e
      rw [renL_len] at hc ht
      exact .dptr a c k b o ys vs tk' (fun e => ha (fun e0 => e (renL_eq_nil e0.symm))) (fun j v hj => hf _ _ _ (hf' j v hj)) (kk ys k hk) hc (ht.unren ho) (hr _ (renL_flat ρ ys)))
    (fun xs e => by cases xs <;> simp only [renL, reduceCtorEq] at e; exact .nil)
    (fun v y vs ys _ _ h hs xs e => by cases xs <;> simp only [renL, reduceCtorEq] at e; cases e; exact .cons v _ vs _ (h _ rfl) (hs _ rfl)) h

theorem RepL.unren {g g' : Ghost} {ρ : Nat → Nat} (hf : ∀ b o v, g.fz b o = some v → g'.fz b o = some v) (ho : ∀ i v s, g.ob (ρ i) v = some s → g'.ob i v = some s) {vs : List Value} {xs : List AVal} (h : RepL L g vs (renL ρ xs)) : RepL L g' vs xs := by
  induction vs generalizing xs with
  | nil => cases xs with
    | nil => exact .nil
    | cons x xs => simp only [renL] at h; cases h
  | cons v vs ih =>
    cases xs with
    | nil => simp only [renL] at h; cases h
    | cons x xs =>
      simp only [renL] at h
      cases h with | cons _ _ _ _ h hs => exact .cons _ _ _ _ (h.unren hf ho x rfl) (ih hs)

/-! ### the frame -/
def putL : Heap → List Nat → List AObj → Heap
  | H, i :: is, o :: os => putL (H.set i o) is os
  | H, _, _ => H

theorem putL_length : ∀ (is : List Nat) (H : Heap) (os : List AObj), (putL H is os).length = H.length
  | [], H, os => by cases os <;> rfl
  | i :: is, H, [] => rfl
  | i :: is, H, o :: os => by rw [putL, putL_length is]; simp

theorem putL_ne : ∀ (is : List Nat) (H : Heap) (os : List AObj) (j : Nat), j ∉ is → (putL H is os)[j]? = H[j]?
  | [], H, os, j, _ => by cases os <;> rfl
  | i :: is, H, [], j, _ => rfl
  | i :: is, H, o :: os, j, h => by
    simp only [List.mem_cons, not_or] at h
    rw [putL, putL_ne is _ os j h.2, List.getElem?_set_ne (Ne.symm h.1)]

theorem putL_at : ∀ (is : List Nat) (H : Heap) (os : List AObj), is.Nodup → is.length = os.length → (∀ i ∈ is, i < H.length) → ∀ (k i : Nat), is[k]? = some i → (putL H is os)[i]? = os[k]?
  | [], H, os, _, _, _, k, i, h => by simp at h
  | i0 :: is, H, [], _, h, _, k, i, _ => by simp at h
  | i0 :: is, H, o :: os, hn, hl, hb, k, i, h => by
    rw [putL]
    have hn := List.nodup_cons.1 hn
    cases k with
    | zero =>
      simp at h
      subst h
      rw [putL_ne is _ os _ hn.1]
      simp [hb i0 (by simp)]
    | succ k =>
      rw [putL_at is _ os hn.2 (by simpa using hl) (fun j hj => by simpa using hb j (by simp [hj])) k i (by simpa using h)]
      simp

/-- The names that a small heap's places have in the great one. -/
def nameOf (is : List Nat) (n : Nat) (i : Nat) : Nat := match is[i]? with
  | some j => j
  | none => n + (i - is.length)

theorem nameOf_old {is : List Nat} {n i j : Nat} (h : is[i]? = some j) : nameOf is n i = j := by simp [nameOf, h]
theorem nameOf_new {is : List Nat} {n i : Nat} (h : is.length ≤ i) : nameOf is n i = n + (i - is.length) := by simp [nameOf, List.getElem?_eq_none h]

/-- A block of the objects that a call at a small heap is told of. -/
def Spotted (g : Ghost) (H : Heap) (is : List Nat) (b : Nat) : Prop := ∃ i, i ∈ is ∧ ∃ o s, H[i]? = some o ∧ o.alive = true ∧ g.ob i o.ver = some s ∧ s.b = b

open Classical in
/-- The ghost of a call at a small heap. -/
noncomputable def Ghost.small (g : Ghost) (w : World) (H : Heap) (is : List Nat) : Ghost :=
  { g with
    ob := fun i v => match is[i]? with
      | some j => g.ob j v
      | none => none
    kp := fun b => if Spotted g H is b then none else w.heap[b]? }

theorem Ghost.small_at {g : Ghost} {w : World} {H : Heap} {is : List Nat} {i j : Nat} (h : is[i]? = some j) (v : Nat) : (g.small w H is).ob i v = g.ob j v := by simp [Ghost.small, h]
theorem Ghost.small_kp {g : Ghost} {w : World} {H : Heap} {is : List Nat} {b : Nat} (h : Spotted g H is b) : (g.small w H is).kp b = none := by simp [Ghost.small, h]
theorem Ghost.small_kpn {g : Ghost} {w : World} {H : Heap} {is : List Nat} {b : Nat} (h : ¬ Spotted g H is b) : (g.small w H is).kp b = w.heap[b]? := by simp [Ghost.small, h]

theorem ObjOK.unren {g g' : Ghost} {w : World} {ρ : Nat → Nat} {k : Nat} {o : AObj} (hf : g'.fz = g.fz) (ho : ∀ i v s, g.ob (ρ i) v = some s → g'.ob i v = some s) (hk : ∀ v, g'.ob k v = g.ob (ρ k) v)
    (hown : o.alive = true → ∀ s, g.ob (ρ k) o.ver = some s → g'.own s.b) (h : ObjOK L g w (ρ k) (renO ρ o)) : ObjOK L g' w k o := by
  have hf' : ∀ b o v, g.fz b o = some v → g'.fz b o = some v := fun b o v h => by rw [hf]; exact h
  cases o with
  | dead => exact fun v => (hk v).trans (h v)
  | gone => trivial
  | cells cs t =>
    obtain ⟨s, vs, h1, h2, h3, h4, h5, h6⟩ := h
    exact ⟨s, vs, (hk 0).trans h1, h2, h3, h4.unren hf' ho, fun o => by rw [hf]; exact h5 o, hown rfl s h1⟩
  | tail n t =>
    obtain ⟨s, vs, h1, h0, h2, h3, h4, h5, h6⟩ := h
    exact ⟨s, vs, (hk n).trans h1, h0, fun m hm => (hk m).trans (h2 m hm), h3, h4, fun o ho => by rw [hf]; exact h5 o ho, hown rfl s h1⟩
  | arr v xs =>
    obtain ⟨s, vs, t, ws, h1, h2, h3, h4, h5, h6, h7, h8, h9, h10⟩ := h
    refine ⟨s, vs, t, ws, (hk v).trans h1, fun m hm => (hk m).trans (h2 m hm), h3, h4, h5, fun x hx => ?_, h7, ?_, fun o => by rw [hf]; exact h9 o, hown rfl s h1⟩
    · rw [← renL_cells_len ρ]; exact h6 _ (by rw [renL_map]; exact List.mem_map.2 ⟨x, hx, rfl⟩)
    · rw [renL_flat] at h8; exact h8.unren hf' ho
  | map es =>
    obtain ⟨s, ents, clock, h1, h2, h3, h4, h5, h6, h7⟩ := h
    refine ⟨s, ents, clock, (hk 0).trans h1, h2, ?_, ?_, hown rfl s h1, h6, h7⟩
    · refine RepL.unren hf' ho (ρ := ρ) ?_
      rw [renL_map, List.map_map]
      rw [List.map_map] at h3; exact h3
    · refine RepL.unren hf' ho (ρ := ρ) ?_
      rw [renL_map, List.map_map]
      rw [List.map_map] at h4; exact h4

theorem ObjOK.ren {g g' : Ghost} {w : World} {ρ : Nat → Nat} {k : Nat} {o : AObj} (hf : g'.fz = g.fz) (ho : ∀ i v s, g.ob i v = some s → g'.ob (ρ i) v = some s) (hk : ∀ v, g'.ob (ρ k) v = g.ob k v)
    (hown : ∀ b, g.own b → g'.own b) (h : ObjOK L g w k o) : ObjOK L g' w (ρ k) (renO ρ o) := by
  have hf' : ∀ b o v, g.fz b o = some v → g'.fz b o = some v := fun b o v h => by rw [hf]; exact h
  cases o with
  | dead => exact fun v => (hk v).trans (h v)
  | gone => trivial
  | cells cs t =>
    obtain ⟨s, vs, h1, h2, h3, h4, h5, h6⟩ := h
    exact ⟨s, vs, (hk 0).trans h1, h2, h3, h4.ren hf' ho, fun o => by rw [hf]; exact h5 o, hown _ h6⟩
  | tail n t =>
    obtain ⟨s, vs, h1, h0, h2, h3, h4, h5, h6⟩ := h
    exact ⟨s, vs, (hk n).trans h1, h0, fun m hm => (hk m).trans (h2 m hm), h3, h4, fun o ho => by rw [hf]; exact h5 o ho, hown _ h6⟩
  | arr v xs =>
    obtain ⟨s, vs, t, ws, h1, h2, h3, h4, h5, h6, h7, h8, h9, h10⟩ := h
    refine ⟨s, vs, t, ws, (hk v).trans h1, fun m hm => (hk m).trans (h2 m hm), h3, h4, h5, fun x hx => ?_, h7, ?_, fun o => by rw [hf]; exact h9 o, hown _ h10⟩
    · rw [renL_map] at hx
      obtain ⟨y, hy, rfl⟩ := List.mem_map.1 hx
      rw [renL_cells_len]; exact h6 y hy
    · rw [renL_flat]; exact h8.ren hf' ho
  | map es =>
    obtain ⟨s, ents, clock, h1, h2, h3, h4, h5, h6, h7⟩ := h
    refine ⟨s, ents, clock, (hk 0).trans h1, h2, ?_, ?_, hown _ h5, h6, h7⟩
    · have := RepL.ren hf' ho h3
      rw [renL_map, List.map_map] at this
      rw [List.map_map]; exact this
    · have := RepL.ren hf' ho h4
      rw [renL_map, List.map_map] at this
      rw [List.map_map]; exact this

/-- The small heap's objects stand, renamed, in the great one. -/
def Part (H : Heap) (is : List Nat) (H0 : Heap) : Prop := is.Nodup ∧ is.length = H0.length ∧ ∀ (k i : Nat) (o : AObj), is[k]? = some i → H0[k]? = some o → H[i]? = some (renO (nameOf is H.length) o)

theorem at_some {α : Type} {l : List α} {k : Nat} (h : k < l.length) : ∃ x, l[k]? = some x := ⟨l[k], List.getElem?_eq_getElem h⟩

theorem Part.lt {H : Heap} {is : List Nat} {H0 : Heap} (h : Part H is H0) {k i : Nat} (hi : is[k]? = some i) : i < H.length := by
  obtain ⟨o, ho⟩ := at_some (l := H0) (k := k) (by
    rw [← h.2.1]
    rcases Nat.lt_or_ge k is.length with h' | h'
    · exact h'
    · rw [List.getElem?_eq_none h'] at hi; cases hi)
  have := h.2.2 k i o hi ho
  rcases Nat.lt_or_ge i H.length with h' | h'
  · exact h'
  · rw [List.getElem?_eq_none h'] at this; cases this

theorem nodup_at {l : List Nat} (h : l.Nodup) {i j x : Nat} (hi : l[i]? = some x) (hj : l[j]? = some x) : i = j := by
  have h1 : i < l.length := by
    rcases Nat.lt_or_ge i l.length with h' | h'
    · exact h'
    · rw [List.getElem?_eq_none h'] at hi; cases hi
  exact (List.getElem?_inj h1 h).1 (hi.trans hj.symm)

theorem small_ob {g : Ghost} {w : World} {H H0 : Heap} {is : List Nat} (h : St L g w H) (hp : Part H is H0) : ∀ i v s, g.ob (nameOf is H.length i) v = some s → (g.small w H is).ob i v = some s := fun i v s hs => by
  cases hi : is[i]? with
  | some j => rw [nameOf_old hi] at hs; rw [Ghost.small_at hi]; exact hs
  | none =>
    have : is.length ≤ i := by
      rcases Nat.lt_or_ge i is.length with h' | h'
      · obtain ⟨x, hx⟩ := at_some h'; rw [hi] at hx; cases hx
      · exact h'
    rw [nameOf_new this, h.new _ _ (by omega)] at hs
    cases hs

theorem St.small {g : Ghost} {w : World} {H H0 : Heap} {is : List Nat} (h : St L g w H) (hp : Part H is H0) : St L (g.small w H is) w H0 := by
  have hidx : ∀ (k : Nat) (o : AObj), H0[k]? = some o → ∃ i, is[k]? = some i := fun k o ho => at_some (by
    rw [hp.2.1]
    rcases Nat.lt_or_ge k H0.length with h' | h'
    · exact h'
    · rw [List.getElem?_eq_none h'] at ho; cases ho)
  have hown : ∀ (k i : Nat) (o : AObj), is[k]? = some i → H0[k]? = some o → o.alive = true → ∀ s, g.ob i o.ver = some s → (g.small w H is).own s.b := fun k i o hi ho ha s hs => by
    have hH := hp.2.2 k i o hi ho
    obtain ⟨s', e1, e2⟩ := (h.obj i _ hH).place (by rw [renO_alive]; exact ha)
    rw [renO_ver, hs] at e1
    cases e1
    exact ⟨e2.1, Ghost.small_kp ⟨i, List.mem_of_getElem? hi, _, s, hH, by rw [renO_alive]; exact ha, by rw [renO_ver]; exact hs, rfl⟩⟩
  refine ⟨h.fz, fun k o ho => ?_, fun k v hk => ?_, fun k v s hs => ?_, fun k k' o o' s s' hk hk' ha ha' e1 e2 hb => ?_, h.below, h.bs, h.fact, fun b o hb => ?_⟩
  · obtain ⟨i, hi⟩ := hidx k o ho
    have hn := nameOf_old (n := H.length) hi
    refine ObjOK.unren (g := g) (ρ := nameOf is H.length) rfl (small_ob h hp) (fun v => by rw [hn, Ghost.small_at hi]) (fun ha s hs => ?_) ?_
    · rw [hn] at hs
      exact hown k i o hi ho ha s hs
    · rw [hn]; exact h.obj i _ (hp.2.2 k i o hi ho)
  · simp only [Ghost.small]
    rw [List.getElem?_eq_none (by rw [hp.2.1]; exact hk)]
  · simp only [Ghost.small] at hs
    split at hs
    · exact h.bnd _ _ _ hs
    · cases hs
  · obtain ⟨i, hi⟩ := hidx k o hk
    obtain ⟨i', hi'⟩ := hidx k' o' hk'
    rw [Ghost.small_at hi] at e1
    rw [Ghost.small_at hi'] at e2
    have := h.inj i i' _ _ s s' (hp.2.2 k i o hi hk) (hp.2.2 k' i' o' hi' hk') (by rw [renO_alive]; exact ha) (by rw [renO_alive]; exact ha') (by rw [renO_ver]; exact e1) (by rw [renO_ver]; exact e2) hb
    subst this
    exact nodup_at hp.1 hi hi'
  · by_cases hsp : Spotted g H is b
    · rw [Ghost.small_kp hsp] at hb; cases hb
    · rw [Ghost.small_kpn hsp] at hb; exact hb

/-- The ghost behind a call at a small heap: g before, g1 what the call has left. -/
def Ghost.big (g g1 : Ghost) (n : Nat) (is : List Nat) : Ghost :=
  { g with
    fz := g1.fz
    ob := fun j v => match is.findIdx? (· == j) with
      | some k => g1.ob k v
      | none => if n ≤ j then g1.ob (is.length + (j - n)) v else g.ob j v }

theorem find_at {is : List Nat} (hn : is.Nodup) {k i : Nat} (h : is[k]? = some i) : is.findIdx? (· == i) = some k := by
  rw [List.findIdx?_eq_some_iff_getElem]
  have hk : k < is.length := by
    rcases Nat.lt_or_ge k is.length with h' | h'
    · exact h'
    · rw [List.getElem?_eq_none h'] at h; cases h
  refine ⟨hk, ?_, fun j hj => ?_⟩
  · rw [List.getElem?_eq_getElem hk] at h; simp [Option.some.inj h]
  · simp only [beq_iff_eq]
    intro e
    have hj' : is[j]? = some i := by rw [List.getElem?_eq_getElem (by omega)]; rw [e]
    have := nodup_at hn hj' h
    omega
theorem find_none {is : List Nat} {i : Nat} (h : i ∉ is) : is.findIdx? (· == i) = none := by
  rw [List.findIdx?_eq_none_iff]
  intro x hx
  simp only [beq_eq_false_iff_ne]
  rintro rfl
  exact h hx

/-- The small heap's places are there still. -/
theorem frame_len {g g1 : Ghost} {w w' : World} {H H0 H1 : Heap} {is : List Nat} (h : St L g w H) (hp : Part H is H0) (ha : ∀ o ∈ H0, o.alive = true) (hle : (g.small w H is).le g1) (h1 : St L g1 w' H1) : is.length ≤ H1.length := by
  rcases Nat.lt_or_ge H1.length is.length with h' | h'
  · obtain ⟨i, hi⟩ := at_some (l := is) h'
    obtain ⟨o, ho⟩ := at_some (l := H0) (k := H1.length) (by rw [← hp.2.1]; exact h')
    have hH := hp.2.2 _ i o hi ho
    obtain ⟨s, e1, _⟩ := (h.obj i _ hH).place (by rw [renO_alive]; exact ha o (List.mem_of_getElem? ho))
    have e2 := hle.ob H1.length _ s (by rw [Ghost.small_at hi]; exact e1)
    rw [h1.new _ _ (Nat.le_refl _)] at e2
    cases e2
  · exact h'

theorem frame_st {g g1 : Ghost} {w w' : World} {H H0 H1 : Heap} {is : List Nat} (h : St L g w H) (hp : Part H is H0) (hle : (g.small w H is).le g1) (h1 : St L g1 w' H1) (hlen : is.length ≤ H1.length) :
    g.le (g.big g1 H.length is) ∧ St L (g.big g1 H.length is) w' (putL H is ((H1.take is.length).map (renO (nameOf is H.length))) ++ (H1.drop is.length).map (renO (nameOf is H.length))) ∧
      ∀ i v s, g1.ob i v = some s → (g.big g1 H.length is).ob (nameOf is H.length i) v = some s := by
  have hisl : ∀ i ∈ is, i < H.length := fun i hi => by
    obtain ⟨k, hk⟩ := List.mem_iff_getElem?.1 hi
    exact hp.lt hk
  have hob : ∀ i v, (g.big g1 H.length is).ob (nameOf is H.length i) v = g1.ob i v := fun i v => by
    cases hi : is[i]? with
    | some j => rw [nameOf_old hi]; simp only [Ghost.big, find_at hp.1 hi]
    | none =>
      have hge : is.length ≤ i := by
        rcases Nat.lt_or_ge i is.length with h' | h'
        · obtain ⟨x, hx⟩ := at_some h'; rw [hi] at hx; cases hx
        · exact h'
      rw [nameOf_new hge]
      simp only [Ghost.big]
      rw [find_none (fun hm => by have := hisl _ hm; omega)]
      simp only
      rw [if_pos (by omega), show is.length + (H.length + (i - is.length) - H.length) = i from by omega]
  have hold : ∀ j v, j ∉ is → j < H.length → (g.big g1 H.length is).ob j v = g.ob j v := fun j v hj hlt => by
    simp only [Ghost.big, find_none hj]
    rw [if_neg (by omega)]
  have hkpn : ∀ b, g.kp b ≠ none → (g.small w H is).kp b = w.heap[b]? ∧ ¬ Spotted g H is b := fun b hb => by
    have : ¬ Spotted g H is b := fun ⟨i, hi, o, s, e1, e2, e3, e4⟩ => by
      obtain ⟨s', k1, k2⟩ := (h.obj i o e1).place e2
      rw [e3] at k1
      cases k1
      subst e4
      exact hb k2.2
    exact ⟨Ghost.small_kpn this, this⟩
  have hkps : ∀ b, ¬ Spotted g H is b → b < w.heap.size → w'.heap[b]? = w.heap[b]? ∧ (g.small w H is).kp b ≠ none := fun b hb hlt => by
    have e0 : w.heap[b]? = some w.heap[b] := Array.getElem?_eq_getElem hlt
    have e1 := Ghost.small_kpn (w := w) hb
    refine ⟨?_, by rw [e1, e0]; simp⟩
    rw [e0]
    exact h1.kp b _ (by rw [hle.kp, e1, e0])
  have hsize : w.heap.size ≤ w'.heap.size := by
    rcases Nat.lt_or_ge w'.heap.size w.heap.size with h' | h'
    · have hlt : w.heap.size - 1 < w.heap.size := by omega
      by_cases hs : Spotted g H is (w.heap.size - 1)
      · obtain ⟨i, hi, o, s, e1, e2, e3, e4⟩ := hs
        obtain ⟨k, hk⟩ := List.mem_iff_getElem?.1 hi
        have := h1.bnd k _ s (hle.ob k _ s (by rw [Ghost.small_at hk]; exact e3))
        omega
      · have := (hkps _ hs hlt).1
        rw [Array.getElem?_eq_none (by omega), Array.getElem?_eq_getElem hlt] at this
        cases this
    · exact h'
  have hfzk : ∀ b o, (g.small w H is).kp b ≠ none → g1.fz b o = g.fz b o := fun b o hb => hle.fzk b o hb
  have hle2 : g.le (g.big g1 H.length is) := by
    refine ⟨rfl, rfl, fun b o v hv => hle.fz b o v hv, fun j v s hs => ?_, rfl, fun b o hb => ?_⟩
    · by_cases hj : j ∈ is
      · obtain ⟨k, hk⟩ := List.mem_iff_getElem?.1 hj
        have := hob k v
        rw [nameOf_old hk] at this
        rw [this]
        exact hle.ob k v s (by rw [Ghost.small_at hk]; exact hs)
      · rcases Nat.lt_or_ge j H.length with hlt | hge
        · rw [hold j v hj hlt]; exact hs
        · rw [h.new j v hge] at hs; cases hs
    · refine hfzk b o ?_
      obtain ⟨e1, _⟩ := hkpn b hb
      rw [e1]
      cases hk : g.kp b with
      | none => exact absurd hk hb
      | some ob => rw [h.kp b ob hk]; simp
  have hob2 : ∀ i v s, g1.ob i v = some s → (g.big g1 H.length is).ob (nameOf is H.length i) v = some s := fun i v s hs => by rw [hob]; exact hs
  have hown2 : ∀ b, g1.own b → (g.big g1 H.length is).own b := fun b ⟨e1, e2⟩ => by
    refine ⟨by have := hle.base; simp only [Ghost.small] at this; show g.base ≤ b; rw [← this]; exact e1, ?_⟩
    show g.kp b = none
    cases hk : g.kp b with
    | none => rfl
    | some ob =>
      obtain ⟨e3, _⟩ := hkpn b (by rw [hk]; simp)
      rw [hle.kp, e3, h.kp b ob hk] at e2
      cases e2
  -- what stands in the great heap
  have hput : (putL H is ((H1.take is.length).map (renO (nameOf is H.length)))).length = H.length := putL_length _ _ _
  have cls : ∀ (j : Nat) (o : AObj), (putL H is ((H1.take is.length).map (renO (nameOf is H.length))) ++ (H1.drop is.length).map (renO (nameOf is H.length)))[j]? = some o →
      (∃ k o1, j = nameOf is H.length k ∧ H1[k]? = some o1 ∧ o = renO (nameOf is H.length) o1) ∨ (j ∉ is ∧ j < H.length ∧ H[j]? = some o) := fun j o hj => by
    rcases Nat.lt_or_ge j H.length with hlt | hge
    · rw [List.getElem?_append_left (by rw [hput]; exact hlt)] at hj
      by_cases hm : j ∈ is
      · obtain ⟨k, hk⟩ := List.mem_iff_getElem?.1 hm
        have hkl : k < is.length := by
          rcases Nat.lt_or_ge k is.length with h' | h'
          · exact h'
          · rw [List.getElem?_eq_none h'] at hk; cases hk
        rw [putL_at is H _ hp.1 (by simp; omega) hisl k j hk, List.getElem?_map, List.getElem?_take, if_pos hkl] at hj
        cases hk1 : H1[k]? with
        | none => rw [hk1] at hj; cases hj
        | some o1 => rw [hk1] at hj; exact .inl ⟨k, o1, (nameOf_old hk).symm, hk1, (Option.some.inj hj).symm⟩
      · rw [putL_ne is H _ j hm] at hj
        exact .inr ⟨hm, hlt, hj⟩
    · rw [List.getElem?_append_right (by rw [hput]; exact hge), hput, List.getElem?_map, List.getElem?_drop] at hj
      cases hk1 : H1[is.length + (j - H.length)]? with
      | none => rw [hk1] at hj; cases hj
      | some o1 =>
        rw [hk1] at hj
        exact .inl ⟨is.length + (j - H.length), o1, by rw [nameOf_new (by omega)]; omega, hk1, (Option.some.inj hj).symm⟩
  have rest : ∀ (j : Nat) (o : AObj) s, j ∉ is → H[j]? = some o → o.alive = true → g.ob j o.ver = some s → ¬ Spotted g H is s.b ∧ s.b < w.heap.size := fun j o s hj ho ha hs =>
    ⟨fun ⟨i, hi, o', s', e1, e2, e3, e4⟩ => by
      have := h.inj i j o' o s' s e1 ho e2 ha e3 hs e4
      subst this
      exact hj hi, h.bnd _ _ _ hs⟩
  refine ⟨hle2, ⟨h1.fz, fun j o hj => ?_, fun j v hj => ?_, fun j v s hs => ?_, fun i j o o' s s' hi hj ha ha' e1 e2 hb => ?_, ?_, h.bs, h.fact, fun b o hb => ?_⟩, hob2⟩
  · rcases cls j o hj with ⟨k, o1, rfl, hk, rfl⟩ | ⟨hm, hlt, hH⟩
    · exact ObjOK.ren (g := g1) rfl hob2 (fun v => hob k v) hown2 (h1.obj k o1 hk)
    · refine (h.obj j o hH).keep hle2 (fun v => hold j v hm hlt) fun ha s hs => ?_
      obtain ⟨e1, e2⟩ := rest j o s hm hH ha hs
      obtain ⟨e3, e4⟩ := hkps _ e1 e2
      exact ⟨e3, fun x => hfzk _ x e4⟩
  · simp only [List.length_append, hput, List.length_map, List.length_drop] at hj
    have hm : j ∉ is := fun hm => by have := hisl j hm; omega
    simp only [Ghost.big, find_none hm]
    rw [if_pos (by omega)]
    exact h1.new _ _ (by omega)
  · by_cases hm : j ∈ is
    · obtain ⟨k, hk⟩ := List.mem_iff_getElem?.1 hm
      have := hob k v
      rw [nameOf_old hk] at this
      rw [this] at hs
      exact h1.bnd _ _ _ hs
    · rcases Nat.lt_or_ge j H.length with hlt | hge
      · rw [hold j v hm hlt] at hs
        exact Nat.lt_of_lt_of_le (h.bnd _ _ _ hs) hsize
      · simp only [Ghost.big, find_none hm] at hs
        rw [if_pos hge] at hs
        exact h1.bnd _ _ _ hs
  · rcases cls i o hi with ⟨k, o1, rfl, hk, rfl⟩ | ⟨hm, hlt, hH⟩ <;> rcases cls j o' hj with ⟨k', o1', rfl, hk', rfl⟩ | ⟨hm', hlt', hH'⟩
    · rw [hob, renO_ver] at e1 e2
      rw [renO_alive] at ha ha'
      rw [h1.inj k k' o1 o1' s s' hk hk' ha ha' e1 e2 hb]
    · rw [hob, renO_ver] at e1
      rw [renO_alive] at ha
      rw [hold _ _ hm' hlt'] at e2
      obtain ⟨s1, k1, k2⟩ := (h1.obj k o1 hk).place ha
      rw [e1] at k1
      cases k1
      obtain ⟨f1, f2⟩ := rest j o' s' hm' hH' ha' e2
      obtain ⟨_, f4⟩ := hkps _ f1 f2
      rw [← hb, ← hle.kp] at f4
      exact absurd k2.2 f4
    · rw [hob, renO_ver] at e2
      rw [renO_alive] at ha'
      rw [hold _ _ hm hlt] at e1
      obtain ⟨s1, k1, k2⟩ := (h1.obj k' o1' hk').place ha'
      rw [e2] at k1
      cases k1
      obtain ⟨f1, f2⟩ := rest i o s hm hH ha e1
      obtain ⟨_, f4⟩ := hkps _ f1 f2
      rw [hb, ← hle.kp] at f4
      exact absurd k2.2 f4
    · rw [hold _ _ hm hlt] at e1
      rw [hold _ _ hm' hlt'] at e2
      exact h.inj i j o o' s s' hH hH' ha ha' e1 e2 hb
  · have hb := h1.below
    have e1 := hle.base
    have e2 := hle.w0
    simp only [Ghost.small] at e1 e2
    rw [e1, e2] at hb
    exact hb
  · obtain ⟨e1, _⟩ := hkpn b (by show g.kp b ≠ none; rw [show g.kp b = some o from hb]; simp)
    exact h1.kp b o (by rw [hle.kp, e1]; exact h.kp b o hb)

/-- A contract at a small heap, in a great one. -/
theorem ACalls.frameL {f : Nat} {args : List AVal} {H0 : Heap} {Q : ARet → Heap → Prop} (h : ACalls L f args H0 Q) {H : Heap} (is : List Nat) (hp : Part H is H0) (hq : (∀ o ∈ H0, o.alive = true) ∨ ∀ r H1, Q r H1 → H0.length ≤ H1.length) :
    ACalls L f (args.map (ren (nameOf is H.length))) H fun r H' => ∃ r1 H1, Q r1 H1 ∧ is.length ≤ H1.length ∧ r = renR (nameOf is H.length) r1 ∧
      H' = putL H is ((H1.take is.length).map (renO (nameOf is H.length))) ++ (H1.drop is.length).map (renO (nameOf is H.length)) := fun g w vs hs hr => by
  have hr' : RepL L (g.small w H is) vs args := RepL.unren (g := g) (g' := g.small w H is) (ρ := nameOf is H.length) (fun _ _ _ h => h) (small_ob hs hp) (by rw [renL_map]; exact hr)
  refine (h _ w vs (hs.small hp) hr').mono fun e w' ⟨r1, H1, g1, hQ, hle, hst, hrep⟩ => ?_
  have k1 : is.length ≤ H1.length := hq.elim (fun ha => frame_len hs hp ha hle hst) fun hq => by rw [hp.2.1]; exact hq _ _ hQ
  obtain ⟨k2, k3, k4⟩ := frame_st hs hp hle hst k1
  refine ⟨_, _, g.big g1 H.length is, ⟨r1, H1, hQ, k1, rfl, rfl⟩, k2, k3, ?_⟩
  cases r1 with
  | ret x => obtain ⟨v, rfl, hv⟩ := hrep; exact ⟨v, rfl, Rep.ren (g := g1) (g' := g.big g1 H.length is) (fun _ _ _ h => h) k4 hv⟩
  | pan x => obtain ⟨v, rfl, hv⟩ := hrep; exact ⟨v, rfl, Rep.ren (g := g1) (g' := g.big g1 H.length is) (fun _ _ _ h => h) k4 hv⟩

theorem ACalls.frame {f : Nat} {args : List AVal} {H0 : Heap} {Q : ARet → Heap → Prop} (h : ACalls L f args H0 Q) {H : Heap} (is : List Nat) (hp : Part H is H0) (ha : ∀ o ∈ H0, o.alive = true) :
    ACalls L f (args.map (ren (nameOf is H.length))) H fun r H' => ∃ r1 H1, Q r1 H1 ∧ is.length ≤ H1.length ∧ r = renR (nameOf is H.length) r1 ∧
      H' = putL H is ((H1.take is.length).map (renO (nameOf is H.length))) ++ (H1.drop is.length).map (renO (nameOf is H.length)) := h.frameL is hp (.inl ha)

/-- A call, some places kept for it. -/
theorem ACalls.dead {f : Nat} {args : List AVal} {H : Heap} {Q : ARet → Heap → Prop} (h : ACalls L f args (H ++ [.dead]) Q) : ACalls L f args H Q := fun g w vs hs hr => h g w vs hs.pushDead hr
theorem ACalls.deads {f : Nat} {args : List AVal} {H : Heap} {Q : ARet → Heap → Prop} (k : Nat) (h : ACalls L f args (H ++ List.replicate k .dead) Q) : ACalls L f args H Q := by
  induction k generalizing H with
  | zero => simpa using h
  | succ k ih => exact ACalls.dead (ih (by rw [List.append_assoc]; exact h))

end Go.Ag
