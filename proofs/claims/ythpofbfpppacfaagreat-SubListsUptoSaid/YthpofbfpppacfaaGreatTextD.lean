/- Our texts, joined by a program of ours (join.py): part 4 of 8. -/
import Derived.Test.YthpofbfpppacfaaGreatTextC
/- A contract told at a small heap holds beside other objects, and under other names of places. -/
set_option linter.unusedVariables false
namespace Go.Ag
open Go
open Go.RowKit (Below)

variable {L : Lnk}

def renT (ρ : Nat → Nat) : Tok → Tok
  | .tail id => .tail (ρ id)
  | .nil => .nil
  | .full => .full
  | .none => .none

mutual
def ren (ρ : Nat → Nat) : AVal → AVal
  | .undef => .undef
  | .bool b => .bool b
  | .int k n => .int k n
  | .str s => .str s
  | .ptr id off => .ptr (ρ id) off
  | .nilptr => .nilptr
  | .lptr cs => .lptr (renL ρ cs)
  | .lst xs tk => .lst (renL ρ xs) (renT ρ tk)
  | .arr id v o n => .arr (ρ id) v o n
  | .map id => .map (ρ id)
  | .nilmap => .nilmap
  | .fn f a c => .fn f (renL ρ a) (renL ρ c)
  | .nilfn => .nilfn
  | .iface t x => .iface t (ren ρ x)
  | .niliface => .niliface
  | .agg cs => .agg (renL ρ cs)
  | .tup vs => .tup (renL ρ vs)
  | .dptr xs tk => .dptr (renL ρ xs) (renT ρ tk)
  | .yld id => .yld (ρ id)
  | .vec id v k o n => .vec (ρ id) v k o n
  | .eptr id v o => .eptr (ρ id) v o
def renL (ρ : Nat → Nat) : List AVal → List AVal
  | [] => []
  | x :: xs => ren ρ x :: renL ρ xs
end

theorem renL_map (ρ : Nat → Nat) (xs : List AVal) : renL ρ xs = xs.map (ren ρ) := by
  induction xs with
  | nil => simp [renL]
  | cons x xs ih => simp [renL, ih]
theorem renL_len (ρ : Nat → Nat) (xs : List AVal) : (renL ρ xs).length = xs.length := by rw [renL_map]; simp
theorem ren_cells (ρ : Nat → Nat) (x : AVal) : (ren ρ x).cells = renL ρ x.cells := by
  cases x <;> simp [ren, AVal.cells, renL]
theorem renL_flat (ρ : Nat → Nat) (xs : List AVal) : flat (renL ρ xs) = renL ρ (flat xs) := by
  induction xs with
  | nil => simp [renL, flat]
  | cons x xs ih =>
    rw [renL_map] at ih ⊢
    rw [renL_map] at ih ⊢
    simp only [flat, List.map_cons, List.flatMap_cons, List.map_append] at ih ⊢
    rw [ih, ren_cells, renL_map]
theorem renL_cells_len (ρ : Nat → Nat) (x : AVal) : (ren ρ x).cells.length = x.cells.length := by rw [ren_cells, renL_len]

theorem ren_low {ρ : Nat → Nat} {n : Nat} (hρ : ∀ i, i < n → ρ i = i) {x : AVal} (h : Low n x) : ren ρ x = x := by
  have tk : ∀ t, tokLow n t → renT ρ t = t := fun t ht => by
    cases t <;> first | rfl | (simp only [renT]; rw [hρ _ ht])
  have ls : ∀ xs : List AVal, (∀ x ∈ xs, ren ρ x = x) → renL ρ xs = xs := fun xs hx => by
    rw [renL_map]
    exact (List.map_congr_left (g := id) hx).trans (List.map_id xs)
  induction h with
  | undef => simp [ren]
  | bool => simp [ren]
  | int => simp [ren]
  | str => simp [ren]
  | ptr _ _ h => simp [ren, hρ _ h]
  | nilptr => simp [ren]
  | lptr cs _ ih => simp only [ren]; rw [ls _ ih]
  | lst xs t ht _ ih => simp only [ren]; rw [ls _ ih, tk _ ht]
  | arr _ _ _ _ h => simp [ren, hρ _ h]
  | map _ h => simp [ren, hρ _ h]
  | nilmap => simp [ren]
  | fn _ _ _ _ _ i1 i2 => simp only [ren]; rw [ls _ i1, ls _ i2]
  | nilfn => simp [ren]
  | iface _ _ _ ih => simp only [ren]; rw [ih]
  | niliface => simp [ren]
  | agg _ _ ih => simp only [ren]; rw [ls _ ih]
  | tup _ _ ih => simp only [ren]; rw [ls _ ih]
  | dptr xs t ht _ ih => simp only [ren]; rw [ls _ ih, tk _ ht]
  | yld _ h => simp [ren, hρ _ h]
  | vec _ _ _ _ _ h => simp [ren, hρ _ h]
  | eptr _ _ _ h => simp [ren, hρ _ h]

def renO (ρ : Nat → Nat) : AObj → AObj
  | .dead => .dead
  | .gone => .gone
  | .cells cs t => .cells (renL ρ cs) t
  | .tail n t => .tail n t
  | .arr v xs t => .arr v (renL ρ xs) t
  | .map es c => .map (es.map fun e => (ren ρ e.1, ren ρ e.2.1, e.2.2)) c
  | .miter m since seen last => .miter (m.map ρ) since seen last
  | .loop r st => .loop { r with e := fun i => ren ρ (r.e i) } st

theorem renO_ver (ρ : Nat → Nat) (o : AObj) : (renO ρ o).ver = o.ver := by cases o <;> rfl
theorem renO_alive (ρ : Nat → Nat) (o : AObj) : (renO ρ o).alive = o.alive := by cases o <;> rfl

def renR (ρ : Nat → Nat) : ARet → ARet
  | .ret v => .ret (ren ρ v)
  | .pan v => .pan (ren ρ v)

theorem TokOK.ren {g g' : Ghost} {ρ : Nat → Nat} (h : ∀ i v s, g.ob i v = some s → g'.ob (ρ i) v = some s) {a : Option Addr} {n c k : Nat} {tk : Tok} (ht : TokOK g a n c k tk) : TokOK g' a n c k (renT ρ tk) := by
  cases tk with
  | tail id => obtain ⟨s, h1, h2⟩ := ht; exact ⟨s, h _ _ _ h1, h2⟩
  | _ => exact ht
theorem TokOK.unren {g g' : Ghost} {ρ : Nat → Nat} (h : ∀ i v s, g.ob (ρ i) v = some s → g'.ob i v = some s) {a : Option Addr} {n c k : Nat} {tk : Tok} (ht : TokOK g a n c k (renT ρ tk)) : TokOK g' a n c k tk := by
  cases tk with
  | tail id => obtain ⟨s, h1, h2⟩ := ht; exact ⟨s, h _ _ _ h1, h2⟩
  | _ => exact ht

theorem Rep.ren {g g' : Ghost} {ρ : Nat → Nat} (hf : ∀ b o v, g.fz b o = some v → g'.fz b o = some v) (ho : ∀ i v s, g.ob i v = some s → g'.ob (ρ i) v = some s) {v : Value} {x : AVal} (h : Rep L g v x) : Rep L g' v (ren ρ x) :=
  have kk : ∀ (xs : List AVal) (k : Nat), (∀ x ∈ xs, x.cells.length = k) → ∀ x ∈ renL ρ xs, x.cells.length = k := fun xs k hk x hx => by
    rw [renL_map] at hx
    obtain ⟨y, hy, rfl⟩ := List.mem_map.1 hx
    rw [renL_cells_len]; exact hk y hy
  Rep.rec (motive_1 := fun v x _ => Rep L g' v (Go.Ag.ren ρ x)) (motive_2 := fun vs xs _ => RepL L g' vs (renL ρ xs))
    (fun v => by simp only [Go.Ag.ren]; exact .undef v) (fun b => by simp only [Go.Ag.ren]; exact .bool b) (fun k n => by simp only [Go.Ag.ren]; exact .int k n) (fun s => by simp only [Go.Ag.ren]; exact .str s)
    (fun id off s h h0 => by simp only [Go.Ag.ren]; exact .ptr _ off s (ho _ _ _ h) h0) (by simp only [Go.Ag.ren]; exact .nilptr)
    (fun b o vs cs hf' _ hr => by simp only [Go.Ag.ren]; exact .lptr b o vs _ (fun j v hj => hf _ _ _ (hf' j v hj)) hr)
    (fun a c k b o xs vs tk ha hf' hk hc ht _ hr => by
      simp only [Go.Ag.ren]
      have := Rep.lst (L := L) (g := g') a c k b o (renL ρ xs) vs (renT ρ tk) (fun e => ha (fun e0 => e (by subst e0; simp [renL]))) (fun j v hj => hf _ _ _ (hf' j v hj)) (kk xs k hk) (by rw [renL_len]; exact hc) (by rw [renL_len]; exact ht.ren ho) (by rw [renL_flat]; exact hr)
      rwa [renL_len] at this)
    (fun id ver off len c s h h0 hc => by simp only [Go.Ag.ren]; exact .arr _ ver off len c s (ho _ _ _ h) h0 hc) (fun id s h => by simp only [Go.Ag.ren]; exact .map _ s (ho _ _ _ h)) (by simp only [Go.Ag.ren]; exact .nilmap)
    (fun f af fi ca afi aca h _ _ h1 h2 => by simp only [Go.Ag.ren]; exact .fn f af fi ca _ _ h h1 h2) (by simp only [Go.Ag.ren]; exact .nilfn) (fun t v x _ h => by simp only [Go.Ag.ren]; exact .iface t v _ h) (by simp only [Go.Ag.ren]; exact .niliface)
    (fun vs cs _ h => by simp only [Go.Ag.ren]; exact .agg vs _ h) (fun vs cs _ h => by simp only [Go.Ag.ren]; exact .tup vs _ h)
    (fun a c k b o xs vs tk ha hf' hk hc ht _ hr => by
      simp only [Go.Ag.ren]
      exact Rep.dptr (L := L) (g := g') a c k b o (renL ρ xs) vs (renT ρ tk) (fun e => ha (fun e0 => e (by subst e0; simp [renL]))) (fun j v hj => hf _ _ _ (hf' j v hj)) (kk xs k hk) (by rw [renL_len]; exact hc) (by rw [renL_len]; exact ht.ren ho) (by rw [renL_flat]; exact hr))
    (fun id s h => by simp only [Go.Ag.ren]; exact .yld _ s (ho _ _ _ h)) (fun id ver k off len c s h hk hc hz => by simp only [Go.Ag.ren]; exact .vec _ ver k off len c s (ho _ _ _ h) hk hc hz) (fun id ver off s h => by simp only [Go.Ag.ren]; exact .eptr _ ver off s (ho _ _ _ h))
    (by simp only [renL]; exact .nil) (fun v x vs xs _ _ h hs => by simp only [renL]; exact .cons v _ vs _ h hs) h

theorem RepL.ren {g g' : Ghost} {ρ : Nat → Nat} (hf : ∀ b o v, g.fz b o = some v → g'.fz b o = some v) (ho : ∀ i v s, g.ob i v = some s → g'.ob (ρ i) v = some s) {vs : List Value} {xs : List AVal} (h : RepL L g vs xs) : RepL L g' vs (renL ρ xs) := by
  induction vs generalizing xs with
  | nil => cases h; simp only [renL]; exact .nil
  | cons v vs ih => cases h with | cons _ x _ xs h hs => simp only [renL]; exact .cons _ _ _ _ (h.ren hf ho) (ih hs)

theorem renL_eq_nil {ρ : Nat → Nat} {xs : List AVal} (h : [] = renL ρ xs) : xs = [] := by
  cases xs with
  | nil => rfl
  | cons => simp [renL] at h

theorem Rep.unren {g g' : Ghost} {ρ : Nat → Nat} (hf : ∀ b o v, g.fz b o = some v → g'.fz b o = some v) (ho : ∀ i v s, g.ob (ρ i) v = some s → g'.ob i v = some s) {v : Value} {y : AVal} (h : Rep L g v y) : ∀ x, y = Go.Ag.ren ρ x → Rep L g' v x :=
  have kk : ∀ (xs : List AVal) (k : Nat), (∀ x ∈ renL ρ xs, x.cells.length = k) → ∀ x ∈ xs, x.cells.length = k := fun xs k hk x hx => by
    rw [← renL_cells_len ρ]
    exact hk _ (by rw [renL_map]; exact List.mem_map.2 ⟨x, hx, rfl⟩)
  Rep.rec (motive_1 := fun v y _ => ∀ x, y = Go.Ag.ren ρ x → Rep L g' v x) (motive_2 := fun vs ys _ => ∀ xs, ys = renL ρ xs → RepL L g' vs xs)
    (fun v x e => by cases x <;> simp only [Go.Ag.ren, reduceCtorEq] at e; exact .undef v)
    (fun b x e => by cases x <;> simp only [Go.Ag.ren, reduceCtorEq] at e; cases e; exact .bool b)
    (fun k n x e => by cases x <;> simp only [Go.Ag.ren, reduceCtorEq] at e; cases e; exact .int k n)
    (fun s x e => by cases x <;> simp only [Go.Ag.ren, reduceCtorEq] at e; cases e; exact .str s)
    (fun id off s h h0 x e => by cases x <;> simp only [Go.Ag.ren, reduceCtorEq] at e; cases e; exact .ptr _ off s (ho _ _ _ h) h0)
    (fun x e => by cases x <;> simp only [Go.Ag.ren, reduceCtorEq] at e; exact .nilptr)
    (fun b o vs cs hf' _ hr x e => by cases x <;> simp only [Go.Ag.ren, reduceCtorEq] at e; cases e; exact .lptr b o vs _ (fun j v hj => hf _ _ _ (hf' j v hj)) (hr _ rfl))
    (fun a c k b o xs vs tk ha hf' hk hc ht _ hr x e => by
      cases x <;> simp only [Go.Ag.ren, reduceCtorEq] at e
      case lst ys tk' =>
      cases e
      rw [renL_len] at hc ht ⊢
      exact .lst a c k b o ys vs tk' (fun e => ha (fun e0 => e (renL_eq_nil e0.symm))) (fun j v hj => hf _ _ _ (hf' j v hj)) (kk ys k hk) hc (ht.unren ho) (hr _ (renL_flat ρ ys)))
    (fun id ver off len c s h h0 hc x e => by cases x <;> simp only [Go.Ag.ren, reduceCtorEq] at e; cases e; exact .arr _ ver off len c s (ho _ _ _ h) h0 hc)
    (fun id s h x e => by cases x <;> simp only [Go.Ag.ren, reduceCtorEq] at e; cases e; exact .map _ s (ho _ _ _ h))
    (fun x e => by cases x <;> simp only [Go.Ag.ren, reduceCtorEq] at e; exact .nilmap)
    (fun f af fi ca afi aca h _ _ h1 h2 x e => by cases x <;> simp only [Go.Ag.ren, reduceCtorEq] at e; cases e; exact .fn f af fi ca _ _ h (h1 _ rfl) (h2 _ rfl))
    (fun x e => by cases x <;> simp only [Go.Ag.ren, reduceCtorEq] at e; exact .nilfn)
    (fun t v y _ h x e => by cases x <;> simp only [Go.Ag.ren, reduceCtorEq] at e; cases e; exact .iface t v _ (h _ rfl))
    (fun x e => by cases x <;> simp only [Go.Ag.ren, reduceCtorEq] at e; exact .niliface)
    (fun vs cs _ h x e => by cases x <;> simp only [Go.Ag.ren, reduceCtorEq] at e; cases e; exact .agg vs _ (h _ rfl))
    (fun vs cs _ h x e => by cases x <;> simp only [Go.Ag.ren, reduceCtorEq] at e; cases e; exact .tup vs _ (h _ rfl))
    (fun a c k b o xs vs tk ha hf' hk hc ht _ hr x e => by
      cases x <;> simp only [Go.Ag.ren, reduceCtorEq] at e
      case dptr ys tk' =>
      cases e
      rw [renL_len] at hc ht
      exact .dptr a c k b o ys vs tk' (fun e => ha (fun e0 => e (renL_eq_nil e0.symm))) (fun j v hj => hf _ _ _ (hf' j v hj)) (kk ys k hk) hc (ht.unren ho) (hr _ (renL_flat ρ ys)))
    (fun id s h x e => by cases x <;> simp only [Go.Ag.ren, reduceCtorEq] at e; cases e; exact .yld _ s (ho _ _ _ h))
    (fun id ver k off len c s h hk hc hz x e => by cases x <;> simp only [Go.Ag.ren, reduceCtorEq] at e; cases e; exact .vec _ ver k off len c s (ho _ _ _ h) hk hc hz)
    (fun id ver off s h x e => by cases x <;> simp only [Go.Ag.ren, reduceCtorEq] at e; cases e; exact .eptr _ ver off s (ho _ _ _ h))
    (fun xs e => by cases xs <;> simp only [renL, reduceCtorEq] at e; exact .nil)
    (fun v y vs ys _ _ h hs xs e => by cases xs <;> simp only [renL, reduceCtorEq] at e; cases e; exact .cons v _ vs _ (h _ rfl) (hs _ rfl)) h

theorem RepL.unren {g g' : Ghost} {ρ : Nat → Nat} (hf : ∀ b o v, g.fz b o = some v → g'.fz b o = some v) (ho : ∀ i v s, g.ob (ρ i) v = some s → g'.ob i v = some s) {vs : List Value} {xs : List AVal} (h : RepL L g vs (renL ρ xs)) : RepL L g' vs xs := by
  induction vs generalizing xs with
  | nil => cases xs with
    | nil => exact .nil
    | cons x xs => simp only [renL] at h; cases h
  | cons v vs ih =>
    cases xs with
    | nil => simp only [renL] at h; cases h
    | cons x xs =>
      simp only [renL] at h
      cases h with | cons _ _ _ _ h hs => exact .cons _ _ _ _ (h.unren hf ho x rfl) (ih hs)

def putL : Heap → List Nat → List AObj → Heap
  | H, i :: is, o :: os => putL (H.set i o) is os
  | H, _, _ => H

theorem putL_length : ∀ (is : List Nat) (H : Heap) (os : List AObj), (putL H is os).length = H.length
  | [], H, os => by cases os <;> rfl
  | i :: is, H, [] => rfl
  | i :: is, H, o :: os => by rw [putL, putL_length is]; simp

theorem putL_ne : ∀ (is : List Nat) (H : Heap) (os : List AObj) (j : Nat), j ∉ is → (putL H is os)[j]? = H[j]?
  | [], H, os, j, _ => by cases os <;> rfl
  | i :: is, H, [], j, _ => rfl
  | i :: is, H, o :: os, j, h => by
    simp only [List.mem_cons, not_or] at h
    rw [putL, putL_ne is _ os j h.2, List.getElem?_set_ne (Ne.symm h.1)]

theorem putL_at : ∀ (is : List Nat) (H : Heap) (os : List AObj), is.Nodup → is.length = os.length → (∀ i ∈ is, i < H.length) → ∀ (k i : Nat), is[k]? = some i → (putL H is os)[i]? = os[k]?
  | [], H, os, _, _, _, k, i, h => by simp at h
  | i0 :: is, H, [], _, h, _, k, i, _ => by simp at h
  | i0 :: is, H, o :: os, hn, hl, hb, k, i, h => by
    rw [putL]
    have hn := List.nodup_cons.1 hn
    cases k with
    | zero =>
      simp at h
      subst h
      rw [putL_ne is _ os _ hn.1]
      simp [hb i0 (by simp)]
    | succ k =>
      rw [putL_at is _ os hn.2 (by simpa using hl) (fun j hj => by simpa using hb j (by simp [hj])) k i (by simpa using h)]
      simp

def nameOf (is : List Nat) (n : Nat) (i : Nat) : Nat := match is[i]? with
  | some j => j
  | none => n + (i - is.length)

theorem nameOf_old {is : List Nat} {n i j : Nat} (h : is[i]? = some j) : nameOf is n i = j := by simp [nameOf, h]
theorem nameOf_new {is : List Nat} {n i : Nat} (h : is.length ≤ i) : nameOf is n i = n + (i - is.length) := by simp [nameOf, List.getElem?_eq_none h]

def Spotted (g : Ghost) (H : Heap) (is : List Nat) (b : Nat) : Prop := ∃ i, i ∈ is ∧ ∃ o s, H[i]? = some o ∧ o.alive = true ∧ g.ob i o.ver = some s ∧ s.b = b

open Classical in
noncomputable def Ghost.small (g : Ghost) (w : World) (H : Heap) (is : List Nat) : Ghost :=
  { g with
    ob := fun i v => match is[i]? with
      | some j => g.ob j v
      | none => none
    kp := fun b => if Spotted g H is b then none else w.heap[b]?
    dk := fun _ => false }

theorem Ghost.small_at {g : Ghost} {w : World} {H : Heap} {is : List Nat} {i j : Nat} (h : is[i]? = some j) (v : Nat) : (g.small w H is).ob i v = g.ob j v := by simp [Ghost.small, h]
theorem Ghost.small_kp {g : Ghost} {w : World} {H : Heap} {is : List Nat} {b : Nat} (h : Spotted g H is b) : (g.small w H is).kp b = none := by simp [Ghost.small, h]
theorem Ghost.small_kpn {g : Ghost} {w : World} {H : Heap} {is : List Nat} {b : Nat} (h : ¬ Spotted g H is b) : (g.small w H is).kp b = w.heap[b]? := by simp [Ghost.small, h]

theorem ObjOK.unren {g g' : Ghost} {w : World} {ρ : Nat → Nat} {k : Nat} {o : AObj} (hf : g'.fz = g.fz) (ho : ∀ i v s, g.ob (ρ i) v = some s → g'.ob i v = some s) (hk : ∀ v, g'.ob k v = g.ob (ρ k) v)
    (hown : o.alive = true → ∀ s, g.ob (ρ k) o.ver = some s → g'.own s.b) (h : ObjOK L g w (ρ k) (renO ρ o)) : ObjOK L g' w k o := by
  have hf' : ∀ b o v, g.fz b o = some v → g'.fz b o = some v := fun b o v h => by rw [hf]; exact h
  cases o with
  | dead => exact fun v => (hk v).trans (h v)
  | gone => trivial
  | cells cs t =>
    obtain ⟨s, vs, h1, h2, h3, h4, h5, h6⟩ := h
    exact ⟨s, vs, (hk 0).trans h1, h2, h3, h4.unren hf' ho, fun o => by rw [hf]; exact h5 o, hown rfl s h1⟩
  | tail n t =>
    obtain ⟨s, vs, h1, h0, h2, h3, h4, h5, h6⟩ := h
    exact ⟨s, vs, (hk n).trans h1, h0, fun m hm => (hk m).trans (h2 m hm), h3, h4, fun o ho => by rw [hf]; exact h5 o ho, hown rfl s h1⟩
  | arr v xs t =>
    obtain ⟨s, vs, h1, h0, h2, h3, h4, h5, h6, h7, h8, h9, h10⟩ := h
    rw [renL_len] at h7 h8
    refine ⟨s, vs, (hk v).trans h1, h0, fun m hm => (hk m).trans (h2 m hm), h3, h4, h5, fun x hx => ?_, h7, ?_, fun o => by rw [hf]; exact h9 o, hown rfl s h1⟩
    · rw [← renL_cells_len ρ]; exact h6 _ (by rw [renL_map]; exact List.mem_map.2 ⟨x, hx, rfl⟩)
    · rw [renL_flat] at h8; exact h8.unren hf' ho
  | map es c =>
    obtain ⟨s, ents, h1, h2, h3, h4, h5, h6, h7, h8⟩ := h
    refine ⟨s, ents, (hk 0).trans h1, h2, ?_, ?_, ?_, hown rfl s h1, ?_, ?_⟩
    · refine RepL.unren hf' ho (ρ := ρ) ?_
      rw [renL_map, List.map_map]
      rw [List.map_map] at h3; exact h3
    · refine RepL.unren hf' ho (ρ := ρ) ?_
      rw [renL_map, List.map_map]
      rw [List.map_map] at h4; exact h4
    · rw [List.map_map] at h5; exact h5
    · exact fun e he => h7 (ren ρ e.1, ren ρ e.2.1, e.2.2) (List.mem_map.2 ⟨e, he, rfl⟩)
    · rw [List.map_map] at h8; exact h8
  | miter m since seen last =>
    obtain ⟨s, h1, h2, h3⟩ := h
    refine ⟨s, (hk 0).trans h1, hown rfl s h1, ?_⟩
    cases m with
    | none => exact h3
    | some mid => obtain ⟨sm, h3, h4⟩ := h3; exact ⟨sm, ho _ _ _ h3, h4⟩
  | loop r st =>
    obtain ⟨s, h1, h2, h3, h4⟩ := h
    exact ⟨s, (hk 0).trans h1, h2, fun i => (h3 i).unren hf' ho (r.e i) rfl, hown rfl s h1⟩

theorem ObjOK.ren {g g' : Ghost} {w : World} {ρ : Nat → Nat} {k : Nat} {o : AObj} (hf : g'.fz = g.fz) (ho : ∀ i v s, g.ob i v = some s → g'.ob (ρ i) v = some s) (hk : ∀ v, g'.ob (ρ k) v = g.ob k v)
    (hown : ∀ b, g.own b → g'.own b) (h : ObjOK L g w k o) : ObjOK L g' w (ρ k) (renO ρ o) := by
  have hf' : ∀ b o v, g.fz b o = some v → g'.fz b o = some v := fun b o v h => by rw [hf]; exact h
  cases o with
  | dead => exact fun v => (hk v).trans (h v)
  | gone => trivial
  | cells cs t =>
    obtain ⟨s, vs, h1, h2, h3, h4, h5, h6⟩ := h
    exact ⟨s, vs, (hk 0).trans h1, h2, h3, h4.ren hf' ho, fun o => by rw [hf]; exact h5 o, hown _ h6⟩
  | tail n t =>
    obtain ⟨s, vs, h1, h0, h2, h3, h4, h5, h6⟩ := h
    exact ⟨s, vs, (hk n).trans h1, h0, fun m hm => (hk m).trans (h2 m hm), h3, h4, fun o ho => by rw [hf]; exact h5 o ho, hown _ h6⟩
  | arr v xs t =>
    obtain ⟨s, vs, h1, h0, h2, h3, h4, h5, h6, h7, h8, h9, h10⟩ := h
    refine ⟨s, vs, (hk v).trans h1, h0, fun m hm => (hk m).trans (h2 m hm), h3, h4, h5, fun x hx => ?_, by rw [renL_len]; exact h7, ?_, fun o => by rw [hf]; exact h9 o, hown _ h10⟩
    · rw [renL_map] at hx
      obtain ⟨y, hy, rfl⟩ := List.mem_map.1 hx
      rw [renL_cells_len]; exact h6 y hy
    · rw [renL_flat, renL_len]; exact h8.ren hf' ho
  | map es c =>
    obtain ⟨s, ents, h1, h2, h3, h4, h5, h6, h7, h8⟩ := h
    refine ⟨s, ents, (hk 0).trans h1, h2, ?_, ?_, ?_, hown _ h6, ?_, ?_⟩
    · have := RepL.ren hf' ho h3
      rw [renL_map, List.map_map] at this
      rw [List.map_map]; exact this
    · have := RepL.ren hf' ho h4
      rw [renL_map, List.map_map] at this
      rw [List.map_map]; exact this
    · rw [List.map_map]; exact h5
    · intro e he
      obtain ⟨e', he', rfl⟩ := List.mem_map.1 he
      exact h7 e' he'
    · rw [List.map_map]; exact h8
  | miter m since seen last =>
    obtain ⟨s, h1, h2, h3⟩ := h
    refine ⟨s, (hk 0).trans h1, hown _ h2, ?_⟩
    cases m with
    | none => exact h3
    | some mid => obtain ⟨sm, h3, h4⟩ := h3; exact ⟨sm, ho _ _ _ h3, h4⟩
  | loop r st =>
    obtain ⟨s, h1, h2, h3, h4⟩ := h
    exact ⟨s, (hk 0).trans h1, h2, fun i => (h3 i).ren hf' ho, hown _ h4⟩

def Part (H : Heap) (is : List Nat) (H0 : Heap) : Prop := is.Nodup ∧ is.length = H0.length ∧ ∀ (k i : Nat) (o : AObj), is[k]? = some i → H0[k]? = some o → H[i]? = some (renO (nameOf is H.length) o)

theorem at_some {α : Type} {l : List α} {k : Nat} (h : k < l.length) : ∃ x, l[k]? = some x := ⟨l[k], List.getElem?_eq_getElem h⟩

theorem Part.lt {H : Heap} {is : List Nat} {H0 : Heap} (h : Part H is H0) {k i : Nat} (hi : is[k]? = some i) : i < H.length := by
  obtain ⟨o, ho⟩ := at_some (l := H0) (k := k) (by
    rw [← h.2.1]
    rcases Nat.lt_or_ge k is.length with h' | h'
    · exact h'
    · rw [List.getElem?_eq_none h'] at hi; cases hi)
  have := h.2.2 k i o hi ho
  rcases Nat.lt_or_ge i H.length with h' | h'
  · exact h'
  · rw [List.getElem?_eq_none h'] at this; cases this

theorem nodup_at {l : List Nat} (h : l.Nodup) {i j x : Nat} (hi : l[i]? = some x) (hj : l[j]? = some x) : i = j := by
  have h1 : i < l.length := by
    rcases Nat.lt_or_ge i l.length with h' | h'
    · exact h'
    · rw [List.getElem?_eq_none h'] at hi; cases hi
  exact (List.getElem?_inj h1 h).1 (hi.trans hj.symm)

theorem small_ob {g : Ghost} {w : World} {H H0 : Heap} {is : List Nat} (h : St L g w H) (hp : Part H is H0) : ∀ i v s, g.ob (nameOf is H.length i) v = some s → (g.small w H is).ob i v = some s := fun i v s hs => by
  cases hi : is[i]? with
  | some j => rw [nameOf_old hi] at hs; rw [Ghost.small_at hi]; exact hs
  | none =>
    have : is.length ≤ i := by
      rcases Nat.lt_or_ge i is.length with h' | h'
      · obtain ⟨x, hx⟩ := at_some h'; rw [hi] at hx; cases hx
      · exact h'
    rw [nameOf_new this, h.new _ _ (by omega)] at hs
    cases hs

theorem St.small {g : Ghost} {w : World} {H H0 : Heap} {is : List Nat} (h : St L g w H) (hp : Part H is H0) : St L (g.small w H is) w H0 := by
  have hidx : ∀ (k : Nat) (o : AObj), H0[k]? = some o → ∃ i, is[k]? = some i := fun k o ho => at_some (by
    rw [hp.2.1]
    rcases Nat.lt_or_ge k H0.length with h' | h'
    · exact h'
    · rw [List.getElem?_eq_none h'] at ho; cases ho)
  have hown : ∀ (k i : Nat) (o : AObj), is[k]? = some i → H0[k]? = some o → o.alive = true → ∀ s, g.ob i o.ver = some s → (g.small w H is).own s.b := fun k i o hi ho ha s hs => by
    have hH := hp.2.2 k i o hi ho
    obtain ⟨s', e1, e2⟩ := (h.obj i _ hH).place (by rw [renO_alive]; exact ha)
    rw [renO_ver, hs] at e1
    cases e1
    exact ⟨e2.1, Ghost.small_kp ⟨i, List.mem_of_getElem? hi, _, s, hH, by rw [renO_alive]; exact ha, by rw [renO_ver]; exact hs, rfl⟩⟩
  refine ⟨h.fz, fun k o ho => ?_, fun k v hk => ?_, fun k v s hs => ?_, fun k k' o o' s s' hk hk' ha ha' e1 e2 hb => ?_, h.below, h.bs, h.fact, fun b o hb => ?_, fun b hb => (by cases hb)⟩
  · obtain ⟨i, hi⟩ := hidx k o ho
    have hn := nameOf_old (n := H.length) hi
    refine ObjOK.unren (g := g) (ρ := nameOf is H.length) rfl (small_ob h hp) (fun v => by rw [hn, Ghost.small_at hi]) (fun ha s hs => ?_) ?_
    · rw [hn] at hs
      exact hown k i o hi ho ha s hs
    · rw [hn]; exact h.obj i _ (hp.2.2 k i o hi ho)
  · simp only [Ghost.small]
    rw [List.getElem?_eq_none (by rw [hp.2.1]; exact hk)]
  · simp only [Ghost.small] at hs
    split at hs
    · exact h.bnd _ _ _ hs
    · cases hs
  · obtain ⟨i, hi⟩ := hidx k o hk
    obtain ⟨i', hi'⟩ := hidx k' o' hk'
    rw [Ghost.small_at hi] at e1
    rw [Ghost.small_at hi'] at e2
    have := h.inj i i' _ _ s s' (hp.2.2 k i o hi hk) (hp.2.2 k' i' o' hi' hk') (by rw [renO_alive]; exact ha) (by rw [renO_alive]; exact ha') (by rw [renO_ver]; exact e1) (by rw [renO_ver]; exact e2) hb
    subst this
    exact nodup_at hp.1 hi hi'
  · by_cases hsp : Spotted g H is b
    · rw [Ghost.small_kp hsp] at hb; cases hb
    · rw [Ghost.small_kpn hsp] at hb; exact hb

def Ghost.big (g g1 : Ghost) (n : Nat) (is : List Nat) : Ghost :=
  { g with
    fz := g1.fz
    ob := fun j v => match is.findIdx? (· == j) with
      | some k => g1.ob k v
      | none => if n ≤ j then g1.ob (is.length + (j - n)) v else g.ob j v }

theorem find_at {is : List Nat} (hn : is.Nodup) {k i : Nat} (h : is[k]? = some i) : is.findIdx? (· == i) = some k := by
  rw [List.findIdx?_eq_some_iff_getElem]
  have hk : k < is.length := by
    rcases Nat.lt_or_ge k is.length with h' | h'
    · exact h'
    · rw [List.getElem?_eq_none h'] at h; cases h
  refine ⟨hk, ?_, fun j hj => ?_⟩
  · rw [List.getElem?_eq_getElem hk] at h; simp [Option.some.inj h]
  · simp only [beq_iff_eq]
    intro e
    have hj' : is[j]? = some i := by rw [List.getElem?_eq_getElem (by omega)]; rw [e]
    have := nodup_at hn hj' h
    omega
theorem find_none {is : List Nat} {i : Nat} (h : i ∉ is) : is.findIdx? (· == i) = none := by
  rw [List.findIdx?_eq_none_iff]
  intro x hx
  simp only [beq_eq_false_iff_ne]
  rintro rfl
  exact h hx

theorem frame_len {g g1 : Ghost} {w w' : World} {H H0 H1 : Heap} {is : List Nat} (h : St L g w H) (hp : Part H is H0) (ha : ∀ o ∈ H0, o.alive = true) (hle : (g.small w H is).le g1) (h1 : St L g1 w' H1) : is.length ≤ H1.length := by
  rcases Nat.lt_or_ge H1.length is.length with h' | h'
  · obtain ⟨i, hi⟩ := at_some (l := is) h'
    obtain ⟨o, ho⟩ := at_some (l := H0) (k := H1.length) (by rw [← hp.2.1]; exact h')
    have hH := hp.2.2 _ i o hi ho
    obtain ⟨s, e1, _⟩ := (h.obj i _ hH).place (by rw [renO_alive]; exact ha o (List.mem_of_getElem? ho))
    have e2 := hle.ob H1.length _ s (by rw [Ghost.small_at hi]; exact e1)
    rw [h1.new _ _ (Nat.le_refl _)] at e2
    cases e2
  · exact h'

theorem frame_st {g g1 : Ghost} {w w' : World} {H H0 H1 : Heap} {is : List Nat} (h : St L g w H) (hp : Part H is H0) (hle : (g.small w H is).le g1) (h1 : St L g1 w' H1) (hlen : is.length ≤ H1.length) :
    g.le (g.big g1 H.length is) ∧ St L (g.big g1 H.length is) w' (putL H is ((H1.take is.length).map (renO (nameOf is H.length))) ++ (H1.drop is.length).map (renO (nameOf is H.length))) ∧
      ∀ i v s, g1.ob i v = some s → (g.big g1 H.length is).ob (nameOf is H.length i) v = some s := by
  have hisl : ∀ i ∈ is, i < H.length := fun i hi => by
    obtain ⟨k, hk⟩ := List.mem_iff_getElem?.1 hi
    exact hp.lt hk
  have hob : ∀ i v, (g.big g1 H.length is).ob (nameOf is H.length i) v = g1.ob i v := fun i v => by
    cases hi : is[i]? with
    | some j => rw [nameOf_old hi]; simp only [Ghost.big, find_at hp.1 hi]
    | none =>
      have hge : is.length ≤ i := by
        rcases Nat.lt_or_ge i is.length with h' | h'
        · obtain ⟨x, hx⟩ := at_some h'; rw [hi] at hx; cases hx
        · exact h'
      rw [nameOf_new hge]
      simp only [Ghost.big]
      rw [find_none (fun hm => by have := hisl _ hm; omega)]
      simp only
      rw [if_pos (by omega), show is.length + (H.length + (i - is.length) - H.length) = i from by omega]
  have hold : ∀ j v, j ∉ is → j < H.length → (g.big g1 H.length is).ob j v = g.ob j v := fun j v hj hlt => by
    simp only [Ghost.big, find_none hj]
    rw [if_neg (by omega)]
  have hkpn : ∀ b, g.kp b ≠ none → (g.small w H is).kp b = w.heap[b]? ∧ ¬ Spotted g H is b := fun b hb => by
    have : ¬ Spotted g H is b := fun ⟨i, hi, o, s, e1, e2, e3, e4⟩ => by
      obtain ⟨s', k1, k2⟩ := (h.obj i o e1).place e2
      rw [e3] at k1
      cases k1
      subst e4
      exact hb k2.2
    exact ⟨Ghost.small_kpn this, this⟩
  have hkps : ∀ b, ¬ Spotted g H is b → b < w.heap.size → w'.heap[b]? = w.heap[b]? ∧ (g.small w H is).kp b ≠ none := fun b hb hlt => by
    have e0 : w.heap[b]? = some w.heap[b] := Array.getElem?_eq_getElem hlt
    have e1 := Ghost.small_kpn (w := w) hb
    refine ⟨?_, by rw [e1, e0]; simp⟩
    rw [e0]
    exact h1.kp b _ (by rw [hle.kp, e1, e0])
  have hsize : w.heap.size ≤ w'.heap.size := by
    rcases Nat.lt_or_ge w'.heap.size w.heap.size with h' | h'
    · have hlt : w.heap.size - 1 < w.heap.size := by omega
      by_cases hs : Spotted g H is (w.heap.size - 1)
      · obtain ⟨i, hi, o, s, e1, e2, e3, e4⟩ := hs
        obtain ⟨k, hk⟩ := List.mem_iff_getElem?.1 hi
        have := h1.bnd k _ s (hle.ob k _ s (by rw [Ghost.small_at hk]; exact e3))
        omega
      · have := (hkps _ hs hlt).1
        rw [Array.getElem?_eq_none (by omega), Array.getElem?_eq_getElem hlt] at this
        cases this
    · exact h'
  have hfzk : ∀ b o, (g.small w H is).kp b ≠ none → g1.fz b o = g.fz b o := fun b o hb => hle.fzk b o hb
  have hle2 : g.le (g.big g1 H.length is) := by
    refine ⟨rfl, rfl, fun b o v hv => hle.fz b o v hv, fun j v s hs => ?_, rfl, fun b o hb => ?_, fun _ h => h⟩
    · by_cases hj : j ∈ is
      · obtain ⟨k, hk⟩ := List.mem_iff_getElem?.1 hj
        have := hob k v
        rw [nameOf_old hk] at this
        rw [this]
        exact hle.ob k v s (by rw [Ghost.small_at hk]; exact hs)
      · rcases Nat.lt_or_ge j H.length with hlt | hge
        · rw [hold j v hj hlt]; exact hs
        · rw [h.new j v hge] at hs; cases hs
    · refine hfzk b o ?_
      obtain ⟨e1, _⟩ := hkpn b hb
      rw [e1]
      cases hk : g.kp b with
      | none => exact absurd hk hb
      | some ob => rw [h.kp b ob hk]; simp
  have hob2 : ∀ i v s, g1.ob i v = some s → (g.big g1 H.length is).ob (nameOf is H.length i) v = some s := fun i v s hs => by rw [hob]; exact hs
  have hown2 : ∀ b, g1.own b → (g.big g1 H.length is).own b := fun b ⟨e1, e2⟩ => by
    refine ⟨by have := hle.base; simp only [Ghost.small] at this; show g.base ≤ b; rw [← this]; exact e1, ?_⟩
    show g.kp b = none
    cases hk : g.kp b with
    | none => rfl
    | some ob =>
      obtain ⟨e3, _⟩ := hkpn b (by rw [hk]; simp)
      rw [hle.kp, e3, h.kp b ob hk] at e2
      cases e2
  -- what stands in the great heap
  have hput : (putL H is ((H1.take is.length).map (renO (nameOf is H.length)))).length = H.length := putL_length _ _ _
  have cls : ∀ (j : Nat) (o : AObj), (putL H is ((H1.take is.length).map (renO (nameOf is H.length))) ++ (H1.drop is.length).map (renO (nameOf is H.length)))[j]? = some o →
      (∃ k o1, j = nameOf is H.length k ∧ H1[k]? = some o1 ∧ o = renO (nameOf is H.length) o1) ∨ (j ∉ is ∧ j < H.length ∧ H[j]? = some o) := fun j o hj => by
    rcases Nat.lt_or_ge j H.length with hlt | hge
    · rw [List.getElem?_append_left (by rw [hput]; exact hlt)] at hj
      by_cases hm : j ∈ is
      · obtain ⟨k, hk⟩ := List.mem_iff_getElem?.1 hm
        have hkl : k < is.length := by
          rcases Nat.lt_or_ge k is.length with h' | h'
          · exact h'
          · rw [List.getElem?_eq_none h'] at hk; cases hk
        rw [putL_at is H _ hp.1 (by simp; omega) hisl k j hk, List.getElem?_map, List.getElem?_take, if_pos hkl] at hj
        cases hk1 : H1[k]? with
        | none => rw [hk1] at hj; cases hj
        | some o1 => rw [hk1] at hj; exact .inl ⟨k, o1, (nameOf_old hk).symm, hk1, (Option.some.inj hj).symm⟩
      · rw [putL_ne is H _ j hm] at hj
        exact .inr ⟨hm, hlt, hj⟩
    · rw [List.getElem?_append_right (by rw [hput]; exact hge), hput, List.getElem?_map, List.getElem?_drop] at hj
      cases hk1 : H1[is.length + (j - H.length)]? with
      | none => rw [hk1] at hj; cases hj
      | some o1 =>
        rw [hk1] at hj
        exact .inl ⟨is.length + (j - H.length), o1, by rw [nameOf_new (by omega)]; omega, hk1, (Option.some.inj hj).symm⟩
  have rest : ∀ (j : Nat) (o : AObj) s, j ∉ is → H[j]? = some o → o.alive = true → g.ob j o.ver = some s → ¬ Spotted g H is s.b ∧ s.b < w.heap.size := fun j o s hj ho ha hs =>
    ⟨fun ⟨i, hi, o', s', e1, e2, e3, e4⟩ => by
      have := h.inj i j o' o s' s e1 ho e2 ha e3 hs e4
      subst this
      exact hj hi, h.bnd _ _ _ hs⟩
  refine ⟨hle2, ⟨h1.fz, fun j o hj => ?_, fun j v hj => ?_, fun j v s hs => ?_, fun i j o o' s s' hi hj ha ha' e1 e2 hb => ?_, ?_, h.bs, h.fact, fun b o hb => ?_, fun b hb => ?_⟩, hob2⟩
  · rcases cls j o hj with ⟨k, o1, rfl, hk, rfl⟩ | ⟨hm, hlt, hH⟩
    · exact ObjOK.ren (g := g1) rfl hob2 (fun v => hob k v) hown2 (h1.obj k o1 hk)
    · refine (h.obj j o hH).keep hle2 (fun v => hold j v hm hlt) fun ha s hs => ?_
      obtain ⟨e1, e2⟩ := rest j o s hm hH ha hs
      obtain ⟨e3, e4⟩ := hkps _ e1 e2
      exact ⟨e3, fun x => hfzk _ x e4⟩
  · simp only [List.length_append, hput, List.length_map, List.length_drop] at hj
    have hm : j ∉ is := fun hm => by have := hisl j hm; omega
    simp only [Ghost.big, find_none hm]
    rw [if_pos (by omega)]
    exact h1.new _ _ (by omega)
  · by_cases hm : j ∈ is
    · obtain ⟨k, hk⟩ := List.mem_iff_getElem?.1 hm
      have := hob k v
      rw [nameOf_old hk] at this
      rw [this] at hs
      exact h1.bnd _ _ _ hs
    · rcases Nat.lt_or_ge j H.length with hlt | hge
      · rw [hold j v hm hlt] at hs
        exact Nat.lt_of_lt_of_le (h.bnd _ _ _ hs) hsize
      · simp only [Ghost.big, find_none hm] at hs
        rw [if_pos hge] at hs
        exact h1.bnd _ _ _ hs
  · rcases cls i o hi with ⟨k, o1, rfl, hk, rfl⟩ | ⟨hm, hlt, hH⟩ <;> rcases cls j o' hj with ⟨k', o1', rfl, hk', rfl⟩ | ⟨hm', hlt', hH'⟩
    · rw [hob, renO_ver] at e1 e2
      rw [renO_alive] at ha ha'
      rw [h1.inj k k' o1 o1' s s' hk hk' ha ha' e1 e2 hb]
    · rw [hob, renO_ver] at e1
      rw [renO_alive] at ha
      rw [hold _ _ hm' hlt'] at e2
      obtain ⟨s1, k1, k2⟩ := (h1.obj k o1 hk).place ha
      rw [e1] at k1
      cases k1
      obtain ⟨f1, f2⟩ := rest j o' s' hm' hH' ha' e2
      obtain ⟨_, f4⟩ := hkps _ f1 f2
      rw [← hb, ← hle.kp] at f4
      exact absurd k2.2 f4
    · rw [hob, renO_ver] at e2
      rw [renO_alive] at ha'
      rw [hold _ _ hm hlt] at e1
      obtain ⟨s1, k1, k2⟩ := (h1.obj k' o1' hk').place ha'
      rw [e2] at k1
      cases k1
      obtain ⟨f1, f2⟩ := rest i o s hm hH ha e1
      obtain ⟨_, f4⟩ := hkps _ f1 f2
      rw [hb, ← hle.kp] at f4
      exact absurd k2.2 f4
    · rw [hold _ _ hm hlt] at e1
      rw [hold _ _ hm' hlt'] at e2
      exact h.inj i j o o' s s' hH hH' ha ha' e1 e2 hb
  · have hb := h1.below
    have e1 := hle.base
    have e2 := hle.w0
    simp only [Ghost.small] at e1 e2
    rw [e1, e2] at hb
    exact hb
  · obtain ⟨e1, _⟩ := hkpn b (by show g.kp b ≠ none; rw [show g.kp b = some o from hb]; simp)
    exact h1.kp b o (by rw [hle.kp, e1]; exact h.kp b o hb)
  · have hb : g.dk b = true := hb
    have hd := h.dk b hb
    have hns : ¬ Spotted g H is b := fun ⟨i, hi, o', s', e1, e2, e3, e4⟩ => (h.obj i o' e1).notMark e2 e3 (by rw [e4]; exact hd)
    rw [(hkps b hns (h.dk_lt hb)).1]
    exact hd

theorem ACalls.frameL {f : Nat} {args : List AVal} {H0 : Heap} {Q : ARet → Heap → Prop} (h : ACalls L f args H0 Q) {H : Heap} (is : List Nat) (hp : Part H is H0) (hq : (∀ o ∈ H0, o.alive = true) ∨ ∀ r H1, Q r H1 → H0.length ≤ H1.length) :
    ACalls L f (args.map (ren (nameOf is H.length))) H fun r H' => ∃ r1 H1, Q r1 H1 ∧ is.length ≤ H1.length ∧ r = renR (nameOf is H.length) r1 ∧
      H' = putL H is ((H1.take is.length).map (renO (nameOf is H.length))) ++ (H1.drop is.length).map (renO (nameOf is H.length)) := fun g w vs hs hr => by
  have hr' : RepL L (g.small w H is) vs args := RepL.unren (g := g) (g' := g.small w H is) (ρ := nameOf is H.length) (fun _ _ _ h => h) (small_ob hs hp) (by rw [renL_map]; exact hr)
  refine (h _ w vs (hs.small hp) hr').mono fun e w' ⟨r1, H1, g1, hQ, hle, hst, hrep⟩ => ?_
  have k1 : is.length ≤ H1.length := hq.elim (fun ha => frame_len hs hp ha hle hst) fun hq => by rw [hp.2.1]; exact hq _ _ hQ
  obtain ⟨k2, k3, k4⟩ := frame_st hs hp hle hst k1
  refine ⟨_, _, g.big g1 H.length is, ⟨r1, H1, hQ, k1, rfl, rfl⟩, k2, k3, ?_⟩
  cases r1 with
  | ret x => obtain ⟨v, rfl, hv⟩ := hrep; exact ⟨v, rfl, Rep.ren (g := g1) (g' := g.big g1 H.length is) (fun _ _ _ h => h) k4 hv⟩
  | pan x => obtain ⟨v, rfl, hv⟩ := hrep; exact ⟨v, rfl, Rep.ren (g := g1) (g' := g.big g1 H.length is) (fun _ _ _ h => h) k4 hv⟩

theorem ACalls.frame {f : Nat} {args : List AVal} {H0 : Heap} {Q : ARet → Heap → Prop} (h : ACalls L f args H0 Q) {H : Heap} (is : List Nat) (hp : Part H is H0) (ha : ∀ o ∈ H0, o.alive = true) :
    ACalls L f (args.map (ren (nameOf is H.length))) H fun r H' => ∃ r1 H1, Q r1 H1 ∧ is.length ≤ H1.length ∧ r = renR (nameOf is H.length) r1 ∧
      H' = putL H is ((H1.take is.length).map (renO (nameOf is H.length))) ++ (H1.drop is.length).map (renO (nameOf is H.length)) := h.frameL is hp (.inl ha)

theorem ACalls.dead {f : Nat} {args : List AVal} {H : Heap} {Q : ARet → Heap → Prop} (h : ACalls L f args (H ++ [.dead]) Q) : ACalls L f args H Q := fun g w vs hs hr => h g w vs hs.pushDead hr
theorem ACalls.deads {f : Nat} {args : List AVal} {H : Heap} {Q : ARet → Heap → Prop} (k : Nat) (h : ACalls L f args (H ++ List.replicate k .dead) Q) : ACalls L f args H Q := by
  induction k generalizing H with
  | zero => simpa using h
  | succ k ih => exact ACalls.dead (ih (by rw [List.append_assoc]; exact h))

end Go.Ag
/- Contracts told at a small heap, for use. -/
set_option linter.unusedVariables false
namespace Go.Ag
open Go

variable {L : Lnk}

def Pure (L : Lnk) (f : Nat) (args : List AVal) (y : AVal) : Prop := ∀ H, ACalls L f args H fun r H' => r = .ret y ∧ H' = H

theorem map_low {ρ : Nat → Nat} {args : List AVal} (h : ∀ x ∈ args, Low 0 x) : args.map (ren ρ) = args :=
  (List.map_congr_left (g := id) fun x hx => ren_low (n := 0) (fun i hi => absurd hi (Nat.not_lt_zero i)) (h x hx)).trans (List.map_id args)
theorem ren_low0 {ρ : Nat → Nat} {x : AVal} (h : Low 0 x) : ren ρ x = x := ren_low (n := 0) (fun i hi => absurd hi (Nat.not_lt_zero i)) h

theorem Pure.run {f : Nat} {args : List AVal} {y : AVal} (ha : ∀ x ∈ args, Low 0 x) (hy : Low 0 y) (h : ACalls L f args [] fun r _ => ∃ x, r = .ret x ∧ Weak L x y) : Pure L f args y := fun H => by
  have h1 : ACalls L f args [] fun r H' => r = .ret y ∧ H' = [] := ACalls.pure (h.mono fun r H' ⟨x, e1, e2⟩ => ⟨H', x, by simp, e1, e2⟩) hy
  have hp : Part H [] [] := ⟨List.nodup_nil, rfl, fun k i o hk => by cases hk⟩
  have h2 := h1.frame (H := H) [] hp (fun o ho => by cases ho)
  rw [map_low ha] at h2
  refine h2.mono fun r H' ⟨r1, H1, ⟨e1, e2⟩, _, e3, e4⟩ => ?_
  subst e1 e2
  refine ⟨by rw [e3]; simp only [renR]; rw [ren_low0 hy], by rw [e4]; simp [putL]⟩

theorem Pure.to {f : Nat} {args : List AVal} {y : AVal} (h : Pure L f args y) {H : Heap} {K KP : AVal → Heap → Prop} (hk : K y H) : ACalls L f args H (contR K KP) :=
  (h H).mono fun r H' ⟨e1, e2⟩ => by subst e1 e2; exact hk
theorem Pure.soft {f : Nat} {args : List AVal} {y : AVal} (h : Pure L f args y) {H0 : Heap} {K : AVal → Prop} (hk : K y) :
    ∃ v, (∀ H', agree H0.length H0 H' → ACalls L f args H' fun r H'' => r = .ret v ∧ H'' = H') ∧ K v := ⟨y, fun H' _ => h H', hk⟩
theorem ret_weak {x y : AVal} (h : Weak L x y) : ∃ z, ARet.ret x = .ret z ∧ Weak L z y := ⟨x, rfl, h⟩

theorem ACalls.gcW {f : Nat} {args : List AVal} {H0 : Heap} {Q : AVal → Heap → Prop}
    (h : ACalls L f args H0 fun r H1 => ∃ x y K K' J, H1 = K ++ J ∧ r = .ret x ∧ Weak L x y ∧ Low H0.length y ∧ K'.length = H0.length ∧ K.length = K'.length ∧
      (∀ (i : Nat) (o o' : AObj), K[i]? = some o → K'[i]? = some o' → WeakO L o o') ∧ (∀ o ∈ K', LowO H0.length o) ∧ Q y K') :
    ACalls L f args H0 fun r H1 => ∃ y, r = .ret y ∧ H1.length = H0.length ∧ Q y H1 := fun g w vs hs hr =>
  (h g w vs hs hr).mono fun e w' ⟨r, H1, g', ⟨x, y, K, K', J, e1, e2, e3, e4, e5, e6, e7, e8, e9⟩, hle, hst, hrep⟩ => by
    subst e1 e2
    obtain ⟨v, rfl, hrep⟩ := hrep
    have h2 : St L g' w' (K' ++ J) := hst.weak (by simp [e6]) fun i o o' ho ho' => by
      rcases Nat.lt_or_ge i K.length with hi | hi
      · rw [List.getElem?_append_left hi] at ho
        rw [List.getElem?_append_left (by omega)] at ho'
        exact e7 i o o' ho ho'
      · rw [List.getElem?_append_right hi] at ho
        rw [List.getElem?_append_right (by omega), ← e6, ho] at ho'
        cases ho'
        exact WeakO.refl o
    refine ⟨.ret y, K', g'.cut H0.length, ⟨y, rfl, e5, e9⟩, Ghost.le_cut hle fun i v hi => hs.new i v hi, ?_, v, rfl, (e3 _ _ hrep).cut e4⟩
    rw [← e5]
    exact h2.cut (by rw [e5]; exact e8)

theorem putL_self : ∀ (is : List Nat) (os : List AObj) (H : Heap), (∀ (k i : Nat) (o : AObj), is[k]? = some i → os[k]? = some o → H[i]? = some o) → putL H is os = H
  | [], os, H, _ => by cases os <;> rfl
  | i :: is, [], H, _ => rfl
  | i :: is, o :: os, H, h => by
    have h0 : H[i]? = some o := h 0 i o rfl rfl
    have e : H.set i o = H := by
      apply List.ext_getElem?
      intro j
      by_cases hj : i = j
      · subst hj
        have hlt : i < H.length := by
          rcases Nat.lt_or_ge i H.length with h' | h'
          · exact h'
          · rw [List.getElem?_eq_none h'] at h0; cases h0
        rw [h0]; simp [hlt]
      · rw [List.getElem?_set_ne hj]
    simp only [putL, e]
    exact putL_self is os H fun k j p hj hp => h (k + 1) j p (by simpa using hj) (by simpa using hp)

theorem ACalls.frameK {f : Nat} {args : List AVal} {H0 : Heap} {y : AVal} (h : ACalls L f args H0 fun r H' => r = .ret y ∧ H' = H0) (ha : ∀ o ∈ H0, o.alive = true) {H : Heap} (is : List Nat) (hp : Part H is H0) {args' : List AVal} (hargs : args.map (ren (nameOf is H.length)) = args') {y' : AVal} (hy : ren (nameOf is H.length) y = y') :
    ACalls L f args' H fun r H' => r = .ret y' ∧ H' = H := by
  have h2 := h.frame (H := H) is hp ha
  rw [hargs] at h2
  refine h2.mono fun r H' ⟨r1, H1, ⟨e1, e2⟩, _, e4, e5⟩ => ?_
  subst e1 e2
  refine ⟨by rw [e4]; simp only [renR]; rw [hy], ?_⟩
  rw [e5, hp.2.1, List.take_of_length_le (Nat.le_refl _), List.drop_of_length_le (Nat.le_refl _)]
  simp only [List.map_nil, List.append_nil]
  refine putL_self _ _ _ fun k i o hk ho => ?_
  rw [List.getElem?_map] at ho
  cases h0 : H1[k]? with
  | none => rw [h0] at ho; cases ho
  | some o0 => rw [h0] at ho; cases ho; exact hp.2.2 k i o0 hk h0

def Ghost.start (w : World) : Ghost := { w0 := w, base := w.heap.size, fz := fun b o => w.cell? ⟨b, o, none⟩, ob := fun _ _ => none, kp := fun _ => none, dk := fun _ => false }

theorem St.start {w : World} (h : L.start w w.heap.size) : St L (Ghost.start w) w [] where
  fz := fun b o v hv => hv
  obj := fun id o ho => by cases ho
  new := fun id v _ => rfl
  bnd := fun id v s hs => by cases hs
  inj := fun i j o o' s s' hi => by cases hi
  below := RowKit.Below.refl _ _
  bs := Nat.le_refl _
  fact := h
  kp := fun b o hb => by cases hb
  dk := fun b hb => by cases hb

theorem Pure.calls {f : Nat} {args : List AVal} {y : AVal} (h : Pure L f args y) {vs : List Value} {w : World} (hst : L.start w w.heap.size) (hr : RepL L (Ghost.start w) vs args) :
    Calls L.P (L.num f) vs.toArray w fun e w' => ∃ v g, e = .returned v ∧ Rep L g v y ∧ RowKit.Below w.heap.size w w' := by
  refine (h [] _ w vs (St.start hst) hr).mono fun e w' ⟨r, H', g', ⟨e1, e2⟩, hle, hst', hrep⟩ => ?_
  subst e1
  obtain ⟨v, rfl, hv⟩ := hrep
  have hb := hst'.below
  rw [hle.w0, hle.base] at hb
  exact ⟨v, g', rfl, hv, hb⟩

end Go.Ag
/- The same condition once more: what can be decided of values is decided on the way. -/
set_option linter.unusedVariables false
namespace Go.Ag
open Go

variable {L : Lnk}

def allOne : List AVal → Bool
  | [] => true
  | x :: xs => match oneA x with
    | true => allOne xs
    | false => false
def countIs : List AVal → Nat → Bool
  | [], 0 => true
  | _ :: xs, n + 1 => countIs xs n
  | _, _ => false
def okB (k : Nat) (x : AVal) : Bool := match countIs x.cells k with
  | true => allOne x.cells
  | false => false
def okVsB (k : Nat) : List AVal → Bool
  | [] => true
  | v :: vs => match okB k v with
    | true => okVsB k vs
    | false => false
def okAllB : List (Nat × Nat) → List AVal → Nat → Bool
  | [], _, _ => true
  | (o, k) :: ps, v :: vs, n => match okB k v with
    | true => match Nat.ble (o + k) n with
      | true => okAllB ps vs n
      | false => false
    | false => false
  | _, _, _ => false
theorem allOne_ok : ∀ {xs : List AVal}, allOne xs = true → xs.all oneA = true
  | [], _ => rfl
  | x :: xs, h => by
    simp only [allOne] at h
    cases hx : oneA x <;> simp only [hx] at h
    · cases h
    · simp [hx, allOne_ok h]
theorem countIs_ok : ∀ {xs : List AVal} {n : Nat}, countIs xs n = true → xs.length = n
  | [], 0, _ => rfl
  | _ :: xs, n + 1, h => by simp [countIs_ok (xs := xs) h]
  | [], _ + 1, h => by cases h
  | _ :: _, 0, h => by cases h
theorem okB_ok {k : Nat} {x : AVal} (h : okB k x = true) : okCells k x := by
  unfold okB at h
  cases hc : countIs x.cells k <;> simp only [hc] at h
  · cases h
  · exact ⟨countIs_ok hc, allOne_ok h⟩
theorem okVsB_ok {k : Nat} : ∀ {vs : List AVal}, okVsB k vs = true → ∀ v ∈ vs, okCells k v
  | [], _, v, hv => by cases hv
  | u :: us, h, v, hv => by
    simp only [okVsB] at h
    cases hu : okB k u <;> simp only [hu] at h
    · cases h
    · rcases List.mem_cons.1 hv with rfl | hv
      · exact okB_ok hu
      · exact okVsB_ok h v hv
theorem okAllB_ok : ∀ {ps : List (Nat × Nat)} {vs : List AVal} {n : Nat}, okAllB ps vs n = true → okAll ps vs n
  | [], _, _, _ => trivial
  | (o, k) :: ps, [], n, h => by cases h
  | (o, k) :: ps, v :: vs, n, h => by
    simp only [okAllB] at h
    cases hv : okB k v <;> simp only [hv] at h
    · cases h
    · cases hn : Nat.ble (o + k) n <;> simp only [hn] at h
      · cases h
      · exact ⟨⟨okB_ok hv, Nat.le_of_ble_eq_true hn⟩, okAllB_ok h⟩

def stepG (L : Lnk) (q : AOp) (e : Env) (H : Heap) (K KP : AVal → Heap → Prop) : Prop :=
  match q with
  | .build z parts => evs e (parts.map (·.2.2)) fun vs => match okAllB (parts.map fun p => (p.1, p.2.1)) vs z.length with
    | true => K (.agg (fillA z (zipA (parts.map fun p => (p.1, p.2.1)) vs))) H
    | false => False
  | .lit k _ _ _ parts => evs e (parts.map (·.2)) fun vs => match okVsB k vs with
    | true => K (.lst vs .full) H
    | false => False
  | .mkI t x => force (ev e x) fun v => K (.iface t v) H
  | .mkF f fi ca => evs e fi fun a => evs e ca fun c => K (.fn f a c) H
  | .append k bytes t s x => force (ev e s) fun s => force (ev e x) fun x => appK k bytes t s x H K
  | .appendS bytes t s x => force (ev e s) fun s => force (ev e x) fun x => appSK bytes t s x H K
  | .load k a => force (ev e a) fun a => match loadAt H k a with
    | some v => K v H
    | none => False
  | .store k a x => force (ev e a) fun a => force (ev e x) fun x => match okB k x with
    | true => match storeAt H k a x with
      | some H' => K .undef H'
      | none => False
    | false => False
  | .call f args => evs e args fun as => ACalls L f as H (contR K KP)
  | .box t x => force (ev e x) fun v => match allOne v.cells with
    | true => K (.ptr H.length 0) (H ++ [.cells v.cells t])
    | false => False
  | .look kk z ok m k => force (ev e m) fun m => force (ev e k) fun k => match lookM kk z ok H m k with
    | some v => K v H
    | none => False
  | .clr k z x => force (ev e x) fun x => match clrM k z H x with
    | some H' => K (.tup []) H'
    | none => False
  | .mupd kk m k v => force (ev e m) fun m => force (ev e k) fun k => force (ev e v) fun v => match putM kk H m k v with
    | some H' => K .undef H'
    | none => False
  | q => stepOp L q e H K KP

theorem stepG_sound {q : AOp} {e : Env} {H : Heap} {K KP : AVal → Heap → Prop} (h : stepG L q e H K KP) : stepOp L q e H K KP := by
  refine stepF_sound ?_
  cases q <;> first | exact h | skip
  case build z parts =>
    simp only [stepG, evs_eq] at h
    simp only [stepF, evs_eq]
    cases hb : okAllB (parts.map fun p => (p.1, p.2.1)) ((parts.map (·.2.2)).map (ev e)) z.length <;> simp only [hb] at h
    exact ⟨okAllB_ok hb, h⟩
  case lit k _ _ _ parts =>
    simp only [stepG, evs_eq] at h
    simp only [stepF, evs_eq]
    cases hb : okVsB k ((parts.map (·.2)).map (ev e)) <;> simp only [hb] at h
    exact ⟨okVsB_ok hb, h⟩
  case store k a x =>
    simp only [stepG, force_eq] at h
    simp only [stepF, force_eq]
    cases hb : okB k (ev e x) <;> simp only [hb] at h
    exact ⟨okB_ok hb, h⟩
  case box t x =>
    simp only [stepG, force_eq] at h
    simp only [stepF, force_eq]
    cases hb : allOne (ev e x).cells <;> simp only [hb] at h
    exact ⟨allOne_ok hb, h⟩

def xopsG (L : Lnk) : List AO → Env → Heap → (Env → Heap → Prop) → (AVal → Heap → Prop) → Prop
  | [], e, H, K, _ => K e H
  | o :: os, e, H, K, KP => match o.guard with
    | none => stepG L o.op e H (fun v H' => force v fun v => xopsG L os (putA e o.dst v) H' K KP) KP
    | some (t, want) => match e t with
      | .bool b => match want, b with
        | true, true => stepG L o.op e H (fun v H' => force v fun v => xopsG L os (putA e o.dst v) H' K KP) KP
        | false, false => stepG L o.op e H (fun v H' => force v fun v => xopsG L os (putA e o.dst v) H' K KP) KP
        | true, false => xopsG L os (putA e o.dst (.tup [])) H K KP
        | false, true => xopsG L os (putA e o.dst (.tup [])) H K KP
      | .tup [] => xopsG L os (putA e o.dst (.tup [])) H K KP
      | _ => False

theorem xopsG_sound {K : Env → Heap → Prop} {KP : AVal → Heap → Prop} : ∀ (l : List AO) (e : Env) (H : Heap), xopsG L l e H K KP → xops L l e H K KP
  | [], e, H, h => h
  | o :: os, e, H, h => by
    have go : stepG L o.op e H (fun v H' => force v fun v => xopsG L os (putA e o.dst v) H' K KP) KP → stepOp L o.op e H (fun v H' => xops L os (putA e o.dst v) H' K KP) KP := fun h =>
      stepOp_mono (fun v H' h => by rw [force_eq] at h; exact xopsG_sound os _ _ h) (fun _ _ h => h) (stepG_sound h)
    simp only [xopsG] at h
    simp only [xops]
    cases hg : o.guard with
    | none => simp only [hg] at h ⊢; exact go h
    | some p =>
      obtain ⟨t, want⟩ := p
      simp only [hg] at h ⊢
      cases he : e t <;> simp only [he] at h ⊢
      · rename_i b
        cases want <;> cases b <;> first | exact go h | exact xopsG_sound os _ _ h
      · rename_i vs
        cases vs with
        | nil => exact xopsG_sound os _ _ h
        | cons => exact False.elim h

def softG (L : Lnk) (q : AOp) (e : Env) (H0 H : Heap) (K : AVal → Heap → Prop) : Prop :=
  match q with
  | .alloc z t => K (.ptr H.length 0) (H ++ [.cells z t])
  | .box t x => force (ev e x) fun v => match allOne v.cells with
    | true => K (.ptr H.length 0) (H ++ [.cells v.cells t])
    | false => False
  | .load k a => force (ev e a) fun a => match ptrOK H0.length a with
    | true => match loadAt H0 k a with
      | some v => K v H
      | none => False
    | false => False
  | .call f args => evs e args fun as => ∃ v, (∀ H', agree H0.length H0 H' → ACalls L f as H' fun r H'' => r = .ret v ∧ H'' = H') ∧ K v H
  | .callv f args => softStep L (.callv f args) e H0 H K
  | .store _ _ _ | .append _ _ _ _ _ | .appendS _ _ _ _ | .ustr _ _ _ | .panic _ | .convA2S _ | .make _ _ _ | .mkMap | .look _ _ _ _ _ | .mupd _ _ _ _ | .lenM _ | .mrange _ | .mnext _ | .mentry _ | .clr _ _ _ | .litV _ _ _ => False
  | q => stepG L q e H K fun _ _ => False

theorem softG_sound {q : AOp} {e : Env} {H0 H : Heap} {KH : AVal → Heap → Prop} (h : softG L q e H0 H KH) : softStep L q e H0 H KH := by
  cases q <;> first | exact h | exact stepG_sound h | skip
  case box t x =>
    simp only [softG, force_eq] at h
    simp only [softStep]
    cases hb : allOne (ev e x).cells <;> simp only [hb] at h
    exact ⟨allOne_ok hb, h⟩
  case load k a =>
    simp only [softG, force_eq] at h
    simp only [softStep]
    cases hb : ptrOK H0.length (ev e a) <;> simp only [hb] at h
    exact ⟨rfl, h⟩
  case call f args => simp only [softG, evs_eq] at h; exact h
  case build z ps => exact stepG_sound (show stepG L (.build z ps) e H KH fun _ _ => False from h)
  case lit k b z m ps => exact stepG_sound (show stepG L (.lit k b z m ps) e H KH fun _ _ => False from h)
  case mkI t x => exact stepG_sound (show stepG L (.mkI t x) e H KH fun _ _ => False from h)
  case mkF f a c => exact stepG_sound (show stepG L (.mkF f a c) e H KH fun _ _ => False from h)

def xsoftG (L : Lnk) (H0 : Heap) : List AO → Env → Heap → (Env → Heap → Prop) → Prop
  | [], e, H, K => K e H
  | o :: os, e, H, K => match o.guard with
    | none => softG L o.op e H0 H (fun v H' => force v fun v => xsoftG L H0 os (putA e o.dst v) H' K)
    | some (t, want) => match e t with
      | .bool b => match want, b with
        | true, true => softG L o.op e H0 H (fun v H' => force v fun v => xsoftG L H0 os (putA e o.dst v) H' K)
        | false, false => softG L o.op e H0 H (fun v H' => force v fun v => xsoftG L H0 os (putA e o.dst v) H' K)
        | true, false => xsoftG L H0 os (putA e o.dst (.tup [])) H K
        | false, true => xsoftG L H0 os (putA e o.dst (.tup [])) H K
      | .tup [] => xsoftG L H0 os (putA e o.dst (.tup [])) H K
      | _ => False

theorem xsoftG_sound {H0 : Heap} {K : Env → Heap → Prop} : ∀ (l : List AO) (e : Env) (H : Heap), xsoftG L H0 l e H K → xsoft L H0 l e H K
  | [], e, H, h => h
  | o :: os, e, H, h => by
    have go : softG L o.op e H0 H (fun v H' => force v fun v => xsoftG L H0 os (putA e o.dst v) H' K) → softStep L o.op e H0 H (fun v H' => xsoft L H0 os (putA e o.dst v) H' K) := fun h =>
      softStep_mono (fun v H' h => by rw [force_eq] at h; exact xsoftG_sound os _ _ h) (softG_sound h)
    simp only [xsoftG] at h
    simp only [xsoft]
    cases hg : o.guard with
    | none => simp only [hg] at h ⊢; exact go h
    | some p =>
      obtain ⟨t, want⟩ := p
      simp only [hg] at h ⊢
      cases he : e t <;> simp only [he] at h ⊢
      · rename_i b
        cases want <;> cases b <;> first | exact go h | exact xsoftG_sound os _ _ h
      · rename_i vs
        cases vs with
        | nil => exact xsoftG_sound os _ _ h
        | cons => exact False.elim h

def xltG (L : Lnk) (e0 : Env) (H0 : Heap) : LT → Env → Heap → (Env → Heap → Prop) → (AVal → Heap → Prop) → Prop
  | .done, e, H, K, _ => K e H
  | .stop, _, _, _, _ => True
  | .bad, _, _, _, _ => False
  | .alt o ks t more, e, H, K, KP => moreK more (match o.guard with
    | none => stepG L o.op e H (fun v H' => force v fun v => turnK ks e0 H0 H' (xltG L e0 H0 t (putA e o.dst v) H' K KP)) KP
    | some (s, want) => match e s with
      | .bool b => match want, b with
        | true, true => stepG L o.op e H (fun v H' => force v fun v => turnK ks e0 H0 H' (xltG L e0 H0 t (putA e o.dst v) H' K KP)) KP
        | false, false => stepG L o.op e H (fun v H' => force v fun v => turnK ks e0 H0 H' (xltG L e0 H0 t (putA e o.dst v) H' K KP)) KP
        | true, false => xltG L e0 H0 t (putA e o.dst (.tup [])) H K KP
        | false, true => xltG L e0 H0 t (putA e o.dst (.tup [])) H K KP
      | .tup [] => xltG L e0 H0 t (putA e o.dst (.tup [])) H K KP
      | _ => False) (xltG L e0 H0 more e H K KP)

theorem xltG_sound {e0 : Env} {H0 : Heap} {K : Env → Heap → Prop} {KP : AVal → Heap → Prop} : ∀ (t : LT) (e : Env) (H : Heap), xltG L e0 H0 t e H K KP → xlt L e0 H0 t e H K KP := by
  intro t
  induction t with
  | done => exact fun e H h => h
  | stop => exact fun e H h => h
  | bad => exact fun e H h => h
  | alt o ks t more iht ihm =>
    intro e H h
    have go : stepG L o.op e H (fun v H' => force v fun v => turnK ks e0 H0 H' (xltG L e0 H0 t (putA e o.dst v) H' K KP)) KP → stepOp L o.op e H (fun v H' => turnK ks e0 H0 H' (xlt L e0 H0 t (putA e o.dst v) H' K KP)) KP := fun h =>
      stepOp_mono (fun v H' h => by rw [force_eq] at h; exact turnK_mono (iht _ _) h) (fun _ _ h => h) (stepG_sound h)
    simp only [xltG] at h
    simp only [xlt]
    refine moreK_of ?_ (by
      by_cases hm : more = .stop
      · exact xlt_stop hm
      · exact ihm _ _ (moreK_2 (fun h => absurd h hm) h))
    replace h := moreK_1 h
    cases hg : o.guard with
    | none => simp only [hg] at h ⊢; exact go h
    | some p =>
      obtain ⟨s, want⟩ := p
      simp only [hg] at h ⊢
      cases he : e s <;> simp only [he] at h ⊢
      · rename_i b
        cases want <;> cases b <;> first | exact go h | exact iht _ _ h
      · rename_i vs
        cases vs with
        | nil => exact iht _ _ h
        | cons => exact False.elim h

def xcodeG (L : Lnk) : AC → Env → Heap → XPost → Prop
  | .skip, e, H, Q => Q .normal e H
  | .ops l, e, H, Q => xopsG L l e H (fun e' H' => Q .normal e' H') (fun v H' => Q (.pan v) e H')
  | .draw soft hard, e, H, Q => xsoftG L H soft e H (fun e' H' => xopsG L hard e' H' (fun e'' H'' => Q .normal e'' H'') (fun v H'' => Q (.pan v) e' H''))
  | .drawt soft t, e, H, Q => xsoftG L H soft e H (fun e' H' => xltG L e' H t e' H' (fun e'' H'' => Q .normal e'' H'') (fun v H'' => Q (.pan v) e' H''))
  | .seq a b, e, H, Q => xcodeG L a e H (seqQ (fun e' H' => xcodeG L b e' H' Q) Q)
  | .cond c a b, e, H, Q => match ev e c with
    | .bool t => match t with
      | true => xcodeG L a e H Q
      | false => xcodeG L b e H Q
    | _ => False
  | .block id c, e, H, Q => xcodeG L c e H (blkQ id Q)
  | .loop c, e, H, Q => ∀ I : Env → Heap → Prop, (∀ e H, xcodeG L c e H (seqQ I Q) → I e H) → GC L H.length I → I e H
  | .exit id, e, H, Q => Q (.exit id) e H
  | .ret, e, H, Q => Q .ret e H
  | .bad, _, _, _ => False
  | .rangeF f ps asg body, e, H, Q => match ev e f with
    | .fn (.func g) fi ca => ∀ r : LRec, r.e = e →
        (∀ (args : List AVal) (H1 : Heap) (R : ARet → Heap → Prop), args.length = ps.length → H1[H.length]? = some (.loop r .ready) →
          xcodeG L asg (setPs e ps args) H1 (roundA H.length r fun e2 H2 => xcodeG L body e2 H2 (roundB H.length r R)) → AYield L H.length args H1 R) →
        ACalls L g (fi ++ [.yld H.length] ++ ca) (H ++ [.loop r .ready]) (loopQ H.length r Q e)
    | _ => False

theorem xcodeG_sound : ∀ (c : AC) (e : Env) (H : Heap) (Q : XPost), xcodeG L c e H Q → xcode L c e H Q := by
  intro c
  induction c with
  | skip => exact fun e H Q h => h
  | ops l => exact fun e H Q h => xopsG_sound l e H h
  | draw soft hard => exact fun e H Q h => xsoft_mono (fun _ _ h => xopsG_sound hard _ _ h) (xsoftG_sound soft e H h)
  | drawt soft t => exact fun e H Q h => xsoft_mono (fun _ _ h => xltG_sound t _ _ h) (xsoftG_sound soft e H h)
  | seq a b iha ihb =>
    intro e H Q h
    have h' : xcodeG L a e H (seqQ (fun e' H' => xcodeG L b e' H' Q) Q) := h
    show xcode L a e H (seqQ (fun e' H' => xcode L b e' H' Q) Q)
    refine xcode_mono (Q := seqQ (fun e' H' => xcodeG L b e' H' Q) Q) (fun x e H h => ?_) (iha _ _ _ h')
    cases x with
    | normal => exact ihb _ _ _ h
    | _ => exact h
  | cond c a b iha ihb =>
    intro e H Q h
    simp only [xcodeG] at h
    simp only [xcode]
    cases hc : ev e c <;> simp only [hc] at h ⊢
    rename_i t
    cases t
    · exact ihb _ _ _ h
    · exact iha _ _ _ h
  | block id c ih => exact fun e H Q h => ih e H _ h
  | loop c ih =>
    intro e H Q h I hI hG
    exact h I (fun e H hc => hI e H (ih _ _ _ hc)) hG
  | exit id => exact fun e H Q h => h
  | ret => exact fun e H Q h => h
  | bad => exact fun e H Q h => h
  | rangeF f ps asg body iha ihb =>
    intro e H Q h
    simp only [xcodeG] at h
    simp only [xcode]
    cases hf : ev e f <;> simp only [hf] at h ⊢
    rename_i af fi ca
    cases af <;> try exact h.elim
    exact fun r hr hy => h r hr fun args H1 R h1 h2 h3 => hy args H1 R h1 h2 (xcode_mono (fun x e H hx => roundA_mono (fun e H h => ihb _ _ _ h) hx) (iha _ _ _ h3))

def xfuncG (L : Lnk) (af : AFunc) (args : List AVal) (H : Heap) (Q : ARet → Heap → Prop) : Prop :=
  xcodeG L af.body (fun i => args.getD i .undef) H (funQ af.results Q)

theorem acallsG {T : Tab} {f : Nat} {af : AFunc} (hf : T.has f af) {args : List AVal} {H : Heap} {Q : ARet → Heap → Prop} (hlen : args.length ≤ af.ntmps) (h : xfuncG T.L af args H Q) : ACalls T.L f args H Q :=
  acalls_of hf hlen (xcodeG_sound _ _ _ _ h)

end Go.Ag
/- Slots for tails: a list that lies in a variable and is appended to, its tail at a place of its own; contracts at a heap's first objects. -/
set_option linter.unusedVariables false
namespace Go.Ag
open Go

variable {L : Lnk}

def dtok (n id : Nat) : Tok := match n with
  | 0 => .nil
  | _ + 1 => .tail id
def dobj (n t : Nat) : AObj := match n with
  | 0 => .dead
  | n + 1 => .tail (n + 1) t

theorem app_slot {k bytes t id : Nat} {xs ys : List AVal} {tk0 : Tok} {H : Heap} {K : AVal → Heap → Prop} (hx : Sized k xs) (hy : Sized k ys) (hb : (xs.length + ys.length) * bytes ≤ 2 ^ 46) (hl : xs.length + ys.length ≤ 2 ^ 46) (hne : ys ≠ [])
    (hid : H[id]? = some (dobj xs.length t)) (h : K (.lst (xs ++ ys) (dtok (xs ++ ys).length id)) (H.set id (dobj (xs ++ ys).length t))) : appK k bytes t (.lst xs (dtok xs.length id)) (.lst ys tk0) H K := by
  have hn : ∃ m, (xs ++ ys).length = m + 1 := by
    cases hm : (xs ++ ys).length with
    | zero =>
      rw [List.length_append] at hm
      exact absurd (List.eq_nil_of_length_eq_zero (by omega)) hne
    | succ m => exact ⟨m, rfl⟩
  obtain ⟨m, hm⟩ := hn
  rw [hm] at h
  simp only [dtok, dobj] at h
  unfold appK
  refine ⟨hx, hy, hb, hl, ?_⟩
  rw [if_neg hne, hm]
  cases hn : xs.length with
  | zero =>
    rw [hn] at hid
    exact .inr (.inl ⟨id, hid, h⟩)
  | succ n =>
    rw [hn] at hid
    simp only [dtok, dobj] at hid ⊢
    rw [hid]
    exact ⟨⟨rfl, rfl⟩, h⟩

def ftok (n id : Nat) : Tok := match n with
  | 0 => .full
  | _ + 1 => .tail id

def btok (b n id : Nat) : Tok := if n ≤ b then .full else .tail id
def bobj (b n t : Nat) : AObj := if n ≤ b then .dead else .tail n t
theorem app_slotB {b k bytes t id : Nat} {xs ys : List AVal} {tk0 : Tok} {H : Heap} {K : AVal → Heap → Prop} (hx : Sized k xs) (hy : Sized k ys) (hb : (xs.length + ys.length) * bytes ≤ 2 ^ 46) (hl : xs.length + ys.length ≤ 2 ^ 46) (hne : ys ≠ []) (hbx : b ≤ xs.length)
    (hid : H[id]? = some (bobj b xs.length t)) (h : K (.lst (xs ++ ys) (btok b (xs ++ ys).length id)) (H.set id (bobj b (xs ++ ys).length t))) : appK k bytes t (.lst xs (btok b xs.length id)) (.lst ys tk0) H K := by
  have hlt : ¬ (xs ++ ys).length ≤ b := by
    have : ys.length ≠ 0 := fun e => hne (List.eq_nil_of_length_eq_zero e)
    rw [List.length_append]; omega
  unfold btok bobj at h
  rw [if_neg hlt, if_neg hlt] at h
  unfold appK
  refine ⟨hx, hy, hb, hl, ?_⟩
  rw [if_neg hne]
  unfold bobj at hid
  unfold btok
  by_cases hn : xs.length ≤ b
  · rw [if_pos hn] at hid ⊢
    exact .inr (.inl ⟨id, hid, h⟩)
  · rw [if_neg hn] at hid ⊢
    dsimp only
    rw [hid]
    exact ⟨⟨rfl, rfl⟩, h⟩

theorem Pure.weak {f : Nat} {args args' : List AVal} {y : AVal} (h : Pure L f args' y) (hw : WeakL L args args') : Pure L f args y := fun H g w vs hs hr => h H g w vs hs (hr.weak hw)

theorem Pure.runD (k : Nat) {f : Nat} {args : List AVal} {y : AVal} (ha : ∀ x ∈ args, Low 0 x) (hy : Low 0 y) (h : ACalls L f args (List.replicate k .dead) fun r _ => ∃ x, r = .ret x ∧ Weak L x y) : Pure L f args y :=
  Pure.run ha hy (ACalls.deads k (by simpa using h))

theorem dtok_low {n m id : Nat} (h : id < n) : tokLow n (dtok m id) := by cases m <;> first | trivial | exact h
theorem dobj_low (n m t : Nat) : LowO n (dobj m t) := by cases m <;> trivial

def WeakHs (L : Lnk) : Heap → Heap → Prop
  | [], [] => True
  | o :: K, o' :: H => WeakO L o o' ∧ WeakHs L K H
  | _, _ => False
theorem WeakHs.len : ∀ {K H : Heap}, WeakHs L K H → K.length = H.length
  | [], [], _ => rfl
  | o :: K, o' :: H, h => by simp [WeakHs.len h.2]
  | [], _ :: _, h => h.elim
  | _ :: _, [], h => h.elim
theorem WeakHs.at : ∀ {K H : Heap}, WeakHs L K H → ∀ (i : Nat) (o o' : AObj), K[i]? = some o → H[i]? = some o' → WeakO L o o'
  | [], [], _, i, o, o', h, _ => by simp at h
  | x :: K, x' :: H, h, i, o, o', h1, h2 => by
    cases i with
    | zero => simp at h1 h2; subst h1 h2; exact h.1
    | succ i => exact WeakHs.at h.2 i o o' (by simpa using h1) (by simpa using h2)
  | [], _ :: _, h, _, _, _, _, _ => h.elim
  | _ :: _, [], h, _, _, _, _, _ => h.elim
theorem WeakHs.refl : ∀ (H : Heap), WeakHs L H H
  | [] => trivial
  | o :: H => ⟨WeakO.refl o, WeakHs.refl H⟩
def LowHs (n : Nat) : Heap → Prop
  | [] => True
  | o :: H => LowO n o ∧ LowHs n H
theorem LowHs.at {n : Nat} : ∀ {H : Heap}, LowHs n H → ∀ o ∈ H, LowO n o
  | [], _, o, h => by cases h
  | x :: H, h, o, ho => by
    rcases List.mem_cons.1 ho with rfl | ho
    · exact h.1
    · exact LowHs.at h.2 o ho
def Slots (L : Lnk) (n : Nat) (e : Env) : List (Nat × AVal) → Prop
  | [] => True
  | p :: l => (Weak L (e p.1) p.2 ∧ Low n p.2) ∧ Slots L n e l
theorem Slots.at {n : Nat} {e : Env} : ∀ {l : List (Nat × AVal)}, Slots L n e l → ∀ p ∈ l, Weak L (e p.1) p.2 ∧ Low n p.2
  | [], _, p, h => by cases h
  | q :: l, h, p, hp => by
    rcases List.mem_cons.1 hp with rfl | hp
    · exact h.1
    · exact Slots.at h.2 p hp

theorem GC.nextS {n0 : Nat} {I : Env → Heap → Prop} (hG : GC L n0 I) (l : List (Nat × AVal)) (H K J : Heap) {e' : Env} {H' : Heap} (hH : H' = K ++ J) (hn : n0 ≤ H.length)
    (hw : WeakHs L K H) (hl : Slots L H.length e' l) (hlo : LowHs H.length H) (hI : I (setL (fun _ => .undef) l) H) : I e' H' :=
  GC.next hG l H K J hH hn hw.len hl.at hw.at hlo.at hI

def LowL (n : Nat) : List AVal → Prop
  | [] => True
  | x :: l => Low n x ∧ LowL n l
theorem LowL.at {n : Nat} : ∀ {l : List AVal}, LowL n l → ∀ x ∈ l, Low n x
  | [], _, x, h => by cases h
  | y :: l, h, x, hx => by
    rcases List.mem_cons.1 hx with rfl | hx
    · exact h.1
    · exact LowL.at h.2 x hx
theorem lowC {n t : Nat} {cs : List AVal} (h : LowL n cs) : LowO n (.cells cs t) := h.at
def LowS (n : Nat) : List (Nat × AVal) → Prop
  | [] => True
  | p :: l => Low n p.2 ∧ LowS n l
theorem slots_of {n : Nat} {e : Env} : ∀ {l : List (Nat × AVal)}, envHas e l → LowS n l → Slots L n e l
  | [], _, _ => trivial
  | (i, v) :: l, h, hl => ⟨⟨by show Weak L (e i) v; rw [h.1]; exact Weak.refl _, hl.1⟩, slots_of h.2 hl.2⟩

theorem GC.keep {n0 : Nat} {I : Env → Heap → Prop} (hG : GC L n0 I) (l : List (Nat × AVal)) (H : Heap) {e' : Env} {H' : Heap} (hn : n0 ≤ H.length) (hH : H'.take H.length = H)
    (he : envHas e' l) (hl : LowS H.length l) (hlo : LowHs H.length H) (hI : I (setL (fun _ => .undef) l) H) : I e' H' :=
  hG.nextS l H H (H'.drop H.length) (by
    conv => lhs; rw [← List.take_append_drop H.length H', hH]) hn (WeakHs.refl H) (slots_of he hl) hlo hI

def Call2 (L : Lnk) (f : Nat) (args : List AVal) (a b : AObj) (y : AVal) (a' b' : AObj) : Prop :=
  ACalls L f args [a, b] fun r H' => r = .ret y ∧ H' = [a', b']

def Plain (ρ : Nat → Nat) (o : AObj) : Prop := renO ρ o = o

theorem map_ren_low {ρ : Nat → Nat} {n : Nat} (hρ : ∀ i, i < n → ρ i = i) {xs : List AVal} (h : ∀ x ∈ xs, Low n x) : xs.map (ren ρ) = xs :=
  (List.map_congr_left (g := id) fun x hx => ren_low hρ (h x hx)).trans (List.map_id xs)
theorem renO_low {ρ : Nat → Nat} {n : Nat} (hρ : ∀ i, i < n → ρ i = i) {o : AObj} (h : LowO n o) : renO ρ o = o := by
  cases o with
  | cells cs t => simp only [renO]; rw [renL_map, map_ren_low hρ h]
  | arr v xs t => simp only [renO]; rw [renL_map, map_ren_low hρ h]
  | map es c =>
    simp only [renO]
    rw [show es.map (fun p => (ren ρ p.1, ren ρ p.2.1, p.2.2)) = es from (List.map_congr_left (g := id) fun x hx => by rw [ren_low hρ (h x hx).1, ren_low hρ (h x hx).2]; rfl).trans (List.map_id es)]
  | miter m since seen last =>
    cases m with
    | none => rfl
    | some m => simp only [renO, Option.map_some]; rw [hρ m h]
  | loop r st =>
    simp only [renO]
    rw [show (fun i => ren ρ (r.e i)) = r.e from funext fun i => ren_low hρ (h i)]
  | _ => rfl
def CallK (L : Lnk) (f : Nat) (args : List AVal) (H0 : Heap) (y : AVal) (H1 : Heap) : Prop :=
  ACalls L f args H0 fun r H' => r = .ret y ∧ H' = H1

theorem nameOf_range {k n i : Nat} (h : i < k) : nameOf (List.range k) n i = i := nameOf_old (by simp [h])

theorem putL_range : ∀ (os H0 J A : Heap), os.length = H0.length → putL (A ++ (H0 ++ J)) (List.range' A.length H0.length) os = A ++ (os ++ J)
  | [], [], J, A, _ => rfl
  | [], _ :: _, _, _, h => by cases h
  | _ :: _, [], _, _, h => by cases h
  | o :: os, p :: H0, J, A, h => by
    simp only [List.length_cons, List.range'_succ, putL]
    have e1 : (A ++ (p :: H0 ++ J)).set A.length o = (A ++ [o]) ++ (H0 ++ J) := by simp
    rw [e1]
    have := putL_range os H0 J (A ++ [o]) (by simpa using h)
    simp only [List.length_append, List.length_cons, List.length_nil] at this
    rw [this]
    simp

theorem CallK.at {f : Nat} {args : List AVal} {H0 H1 : Heap} {y : AVal} (h : CallK L f args H0 y H1) (hlen : H1.length = H0.length) (hargs : ∀ x ∈ args, Low H0.length x) (h0 : ∀ o ∈ H0, LowO H0.length o) (hy : Low H0.length y) (h1 : ∀ o ∈ H1, LowO H0.length o) (J : Heap) :
    ACalls L f args (H0 ++ J) fun r H' => r = .ret y ∧ H' = H1 ++ J := by
  have hρ : ∀ i, i < H0.length → nameOf (List.range H0.length) (H0 ++ J).length i = i := fun i hi => nameOf_range hi
  have hp : Part (H0 ++ J) (List.range H0.length) H0 := by
    refine ⟨List.nodup_range, by simp, fun k i o hk ho => ?_⟩
    have hk0 : k < H0.length := by
      rcases Nat.lt_or_ge k H0.length with h' | h'
      · exact h'
      · rw [List.getElem?_eq_none h'] at ho; cases ho
    rw [List.getElem?_range hk0] at hk
    cases hk
    rw [renO_low hρ (h0 o (List.mem_of_getElem? ho)), List.getElem?_append_left hk0]
    exact ho
  have hf := ACalls.frameL h (List.range H0.length) hp (.inr fun r H' hq => by rw [hq.2, hlen]; exact Nat.le_refl _)
  rw [map_ren_low hρ hargs] at hf
  refine hf.mono fun r H' ⟨r1, H1', ⟨e1, e2⟩, _, e3, e4⟩ => ?_
  subst e1 e2
  refine ⟨by rw [e3]; simp only [renR]; rw [ren_low hρ hy], ?_⟩
  have hm : H1'.map (renO (nameOf (List.range H0.length) (H0 ++ J).length)) = H1' := (List.map_congr_left (g := id) fun o ho => renO_low hρ (h1 o ho)).trans (List.map_id _)
  rw [e4, List.length_range, ← hlen, List.take_of_length_le (Nat.le_refl _), List.drop_of_length_le (Nat.le_refl _), hlen, hm, List.map_nil, List.append_nil]
  have := putL_range H1' H0 J [] hlen
  simpa [List.range_eq_range'] using this

theorem CallK.of {f : Nat} {args : List AVal} {H0 H1 : Heap} {y : AVal} (k : Nat) (hlen : H1.length = H0.length) (hy : Low H0.length y) (h1 : ∀ o ∈ H1, LowO H0.length o)
    (h : ACalls L f args (H0 ++ List.replicate k .dead) fun r H' => ∃ x K J, r = .ret x ∧ Weak L x y ∧ H' = K ++ J ∧ K.length = H1.length ∧ ∀ (i : Nat) (o o' : AObj), K[i]? = some o → H1[i]? = some o' → WeakO L o o') : CallK L f args H0 y H1 := by
  have h2 := ACalls.deads k h
  refine (ACalls.gcW (Q := fun z H' => z = y ∧ H' = H1) (h2.mono fun r H' ⟨x, K, J, e1, e2, e3, e4, e5⟩ => ?_)).mono fun r H' ⟨z, e1, _, e2, e3⟩ => ⟨by rw [e1, e2], e3⟩
  exact ⟨x, y, K, H1, J, e3, e1, e2, hy, hlen, e4, e5, h1, rfl, rfl⟩

end Go.Ag
/- Contracts at a heap's first objects of functions that end either way. -/
set_option linter.unusedVariables false
namespace Go.Ag
open Go

variable {L : Lnk}

def WeakR (L : Lnk) : ARet → ARet → Prop
  | .ret x, .ret y => Weak L x y
  | .pan x, .pan y => Weak L x y
  | _, _ => False
def ARet.v : ARet → AVal
  | .ret x => x
  | .pan x => x

theorem ACalls.gcR {f : Nat} {args : List AVal} {H0 : Heap} {Q : ARet → Heap → Prop}
    (h : ACalls L f args H0 fun r H1 => ∃ r' K K' J, H1 = K ++ J ∧ WeakR L r r' ∧ Low H0.length r'.v ∧ K'.length = H0.length ∧ K.length = K'.length ∧
      (∀ (i : Nat) (o o' : AObj), K[i]? = some o → K'[i]? = some o' → WeakO L o o') ∧ (∀ o ∈ K', LowO H0.length o) ∧ Q r' K') :
    ACalls L f args H0 fun r H1 => H1.length = H0.length ∧ Q r H1 := fun g w vs hs hr =>
  (h g w vs hs hr).mono fun e w' ⟨r, H1, g', ⟨r', K, K', J, e1, e3, e4, e5, e6, e7, e8, e9⟩, hle, hst, hrep⟩ => by
    subst e1
    have h2 : St L g' w' (K' ++ J) := hst.weak (by simp [e6]) fun i o o' ho ho' => by
      rcases Nat.lt_or_ge i K.length with hi | hi
      · rw [List.getElem?_append_left hi] at ho
        rw [List.getElem?_append_left (by omega)] at ho'
        exact e7 i o o' ho ho'
      · rw [List.getElem?_append_right hi] at ho
        rw [List.getElem?_append_right (by omega), ← e6, ho] at ho'
        cases ho'
        exact WeakO.refl o
    refine ⟨r', K', g'.cut H0.length, ⟨e5, e9⟩, Ghost.le_cut hle fun i v hi => hs.new i v hi, ?_, ?_⟩
    · rw [← e5]
      exact h2.cut (by rw [e5]; exact e8)
    · cases r with
      | ret x =>
        cases r' with
        | ret y => obtain ⟨v, rfl, hrep⟩ := hrep; exact ⟨v, rfl, (e3 _ _ hrep).cut e4⟩
        | pan y => exact e3.elim
      | pan x =>
        cases r' with
        | ret y => exact e3.elim
        | pan y => obtain ⟨v, rfl, hrep⟩ := hrep; exact ⟨v, rfl, (e3 _ _ hrep).cut e4⟩

def CallR (L : Lnk) (f : Nat) (args : List AVal) (H0 : Heap) (r0 : ARet) (H1 : Heap) : Prop :=
  ACalls L f args H0 fun r H' => r = r0 ∧ H' = H1

theorem CallR.at {f : Nat} {args : List AVal} {H0 H1 : Heap} {r0 : ARet} (h : CallR L f args H0 r0 H1) (hlen : H1.length = H0.length) (hargs : ∀ x ∈ args, Low H0.length x) (h0 : ∀ o ∈ H0, LowO H0.length o) (hy : Low H0.length r0.v) (h1 : ∀ o ∈ H1, LowO H0.length o) (J : Heap) :
    ACalls L f args (H0 ++ J) fun r H' => r = r0 ∧ H' = H1 ++ J := by
  have hρ : ∀ i, i < H0.length → nameOf (List.range H0.length) (H0 ++ J).length i = i := fun i hi => nameOf_range hi
  have hp : Part (H0 ++ J) (List.range H0.length) H0 := by
    refine ⟨List.nodup_range, by simp, fun k i o hk ho => ?_⟩
    have hk0 : k < H0.length := by
      rcases Nat.lt_or_ge k H0.length with h' | h'
      · exact h'
      · rw [List.getElem?_eq_none h'] at ho; cases ho
    rw [List.getElem?_range hk0] at hk
    cases hk
    rw [renO_low hρ (h0 o (List.mem_of_getElem? ho)), List.getElem?_append_left hk0]
    exact ho
  have hf := ACalls.frameL h (List.range H0.length) hp (.inr fun r H' hq => by rw [hq.2, hlen]; exact Nat.le_refl _)
  rw [map_ren_low hρ hargs] at hf
  refine hf.mono fun r H' ⟨r1, H1', ⟨e1, e2⟩, _, e3, e4⟩ => ?_
  subst e1 e2
  refine ⟨?_, ?_⟩
  · rw [e3]
    cases r1 with
    | ret x => exact congrArg ARet.ret (ren_low hρ hy)
    | pan x => exact congrArg ARet.pan (ren_low hρ hy)
  have hm : H1'.map (renO (nameOf (List.range H0.length) (H0 ++ J).length)) = H1' := (List.map_congr_left (g := id) fun o ho => renO_low hρ (h1 o ho)).trans (List.map_id _)
  rw [e4, List.length_range, ← hlen, List.take_of_length_le (Nat.le_refl _), List.drop_of_length_le (Nat.le_refl _), hlen, hm, List.map_nil, List.append_nil]
  have := putL_range H1' H0 J [] hlen
  simpa [List.range_eq_range'] using this

theorem CallR.of {f : Nat} {args : List AVal} {H0 H1 : Heap} {r0 : ARet} (k : Nat) (hlen : H1.length = H0.length) (hy : Low H0.length r0.v) (h1 : ∀ o ∈ H1, LowO H0.length o)
    (h : ACalls L f args (H0 ++ List.replicate k .dead) fun r H' => ∃ K J, WeakR L r r0 ∧ H' = K ++ J ∧ K.length = H1.length ∧ ∀ (i : Nat) (o o' : AObj), K[i]? = some o → H1[i]? = some o' → WeakO L o o') : CallR L f args H0 r0 H1 := by
  have h2 := ACalls.deads k h
  refine (ACalls.gcR (Q := fun z H' => z = r0 ∧ H' = H1) (h2.mono fun r H' ⟨K, J, e2, e3, e4, e5⟩ => ?_)).mono fun r H' ⟨_, e2, e3⟩ => ⟨e2, e3⟩
  exact ⟨r0, K, H1, J, e3, e2, hy, hlen, e4, e5, h1, rfl, rfl⟩

theorem lowO_mono {n m : Nat} (hnm : n ≤ m) {o : AObj} (h : LowO n o) : LowO m o := by
  cases o with
  | cells cs t => exact fun x hx => (h x hx).mono hnm
  | arr v xs t => exact fun x hx => (h x hx).mono hnm
  | map es c => exact fun e he => ⟨(h e he).1.mono hnm, (h e he).2.mono hnm⟩
  | miter q since seen last => cases q with
    | none => exact h
    | some q => exact Nat.lt_of_lt_of_le h hnm
  | loop r st => exact fun i => (h i).mono hnm
  | _ => exact h

end Go.Ag
/- A round's contract, told at a small heap: new things forgotten; in any heap that goes on behind it. -/
set_option linter.unusedVariables false
namespace Go.Ag
open Go

variable {L : Lnk}

theorem AYield.frameL {id : Nat} {args : List AVal} {H0 : Heap} {Q : ARet → Heap → Prop} (h : AYield L id args H0 Q) {H : Heap} (is : List Nat) (hp : Part H is H0) (hq : ∀ r H1, Q r H1 → H0.length ≤ H1.length) :
    AYield L (nameOf is H.length id) (args.map (ren (nameOf is H.length))) H fun r H' => ∃ r1 H1, Q r1 H1 ∧ is.length ≤ H1.length ∧ r = renR (nameOf is H.length) r1 ∧
      H' = putL H is ((H1.take is.length).map (renO (nameOf is H.length))) ++ (H1.drop is.length).map (renO (nameOf is H.length)) := fun g w vs s hs hr ho => by
  have hr' : RepL L (g.small w H is) vs args := RepL.unren (g := g) (g' := g.small w H is) (ρ := nameOf is H.length) (fun _ _ _ h => h) (small_ob hs hp) (by rw [renL_map]; exact hr)
  obtain ⟨f, tmps, asg, body, h1, h2⟩ := h _ w vs s (hs.small hp) hr' (small_ob hs hp _ _ _ ho)
  refine ⟨f, tmps, asg, body, h1, h2.mono fun e w' ⟨r1, H1, g1, hQ, hle, hst, hrep⟩ => ?_⟩
  have k1 : is.length ≤ H1.length := by rw [hp.2.1]; exact hq _ _ hQ
  obtain ⟨k2, k3, k4⟩ := frame_st hs hp hle hst k1
  refine ⟨_, _, g.big g1 H.length is, ⟨r1, H1, hQ, k1, rfl, rfl⟩, k2, k3, ?_⟩
  cases r1 with
  | ret x => obtain ⟨v, rfl, hv⟩ := hrep; exact ⟨v, rfl, Rep.ren (g := g1) (g' := g.big g1 H.length is) (fun _ _ _ h => h) k4 hv⟩
  | pan x => obtain ⟨v, rfl, hv⟩ := hrep; exact ⟨v, rfl, Rep.ren (g := g1) (g' := g.big g1 H.length is) (fun _ _ _ h => h) k4 hv⟩

theorem AYield.gcR {id : Nat} {args : List AVal} {H0 : Heap} {Q : ARet → Heap → Prop}
    (h : AYield L id args H0 fun r H1 => ∃ r' K K' J, H1 = K ++ J ∧ WeakR L r r' ∧ Low H0.length r'.v ∧ K'.length = H0.length ∧ K.length = K'.length ∧
      (∀ (i : Nat) (o o' : AObj), K[i]? = some o → K'[i]? = some o' → WeakO L o o') ∧ (∀ o ∈ K', LowO H0.length o) ∧ Q r' K') :
    AYield L id args H0 fun r H1 => H1.length = H0.length ∧ Q r H1 := fun g w vs s hs hr ho => by
  obtain ⟨f, tmps, asg, body, h1, h2⟩ := h g w vs s hs hr ho
  refine ⟨f, tmps, asg, body, h1, h2.mono fun e w' ⟨r, H1, g', ⟨r', K, K', J, e1, e3, e4, e5, e6, e7, e8, e9⟩, hle, hst, hrep⟩ => ?_⟩
  subst e1
  have h2 : St L g' w' (K' ++ J) := hst.weak (by simp [e6]) fun i o o' ho ho' => by
    rcases Nat.lt_or_ge i K.length with hi | hi
    · rw [List.getElem?_append_left hi] at ho
      rw [List.getElem?_append_left (by omega)] at ho'
      exact e7 i o o' ho ho'
    · rw [List.getElem?_append_right hi] at ho
      rw [List.getElem?_append_right (by omega), ← e6, ho] at ho'
      cases ho'
      exact WeakO.refl o
  refine ⟨r', K', g'.cut H0.length, ⟨e5, e9⟩, Ghost.le_cut hle fun i v hi => hs.new i v hi, ?_, ?_⟩
  · rw [← e5]
    exact h2.cut (by rw [e5]; exact e8)
  · cases r with
    | ret x =>
      cases r' with
      | ret y => obtain ⟨v, rfl, hrep⟩ := hrep; exact ⟨v, rfl, (e3 _ _ hrep).cut e4⟩
      | pan y => exact e3.elim
    | pan x =>
      cases r' with
      | ret y => exact e3.elim
      | pan y => obtain ⟨v, rfl, hrep⟩ := hrep; exact ⟨v, rfl, (e3 _ _ hrep).cut e4⟩

def YieldR (L : Lnk) (id : Nat) (args : List AVal) (H0 : Heap) (r0 : ARet) (H1 : Heap) : Prop := AYield L id args H0 fun r H' => r = r0 ∧ H' = H1

theorem YieldR.at {id : Nat} {args : List AVal} {H0 H1 : Heap} {r0 : ARet} (h : YieldR L id args H0 r0 H1) (hid : id < H0.length) (hlen : H1.length = H0.length) (hargs : ∀ x ∈ args, Low H0.length x) (h0 : ∀ o ∈ H0, LowO H0.length o) (hy : Low H0.length r0.v) (h1 : ∀ o ∈ H1, LowO H0.length o) (J : Heap) :
    AYield L id args (H0 ++ J) fun r H' => r = r0 ∧ H' = H1 ++ J := by
  have hρ : ∀ i, i < H0.length → nameOf (List.range H0.length) (H0 ++ J).length i = i := fun i hi => nameOf_range hi
  have hp : Part (H0 ++ J) (List.range H0.length) H0 := by
    refine ⟨List.nodup_range, by simp, fun k i o hk ho => ?_⟩
    have hk0 : k < H0.length := by
      rcases Nat.lt_or_ge k H0.length with h' | h'
      · exact h'
      · rw [List.getElem?_eq_none h'] at ho; cases ho
    rw [List.getElem?_range hk0] at hk
    cases hk
    rw [renO_low hρ (h0 o (List.mem_of_getElem? ho)), List.getElem?_append_left hk0]
    exact ho
  have hf := AYield.frameL h (List.range H0.length) hp (fun r H' hq => by rw [hq.2, hlen]; exact Nat.le_refl _)
  rw [map_ren_low hρ hargs, hρ id hid] at hf
  refine hf.mono fun r H' ⟨r1, H1', ⟨e1, e2⟩, _, e3, e4⟩ => ?_
  subst e1 e2
  refine ⟨?_, ?_⟩
  · rw [e3]
    cases r1 with
    | ret x => exact congrArg ARet.ret (ren_low hρ hy)
    | pan x => exact congrArg ARet.pan (ren_low hρ hy)
  have hm : H1'.map (renO (nameOf (List.range H0.length) (H0 ++ J).length)) = H1' := (List.map_congr_left (g := _root_.id) fun o ho => renO_low hρ (h1 o ho)).trans (List.map_id _)
  rw [e4, List.length_range, ← hlen, List.take_of_length_le (Nat.le_refl _), List.drop_of_length_le (Nat.le_refl _), hlen, hm, List.map_nil, List.append_nil]
  have := putL_range H1' H0 J [] hlen
  simpa [List.range_eq_range'] using this

theorem YieldR.of {id : Nat} {args : List AVal} {H0 H1 : Heap} {r0 : ARet} (hlen : H1.length = H0.length) (hy : Low H0.length r0.v) (h1 : ∀ o ∈ H1, LowO H0.length o)
    (h : AYield L id args H0 fun r H' => ∃ K J, WeakR L r r0 ∧ H' = K ++ J ∧ K.length = H1.length ∧ ∀ (i : Nat) (o o' : AObj), K[i]? = some o → H1[i]? = some o' → WeakO L o o') : YieldR L id args H0 r0 H1 :=
  (AYield.gcR (Q := fun z H' => z = r0 ∧ H' = H1) (h.mono fun r H' ⟨K, J, e2, e3, e4, e5⟩ => ⟨r0, K, H1, J, e3, e2, hy, hlen, e4, e5, h1, rfl, rfl⟩)).mono fun r H' ⟨_, e2, e3⟩ => ⟨e2, e3⟩

theorem YieldR.to {id : Nat} {args : List AVal} {H0 H1 : Heap} {r0 : ARet} (h : YieldR L id args H0 r0 H1) (hid : id < H0.length) (hlen : H1.length = H0.length) (hargs : ∀ x ∈ args, Low H0.length x) (h0 : ∀ o ∈ H0, LowO H0.length o) (hy : Low H0.length r0.v) (h1 : ∀ o ∈ H1, LowO H0.length o)
    {H : Heap} {K KP : AVal → Heap → Prop} (J : Heap) (hH : H = H0 ++ J) (hk : contR K KP r0 (H1 ++ J)) : AYield L id args H (contR K KP) := by
  subst hH
  exact (h.at hid hlen hargs h0 hy h1 J).mono fun r H' ⟨e1, e2⟩ => by subst e1 e2; exact hk

end Go.Ag
/- Abstract codes, printed by a program of ours (acode.py) out of the given program's form. -/
namespace Go.Ag
open Go
def c_251 : AFunc := (.mk 1 4 [(.tmp 2)] (.seq (.ops [(.mk (some 1) (.box 173 (.tmp 0)) none), (.mk (some 2) (.mv (.const .nilfn)) none)]) (.seq (.ops [(.mk (some 3) (.mkF (.func 294) [] [(.tmp 1)]) none), (.mk (some 2) (.mv (.tmp 3)) none)]) .ret)))
def c_294 : AFunc := (.mk 2 33 [] (.seq (.ops [(.mk (some 8) (.load none (.tmp 1)) none), (.mk (some 9) (.lenL (.tmp 8)) none), (.mk (some 10) (.mv (.const (.int .i64 0))) none)]) (.block 0 (.loop (.seq (.ops [(.mk (some 11) (.bin .lss (.tmp 10) (.tmp 9)) none)]) (.seq (.cond (.tmp 11) .skip (.exit 0)) (.seq (.block 1 (.seq (.ops [(.mk (some 12) (.iaddr 4 (.tmp 8) (.tmp 10)) none), (.mk (some 13) (.load (some 4) (.tmp 12)) none), (.mk (some 4) (.alloc [(.int .i64 0), (.str []), (.lst [] .nil), (.lst [] .nil)] 175) none), (.mk none (.store 4 (.tmp 4) (.tmp 13)) none)]) (.seq (.ops [(.mk (some 14) (.load (some 4) (.tmp 4)) none), (.mk (some 15) (.lit 4 72 [] 1 [(0, (.tmp 14))]) none), (.mk (some 5) (.mv (.tmp 15)) none)]) (.seq (.seq (.ops [(.mk (some 16) (.faddr 0 (.tmp 4)) none), (.mk (some 17) (.load none (.tmp 16)) none), (.mk (some 18) (.bin .eql (.tmp 17) (.const (.int .i64 7))) none)]) (.cond (.tmp 18) (.ops [(.mk (some 19) (.faddr 3 (.tmp 4)) none), (.mk (some 20) (.load none (.tmp 19)) none), (.mk (some 5) (.mv (.tmp 20)) none)]) .skip)) (.seq (.ops [(.mk (some 21) (.mv (.tmp 5)) none), (.mk (some 22) (.lenL (.tmp 21)) none), (.mk (some 23) (.mv (.const (.int .i64 0))) none)]) (.block 2 (.loop (.seq (.ops [(.mk (some 24) (.bin .lss (.tmp 23) (.tmp 22)) none)]) (.seq (.cond (.tmp 24) .skip (.exit 2)) (.seq (.block 3 (.seq (.ops [(.mk (some 25) (.iaddr 4 (.tmp 21) (.tmp 23)) none), (.mk (some 26) (.load (some 4) (.tmp 25)) none), (.mk (some 7) (.alloc [(.int .i64 0), (.str []), (.lst [] .nil), (.lst [] .nil)] 175) none), (.mk none (.store 4 (.tmp 7) (.tmp 26)) none)]) (.seq (.ops [(.mk (some 27) (.mv (.tmp 0)) none), (.mk (some 28) (.load (some 4) (.tmp 7)) none), (.mk (some 29) (.callv (.tmp 27) [(.tmp 28)]) none), (.mk (some 30) (.un .not (.tmp 29)) none)]) (.cond (.tmp 30) .ret .skip)))) (.ops [(.mk (some 31) (.bin .add (.tmp 23) (.const (.int .i64 1))) none), (.mk (some 23) (.mv (.tmp 31)) none)]))))))))))) (.ops [(.mk (some 32) (.bin .add (.tmp 10) (.const (.int .i64 1))) none), (.mk (some 10) (.mv (.tmp 32)) none)]))))))))
def c_224 : AFunc := (.mk 1 49 [(.cell 2 (some 4))] (.seq (.ops [(.mk (some 2) (.alloc [(.int .i64 0), (.str []), (.lst [] .nil), (.lst [] .nil)] 175) none)]) (.seq (.ops [(.mk (some 3) (.alloc [(.lst [] .nil)] 303) none)]) (.seq (.seq (.ops [(.mk (some 8) (.mv (.tmp 0)) none), (.mk (some 9) (.call 251 [(.tmp 8)]) none)]) (.block 0 (.rangeF (.tmp 9) [10] (.ops [(.mk (some 4) (.alloc [(.int .i64 0), (.str []), (.lst [] .nil), (.lst [] .nil)] 175) none), (.mk none (.store 4 (.tmp 4) (.tmp 10)) none)]) (.block 1 (.seq (.seq (.ops [(.mk (some 11) (.faddr 0 (.tmp 4)) none), (.mk (some 12) (.load none (.tmp 11)) none), (.mk (some 13) (.bin .eql (.tmp 12) (.const (.int .i64 4))) none)]) (.cond (.tmp 13) (.seq (.ops [(.mk (some 14) (.load (some 4) (.tmp 4)) none), (.mk none (.store 4 (.tmp 2) (.tmp 14)) none)]) .ret) .skip)) (.drawt [(.mk (some 15) (.load none (.tmp 3)) none), (.mk (some 16) (.load (some 4) (.tmp 4)) none), (.mk (some 17) (.load (some 4) (.tmp 4)) none)] (.alt (.mk (some 18) (.call 191 [(.tmp 17)]) none) [(none, (.tmp 3)), ((some 4), (.tmp 4))] (.alt (.mk (some 19) (.build [(.int .i64 0), (.str []), (.lst [] .nil), (.lst [] .nil), (.str [])] [(0, (4, (.tmp 16))), (4, (1, (.tmp 18)))]) none) [] (.alt (.mk (some 20) (.lit 5 88 [] 1 [(0, (.tmp 19))]) none) [] (.alt (.mk (some 21) (.append 5 88 306 (.tmp 15) (.tmp 20)) none) [] (.alt (.mk none (.store 1 (.tmp 3) (.tmp 21)) none) [] .done .stop) .stop) .stop) .stop) .stop))))))) (.seq (.ops [(.mk (some 22) (.load none (.tmp 3)) none), (.mk (some 23) (.call 252 [(.tmp 22), (.const (.fn (.func 253) [] []))]) none)]) (.seq (.ops [(.mk (some 24) (.load none (.tmp 3)) none), (.mk (some 25) (.call 255 [(.tmp 24), (.const (.fn (.func 256) [] []))]) none), (.mk none (.store 1 (.tmp 3) (.tmp 25)) none)]) (.seq (.seq (.ops [(.mk (some 26) (.load none (.tmp 3)) none), (.mk (some 27) (.lenL (.tmp 26)) none), (.mk (some 28) (.bin .eql (.tmp 27) (.const (.int .i64 1))) none)]) (.cond (.tmp 28) (.seq (.ops [(.mk (some 29) (.load none (.tmp 3)) none), (.mk (some 30) (.iaddr 5 (.tmp 29) (.const (.int .i64 0))) none), (.mk (some 31) (.faddr 0 (.tmp 30)) none), (.mk (some 32) (.load (some 4) (.tmp 31)) none), (.mk none (.store 4 (.tmp 2) (.tmp 32)) none)]) .ret) .skip)) (.seq (.ops [(.mk (some 33) (.build [(.int .i64 0), (.str []), (.lst [] .nil), (.lst [] .nil)] [(0, (1, (.const (.int .i64 7))))]) none), (.mk (some 5) (.alloc [(.int .i64 0), (.str []), (.lst [] .nil), (.lst [] .nil)] 175) none), (.mk none (.store 4 (.tmp 5) (.tmp 33)) none)]) (.seq (.seq (.ops [(.mk (some 34) (.load none (.tmp 3)) none), (.mk (some 35) (.lenL (.tmp 34)) none), (.mk (some 36) (.mv (.const (.int .i64 0))) none)]) (.block 2 (.loop (.seq (.ops [(.mk (some 37) (.bin .lss (.tmp 36) (.tmp 35)) none)]) (.seq (.cond (.tmp 37) .skip (.exit 2)) (.seq (.block 3 (.seq (.ops [(.mk (some 38) (.iaddr 5 (.tmp 34) (.tmp 36)) none), (.mk (some 39) (.load (some 5) (.tmp 38)) none), (.mk (some 7) (.alloc [(.int .i64 0), (.str []), (.lst [] .nil), (.lst [] .nil), (.str [])] 306) none), (.mk none (.store 5 (.tmp 7) (.tmp 39)) none)]) (.ops [(.mk (some 40) (.faddr 3 (.tmp 5)) none), (.mk (some 41) (.load none (.tmp 40)) none), (.mk (some 42) (.faddr 0 (.tmp 7)) none), (.mk (some 43) (.load (some 4) (.tmp 42)) none), (.mk (some 44) (.lit 4 72 [] 1 [(0, (.tmp 43))]) none), (.mk (some 45) (.append 4 72 175 (.tmp 41) (.tmp 44)) none), (.mk (some 46) (.faddr 3 (.tmp 5)) none), (.mk none (.store 1 (.tmp 46) (.tmp 45)) none)]))) (.ops [(.mk (some 47) (.bin .add (.tmp 36) (.const (.int .i64 1))) none), (.mk (some 36) (.mv (.tmp 47)) none)]))))))) (.seq (.ops [(.mk (some 48) (.load (some 4) (.tmp 5)) none), (.mk none (.store 4 (.tmp 2) (.tmp 48)) none)]) .ret))))))))))
def c_253 : AFunc := (.mk 2 10 [(.tmp 4)] (.seq (.ops [(.mk (some 2) (.box 306 (.tmp 0)) none), (.mk (some 3) (.box 306 (.tmp 1)) none), (.mk (some 4) (.mv (.const (.int .i64 0))) none)]) (.seq (.ops [(.mk (some 5) (.faddr 4 (.tmp 2)) none), (.mk (some 6) (.load none (.tmp 5)) none), (.mk (some 7) (.faddr 4 (.tmp 3)) none), (.mk (some 8) (.load none (.tmp 7)) none), (.mk (some 9) (.call 254 [(.tmp 6), (.tmp 8)]) none), (.mk (some 4) (.mv (.tmp 9)) none)]) .ret)))
def c_256 : AFunc := (.mk 2 10 [(.tmp 4)] (.seq (.ops [(.mk (some 2) (.box 306 (.tmp 0)) none), (.mk (some 3) (.box 306 (.tmp 1)) none), (.mk (some 4) (.mv (.const (.bool false))) none)]) (.seq (.ops [(.mk (some 5) (.faddr 4 (.tmp 2)) none), (.mk (some 6) (.load none (.tmp 5)) none), (.mk (some 7) (.faddr 4 (.tmp 3)) none), (.mk (some 8) (.load none (.tmp 7)) none), (.mk (some 9) (.bin .eql (.tmp 6) (.tmp 8)) none), (.mk (some 4) (.mv (.tmp 9)) none)]) .ret)))
def c_186 : AFunc := (.mk 1 33 [(.cell 2 (some 4))] (.seq (.ops [(.mk (some 1) (.box 175 (.tmp 0)) none), (.mk (some 2) (.alloc [(.int .i64 0), (.str []), (.lst [] .nil), (.lst [] .nil)] 175) none)]) (.seq (.ops [(.mk (some 3) (.mv (.const (.lst [] .nil))) none)]) (.seq (.seq (.ops [(.mk (some 6) (.faddr 3 (.tmp 1)) none), (.mk (some 7) (.load none (.tmp 6)) none), (.mk (some 8) (.lenL (.tmp 7)) none), (.mk (some 9) (.mv (.const (.int .i64 0))) none)]) (.block 0 (.loop (.seq (.ops [(.mk (some 10) (.bin .lss (.tmp 9) (.tmp 8)) none)]) (.seq (.cond (.tmp 10) .skip (.exit 0)) (.seq (.block 1 (.seq (.ops [(.mk (some 11) (.iaddr 4 (.tmp 7) (.tmp 9)) none), (.mk (some 12) (.load (some 4) (.tmp 11)) none), (.mk (some 5) (.alloc [(.int .i64 0), (.str []), (.lst [] .nil), (.lst [] .nil)] 175) none), (.mk none (.store 4 (.tmp 5) (.tmp 12)) none)]) (.ops [(.mk (some 13) (.mv (.tmp 3)) none), (.mk (some 14) (.load (some 4) (.tmp 5)) none), (.mk (some 15) (.call 186 [(.tmp 14)]) none), (.mk (some 16) (.lit 4 72 [] 1 [(0, (.tmp 15))]) none), (.mk (some 17) (.append 4 72 175 (.tmp 13) (.tmp 16)) none), (.mk (some 3) (.mv (.tmp 17)) none)]))) (.ops [(.mk (some 18) (.bin .add (.tmp 9) (.const (.int .i64 1))) none), (.mk (some 9) (.mv (.tmp 18)) none)]))))))) (.seq (.seq (.ops [(.mk (some 19) (.faddr 0 (.tmp 1)) none), (.mk (some 20) (.load none (.tmp 19)) none), (.mk (some 21) (.bin .eql (.tmp 20) (.const (.int .i64 7))) none)]) (.cond (.tmp 21) (.seq (.ops [(.mk (some 22) (.mv (.tmp 3)) none), (.mk (some 23) (.call 224 [(.tmp 22)]) none), (.mk none (.store 4 (.tmp 2) (.tmp 23)) none)]) .ret) .skip)) (.seq (.drawt [(.mk (some 24) (.faddr 0 (.tmp 1)) none), (.mk (some 25) (.load none (.tmp 24)) none), (.mk (some 26) (.faddr 1 (.tmp 1)) none), (.mk (some 27) (.load none (.tmp 26)) none), (.mk (some 28) (.faddr 2 (.tmp 1)) none), (.mk (some 29) (.load none (.tmp 28)) none), (.mk (some 31) (.mv (.tmp 3)) none)] (.alt (.mk (some 30) (.call 208 [(.tmp 29)]) none) [(none, (.tmp 24)), (none, (.tmp 26))] (.alt (.mk (some 32) (.build [(.int .i64 0), (.str []), (.lst [] .nil), (.lst [] .nil)] [(0, (1, (.tmp 25))), (1, (1, (.tmp 27))), (2, (1, (.tmp 30))), (3, (1, (.tmp 31)))]) none) [] (.alt (.mk none (.store 4 (.tmp 2) (.tmp 32)) none) [] .done .stop) .stop) .stop)) .ret))))))
def c_150 : AFunc := (.mk 1 6 [(.tmp 2)] (.seq (.ops [(.mk (some 1) (.box 175 (.tmp 0)) none), (.mk (some 2) (.mv (.const (.str []))) none)]) (.seq (.ops [(.mk (some 3) (.load (some 4) (.tmp 1)) none), (.mk (some 4) (.call 186 [(.tmp 3)]) none), (.mk (some 5) (.call 191 [(.tmp 4)]) none), (.mk (some 2) (.mv (.tmp 5)) none)]) .ret)))
def c_151 : AFunc := (.mk 1 6 [(.cell 2 (some 4))] (.seq (.ops [(.mk (some 2) (.alloc [(.int .i64 0), (.str []), (.lst [] .nil), (.lst [] .nil)] 175) none)]) (.seq (.ops [(.mk (some 3) (.mv (.tmp 0)) none), (.mk (some 4) (.build [(.int .i64 0), (.str []), (.lst [] .nil), (.lst [] .nil)] [(0, (1, (.const (.int .i64 7)))), (3, (1, (.tmp 3)))]) none), (.mk (some 5) (.call 186 [(.tmp 4)]) none), (.mk none (.store 4 (.tmp 2) (.tmp 5)) none)]) .ret)))
def c_255 : AFunc := (.mk 2 66 [(.tmp 4)] (.seq (.ops [(.mk (some 4) (.mv (.const (.lst [] .nil))) none)]) (.seq (.seq (.ops [(.mk (some 8) (.mv (.tmp 0)) none), (.mk (some 9) (.lenL (.tmp 8)) none), (.mk (some 10) (.bin .lss (.tmp 9) (.const (.int .i64 2))) none)]) (.cond (.tmp 10) (.seq (.ops [(.mk (some 11) (.mv (.tmp 0)) none), (.mk (some 4) (.mv (.tmp 11)) none)]) .ret) .skip)) (.seq (.seq (.ops [(.mk (some 5) (.mv (.const (.int .i64 1))) none)]) (.block 0 (.loop (.seq (.seq (.ops [(.mk (some 12) (.mv (.tmp 5)) none), (.mk (some 13) (.mv (.tmp 0)) none), (.mk (some 14) (.lenL (.tmp 13)) none), (.mk (some 15) (.bin .lss (.tmp 12) (.tmp 14)) none)]) (.cond (.tmp 15) .skip (.exit 0))) (.seq (.block 1 (.seq (.drawt [(.mk (some 18) (.mv (.tmp 1)) none), (.mk (some 19) (.mv (.tmp 0)) none), (.mk (some 20) (.mv (.tmp 5)) none), (.mk (some 21) (.iaddr 5 (.tmp 19) (.tmp 20)) none), (.mk (some 23) (.mv (.tmp 0)) none), (.mk (some 24) (.mv (.tmp 5)) none), (.mk (some 25) (.bin .sub (.tmp 24) (.const (.int .i64 1))) none), (.mk (some 26) (.iaddr 5 (.tmp 23) (.tmp 25)) none)] (.alt (.mk (some 22) (.load (some 5) (.tmp 21)) none) [] (.alt (.mk (some 27) (.load (some 5) (.tmp 26)) none) [] (.alt (.mk (some 28) (.callv (.tmp 18) [(.tmp 22), (.tmp 27)]) none) [] .done .stop) .stop) .stop)) (.cond (.tmp 28) (.seq (.ops [(.mk (some 29) (.mv (.tmp 0)) none), (.mk (some 30) (.mv (.tmp 5)) none), (.mk (some 31) (.slcL 5 (.tmp 29) (some (.tmp 30)) none) none), (.mk (some 6) (.mv (.tmp 31)) none)]) (.seq (.seq (.ops [(.mk (some 7) (.mv (.const (.int .i64 1))) none)]) (.block 2 (.loop (.seq (.seq (.ops [(.mk (some 32) (.mv (.tmp 7)) none), (.mk (some 33) (.mv (.tmp 6)) none), (.mk (some 34) (.lenL (.tmp 33)) none), (.mk (some 35) (.bin .lss (.tmp 32) (.tmp 34)) none)]) (.cond (.tmp 35) .skip (.exit 2))) (.seq (.block 3 (.seq (.drawt [(.mk (some 38) (.mv (.tmp 1)) none), (.mk (some 39) (.mv (.tmp 6)) none), (.mk (some 40) (.mv (.tmp 7)) none), (.mk (some 41) (.iaddr 5 (.tmp 39) (.tmp 40)) none), (.mk (some 43) (.mv (.tmp 6)) none), (.mk (some 44) (.mv (.tmp 7)) none), (.mk (some 45) (.bin .sub (.tmp 44) (.const (.int .i64 1))) none), (.mk (some 46) (.iaddr 5 (.tmp 43) (.tmp 45)) none)] (.alt (.mk (some 42) (.load (some 5) (.tmp 41)) none) [] (.alt (.mk (some 47) (.load (some 5) (.tmp 46)) none) [] (.alt (.mk (some 48) (.callv (.tmp 38) [(.tmp 42), (.tmp 47)]) none) [] (.alt (.mk (some 49) (.un .not (.tmp 48)) none) [] .done .stop) .stop) .stop) .stop)) (.cond (.tmp 49) (.seq (.ops [(.mk (some 50) (.mv (.tmp 0)) none), (.mk (some 51) (.mv (.tmp 5)) none), (.mk (some 52) (.mv (.tmp 6)) none), (.mk (some 53) (.mv (.tmp 7)) none), (.mk (some 54) (.iaddr 5 (.tmp 52) (.tmp 53)) none), (.mk (some 55) (.load (some 5) (.tmp 54)) none), (.mk (some 56) (.iaddr 5 (.tmp 50) (.tmp 51)) none), (.mk none (.store 5 (.tmp 56) (.tmp 55)) none)]) (.ops [(.mk (some 57) (.mv (.tmp 5)) none), (.mk (some 58) (.bin .add (.tmp 57) (.const (.int .i64 1))) none), (.mk (some 5) (.mv (.tmp 58)) none)])) .skip))) (.ops [(.mk (some 36) (.mv (.tmp 7)) none), (.mk (some 37) (.bin .add (.tmp 36) (.const (.int .i64 1))) none), (.mk (some 7) (.mv (.tmp 37)) none)])))))) (.seq (.ops [(.mk (some 59) (.mv (.tmp 0)) none), (.mk (some 60) (.mv (.tmp 5)) none), (.mk (some 61) (.slcL 5 (.tmp 59) (some (.tmp 60)) none) none), (.mk none (.clr 5 (.agg [(.int .i64 0), (.str []), (.lst [] .nil), (.lst [] .nil), (.str [])]) (.tmp 61)) none)]) (.seq (.ops [(.mk (some 62) (.mv (.tmp 0)) none), (.mk (some 63) (.mv (.tmp 5)) none), (.mk (some 64) (.slcL 5 (.tmp 62) none (some (.tmp 63))) none), (.mk (some 4) (.mv (.tmp 64)) none)]) .ret)))) .skip))) (.ops [(.mk (some 16) (.mv (.tmp 5)) none), (.mk (some 17) (.bin .add (.tmp 16) (.const (.int .i64 1))) none), (.mk (some 5) (.mv (.tmp 17)) none)])))))) (.seq (.ops [(.mk (some 65) (.mv (.tmp 0)) none), (.mk (some 4) (.mv (.tmp 65)) none)]) .ret)))))
end Go.Ag
/- Abstract codes, printed by a program of ours (acode.py) out of the given program's form. -/
namespace Go.Ag
open Go
def c_230 : AFunc := (.mk 2 57 [(.tmp 4)] (.seq (.ops [(.mk (some 2) (.box 175 (.tmp 0)) none), (.mk (some 4) (.mv (.const (.str []))) none)]) (.seq (.seq (.ops [(.mk (some 5) (.faddr 0 (.tmp 2)) none), (.mk (some 6) (.load none (.tmp 5)) none)]) (.block 0 (.seq (.ops [(.mk (some 8) (.bin .eql (.tmp 6) (.const (.int .i64 1))) none), (.mk (some 7) (.mv (.tmp 8)) none)]) (.cond (.tmp 7) (.seq (.ops [(.mk (some 4) (.mv (.const (.str [105, 110, 116]))) none)]) .ret) (.seq (.ops [(.mk (some 10) (.bin .eql (.tmp 6) (.const (.int .i64 2))) none), (.mk (some 9) (.mv (.tmp 10)) none)]) (.cond (.tmp 9) (.seq (.ops [(.mk (some 4) (.mv (.const (.str [98, 111, 111, 108]))) none)]) .ret) (.seq (.ops [(.mk (some 12) (.bin .eql (.tmp 6) (.const (.int .i64 3))) none), (.mk (some 11) (.mv (.tmp 12)) none)]) (.cond (.tmp 11) (.seq (.ops [(.mk (some 4) (.mv (.const (.str [116, 101, 120, 116]))) none)]) .ret) (.seq (.ops [(.mk (some 14) (.bin .eql (.tmp 6) (.const (.int .i64 4))) none), (.mk (some 13) (.mv (.tmp 14)) none)]) (.cond (.tmp 13) (.seq (.ops [(.mk (some 4) (.mv (.const (.str [63]))) none)]) .ret) (.seq (.ops [(.mk (some 16) (.bin .eql (.tmp 6) (.const (.int .i64 5))) none), (.mk (some 15) (.mv (.tmp 16)) none)]) (.cond (.tmp 15) (.seq (.ops [(.mk (some 17) (.faddr 2 (.tmp 2)) none), (.mk (some 18) (.load none (.tmp 17)) none), (.mk (some 19) (.lenL (.tmp 18)) none), (.mk (some 20) (.mkF (.func 263) [] [(.tmp 2)]) none), (.mk (some 21) (.call 262 [(.tmp 19), (.const (.str [44, 32])), (.tmp 20)]) none), (.mk (some 22) (.bin .add (.const (.str [123])) (.tmp 21)) none), (.mk (some 23) (.bin .add (.tmp 22) (.const (.str [125]))) none), (.mk (some 4) (.mv (.tmp 23)) none)]) .ret) (.seq (.ops [(.mk (some 25) (.bin .eql (.tmp 6) (.const (.int .i64 6))) none), (.mk (some 24) (.mv (.tmp 25)) none)]) (.cond (.tmp 24) (.seq (.draw [(.mk (some 26) (.faddr 3 (.tmp 2)) none), (.mk (some 27) (.load none (.tmp 26)) none), (.mk (some 28) (.iaddr 4 (.tmp 27) (.const (.int .i64 0))) none), (.mk (some 29) (.load (some 4) (.tmp 28)) none), (.mk (some 30) (.call 230 [(.tmp 29), (.const (.int .i64 2))]) none), (.mk (some 31) (.bin .add (.tmp 30) (.const (.str [32, 45, 62, 32]))) none), (.mk (some 32) (.faddr 3 (.tmp 2)) none), (.mk (some 33) (.load none (.tmp 32)) none), (.mk (some 34) (.iaddr 4 (.tmp 33) (.const (.int .i64 1))) none), (.mk (some 35) (.load (some 4) (.tmp 34)) none), (.mk (some 36) (.call 230 [(.tmp 35), (.const (.int .i64 1))]) none), (.mk (some 37) (.bin .add (.tmp 31) (.tmp 36)) none), (.mk (some 38) (.mv (.tmp 1)) none), (.mk (some 39) (.bin .geq (.tmp 38) (.const (.int .i64 2))) none), (.mk (some 40) (.call 264 [(.tmp 37), (.tmp 39)]) none), (.mk (some 4) (.mv (.tmp 40)) none)] []) .ret) (.seq (.ops [(.mk (some 42) (.bin .eql (.tmp 6) (.const (.int .i64 7))) none), (.mk (some 41) (.mv (.tmp 42)) none)]) (.cond (.tmp 41) (.seq (.seq (.ops [(.mk (some 43) (.faddr 3 (.tmp 2)) none), (.mk (some 44) (.load none (.tmp 43)) none), (.mk (some 45) (.lenL (.tmp 44)) none), (.mk (some 46) (.bin .eql (.tmp 45) (.const (.int .i64 0))) none)]) (.cond (.tmp 46) (.seq (.ops [(.mk (some 4) (.mv (.const (.str [110, 101, 118, 101, 114]))) none)]) .ret) .skip)) (.seq (.ops [(.mk (some 47) (.faddr 3 (.tmp 2)) none), (.mk (some 48) (.load none (.tmp 47)) none), (.mk (some 49) (.lenL (.tmp 48)) none), (.mk (some 50) (.mkF (.func 265) [] [(.tmp 2)]) none), (.mk (some 51) (.call 262 [(.tmp 49), (.const (.str [32, 124, 32])), (.tmp 50)]) none), (.mk (some 52) (.mv (.tmp 1)) none), (.mk (some 53) (.bin .geq (.tmp 52) (.const (.int .i64 1))) none), (.mk (some 54) (.call 264 [(.tmp 51), (.tmp 53)]) none), (.mk (some 4) (.mv (.tmp 54)) none)]) .ret)) .skip)))))))))))))))) (.seq (.ops [(.mk (some 55) (.faddr 1 (.tmp 2)) none), (.mk (some 56) (.load none (.tmp 55)) none), (.mk (some 4) (.mv (.tmp 56)) none)]) .ret))))
def c_263 : AFunc := (.mk 2 17 [(.tmp 3)] (.seq (.ops [(.mk (some 3) (.mv (.const (.str []))) none)]) (.seq (.drawt [(.mk (some 4) (.faddr 2 (.tmp 1)) none), (.mk (some 5) (.load none (.tmp 4)) none), (.mk (some 6) (.mv (.tmp 0)) none), (.mk (some 7) (.iaddr 1 (.tmp 5) (.tmp 6)) none), (.mk (some 8) (.load none (.tmp 7)) none), (.mk (some 9) (.bin .add (.tmp 8) (.const (.str [58, 32]))) none), (.mk (some 10) (.faddr 3 (.tmp 1)) none), (.mk (some 11) (.load none (.tmp 10)) none), (.mk (some 12) (.mv (.tmp 0)) none), (.mk (some 13) (.iaddr 4 (.tmp 11) (.tmp 12)) none), (.mk (some 14) (.load (some 4) (.tmp 13)) none)] (.alt (.mk (some 15) (.call 230 [(.tmp 14), (.const (.int .i64 0))]) none) [(none, (.tmp 4)), (none, (.tmp 7))] (.alt (.mk (some 16) (.bin .add (.tmp 9) (.tmp 15)) none) [] (.alt (.mk (some 3) (.mv (.tmp 16)) none) [] .done .stop) .stop) .stop)) .ret)))
def c_265 : AFunc := (.mk 2 10 [(.tmp 3)] (.seq (.ops [(.mk (some 3) (.mv (.const (.str []))) none)]) (.seq (.ops [(.mk (some 4) (.faddr 3 (.tmp 1)) none), (.mk (some 5) (.load none (.tmp 4)) none), (.mk (some 6) (.mv (.tmp 0)) none), (.mk (some 7) (.iaddr 4 (.tmp 5) (.tmp 6)) none), (.mk (some 8) (.load (some 4) (.tmp 7)) none), (.mk (some 9) (.call 230 [(.tmp 8), (.const (.int .i64 1))]) none), (.mk (some 3) (.mv (.tmp 9)) none)]) .ret)))
def c_262 : AFunc := (.mk 3 23 [(.tmp 6)] (.seq (.ops [(.mk (some 6) (.mv (.const (.str []))) none)]) (.seq (.ops [(.mk (some 7) (.mv (.const (.lst [] .nil))) none)]) (.seq (.seq (.ops [(.mk (some 9) (.mv (.tmp 0)) none), (.mk (some 10) (.mv (.const (.int .i64 0))) none)]) (.block 0 (.loop (.seq (.ops [(.mk (some 11) (.bin .lss (.tmp 10) (.tmp 9)) none)]) (.seq (.cond (.tmp 11) .skip (.exit 0)) (.seq (.block 1 (.seq (.ops [(.mk (some 12) (.mv (.tmp 10)) none), (.mk (some 8) (.mv (.tmp 12)) none)]) (.ops [(.mk (some 13) (.mv (.tmp 7)) none), (.mk (some 14) (.mv (.tmp 2)) none), (.mk (some 15) (.mv (.tmp 8)) none), (.mk (some 16) (.callv (.tmp 14) [(.tmp 15)]) none), (.mk (some 17) (.lit 1 16 [] 1 [(0, (.tmp 16))]) none), (.mk (some 18) (.append 1 16 10 (.tmp 13) (.tmp 17)) none), (.mk (some 7) (.mv (.tmp 18)) none)]))) (.ops [(.mk (some 19) (.bin .add (.tmp 10) (.const (.int .i64 1))) none), (.mk (some 10) (.mv (.tmp 19)) none)]))))))) (.seq (.ops [(.mk (some 20) (.mv (.tmp 7)) none), (.mk (some 21) (.mv (.tmp 1)) none), (.mk (some 22) (.call 20 [(.tmp 20), (.tmp 21)]) none), (.mk (some 6) (.mv (.tmp 22)) none)]) .ret)))))
def c_264 : AFunc := (.mk 2 10 [(.tmp 4)] (.seq (.ops [(.mk (some 4) (.mv (.const (.str []))) none)]) (.seq (.seq (.ops [(.mk (some 5) (.mv (.tmp 1)) none)]) (.cond (.tmp 5) (.seq (.ops [(.mk (some 6) (.mv (.tmp 0)) none), (.mk (some 7) (.bin .add (.const (.str [40])) (.tmp 6)) none), (.mk (some 8) (.bin .add (.tmp 7) (.const (.str [41]))) none), (.mk (some 4) (.mv (.tmp 8)) none)]) .ret) .skip)) (.seq (.ops [(.mk (some 9) (.mv (.tmp 0)) none), (.mk (some 4) (.mv (.tmp 9)) none)]) .ret))))
def c_191 : AFunc := (.mk 1 5 [(.tmp 2)] (.seq (.ops [(.mk (some 1) (.box 175 (.tmp 0)) none), (.mk (some 2) (.mv (.const (.str []))) none)]) (.seq (.ops [(.mk (some 3) (.load (some 4) (.tmp 1)) none), (.mk (some 4) (.call 230 [(.tmp 3), (.const (.int .i64 0))]) none), (.mk (some 2) (.mv (.tmp 4)) none)]) .ret)))
end Go.Ag
/- Abstract codes, printed by a program of ours (acode.py) out of the given program's form. -/
namespace Go.Ag
open Go
def c_218 : AFunc := (.mk 1 13 [(.cell 2 (some 3))] (.seq (.ops [(.mk (some 2) (.alloc [(.int .i64 0), (.int .i64 0), (.str [])] 282) none)]) (.seq (.draw [(.mk (some 3) (.mv (.tmp 0)) none), (.mk (some 4) (.nilck (.tmp 3)) none), (.mk (some 5) (.faddr 0 (.tmp 4)) none), (.mk (some 6) (.load none (.tmp 5)) none), (.mk (some 7) (.mv (.tmp 0)) none), (.mk (some 8) (.nilck (.tmp 7)) none), (.mk (some 9) (.faddr 1 (.tmp 8)) none), (.mk (some 10) (.load none (.tmp 9)) none), (.mk (some 11) (.iaddr 3 (.tmp 6) (.tmp 10)) none), (.mk (some 12) (.load (some 3) (.tmp 11)) none)] [(.mk none (.store 3 (.tmp 2) (.tmp 12)) none)]) .ret)))
def c_248 : AFunc := (.mk 2 29 [] (.seq (.ops [(.mk (some 6) (.mv (.tmp 0)) none), (.mk (some 7) (.call 218 [(.tmp 6)]) none), (.mk (some 4) (.alloc [(.int .i64 0), (.int .i64 0), (.str [])] 282) none), (.mk none (.store 3 (.tmp 4) (.tmp 7)) none)]) (.seq (.ops [(.mk (some 8) (.faddr 1 (.tmp 4)) none), (.mk (some 9) (.load none (.tmp 8)) none), (.mk (some 10) (.mv (.tmp 1)) none), (.mk (some 11) (.build [(.int .i64 0), (.int .i64 0), (.str [])] [(0, (1, (.tmp 9))), (1, (1, (.tmp 10)))]) none), (.mk (some 5) (.alloc [(.int .i64 0), (.int .i64 0), (.str [])] 333) none), (.mk none (.store 3 (.tmp 5) (.tmp 11)) none)]) (.seq (.seq (.ops [(.mk (some 12) (.mv (.tmp 1)) none), (.mk (some 13) (.bin .eql (.tmp 12) (.const (.int .i64 2))) none)]) (.cond (.tmp 13) (.ops [(.mk (some 14) (.faddr 2 (.tmp 4)) none), (.mk (some 15) (.load none (.tmp 14)) none), (.mk (some 16) (.faddr 2 (.tmp 5)) none), (.mk none (.store 1 (.tmp 16) (.tmp 15)) none)]) .skip)) (.seq (.draw [(.mk (some 17) (.mv (.tmp 0)) none), (.mk (some 18) (.mv (.tmp 0)) none), (.mk (some 19) (.nilck (.tmp 18)) none), (.mk (some 20) (.faddr 2 (.tmp 19)) none), (.mk (some 21) (.load none (.tmp 20)) none), (.mk (some 22) (.load (some 3) (.tmp 5)) none), (.mk (some 23) (.lit 3 32 [] 1 [(0, (.tmp 22))]) none)] [(.mk (some 24) (.append 3 32 333 (.tmp 21) (.tmp 23)) none), (.mk (some 25) (.nilck (.tmp 17)) none), (.mk (some 26) (.faddr 2 (.tmp 25)) none), (.mk none (.store 1 (.tmp 26) (.tmp 24)) none)]) (.ops [(.mk (some 27) (.build [] []) none), (.mk (some 28) (.mkI 301 (.tmp 27)) none), (.mk none (.panic (.tmp 28)) none)]))))))
def c_250 : AFunc := (.mk 2 22 [(.tmp 4)] (.seq (.ops [(.mk (some 4) (.mv (.const (.bool false))) none)]) (.seq (.ops [(.mk (some 6) (.mv (.tmp 0)) none), (.mk (some 7) (.call 218 [(.tmp 6)]) none), (.mk (some 5) (.alloc [(.int .i64 0), (.int .i64 0), (.str [])] 282) none), (.mk none (.store 3 (.tmp 5) (.tmp 7)) none)]) (.seq (.ops [(.mk (some 8) (.faddr 0 (.tmp 5)) none), (.mk (some 9) (.load none (.tmp 8)) none), (.mk (some 10) (.bin .eql (.tmp 9) (.const (.int .i64 2))) none), (.mk (some 11) (.mv (.tmp 10)) none), (.mk (some 12) (.faddr 0 (.tmp 5)) (some (11, false))), (.mk (some 13) (.load none (.tmp 12)) (some (11, false))), (.mk (some 14) (.bin .eql (.tmp 13) (.const (.int .i64 5))) (some (11, false))), (.mk (some 15) (.pick (.tmp 11) (.const (.bool true)) (.tmp 14)) none), (.mk (some 16) (.mv (.tmp 15)) none), (.mk (some 17) (.faddr 2 (.tmp 5)) (some (16, true))), (.mk (some 18) (.load none (.tmp 17)) (some (16, true))), (.mk (some 19) (.mv (.tmp 1)) (some (16, true))), (.mk (some 20) (.bin .eql (.tmp 18) (.tmp 19)) (some (16, true))), (.mk (some 21) (.pick (.tmp 16) (.tmp 20) (.const (.bool false))) none), (.mk (some 4) (.mv (.tmp 21)) none)]) .ret))))
def c_221 : AFunc := (.mk 2 16 [(.tmp 4)] (.seq (.ops [(.mk (some 4) (.mv (.const (.bool false))) none)]) (.seq (.seq (.ops [(.mk (some 5) (.mv (.tmp 0)) none), (.mk (some 6) (.mv (.tmp 1)) none), (.mk (some 7) (.call 250 [(.tmp 5), (.tmp 6)]) none), (.mk (some 8) (.un .not (.tmp 7)) none)]) (.cond (.tmp 8) (.seq (.ops [(.mk (some 4) (.mv (.const (.bool false))) none)]) .ret) .skip)) (.seq (.ops [(.mk (some 9) (.mv (.tmp 0)) none), (.mk (some 10) (.nilck (.tmp 9)) none), (.mk (some 11) (.faddr 1 (.tmp 10)) none), (.mk (some 12) (.load none (.tmp 11)) none), (.mk (some 13) (.bin .add (.tmp 12) (.const (.int .i64 1))) none), (.mk (some 14) (.nilck (.tmp 9)) none), (.mk (some 15) (.faddr 1 (.tmp 14)) none), (.mk none (.store 1 (.tmp 15) (.tmp 13)) none)]) (.seq (.ops [(.mk (some 4) (.mv (.const (.bool true))) none)]) .ret)))))
def c_260 : AFunc := (.mk 2 10 [] (.seq (.ops [(.mk (some 4) (.mv (.tmp 0)) none), (.mk (some 5) (.mv (.tmp 1)) none), (.mk (some 6) (.call 221 [(.tmp 4), (.tmp 5)]) none), (.mk (some 7) (.un .not (.tmp 6)) none)]) (.cond (.tmp 7) (.ops [(.mk (some 8) (.mv (.tmp 0)) none), (.mk (some 9) (.call 248 [(.tmp 8), (.const (.int .i64 2))]) none)]) .skip)))
def c_259 : AFunc := (.mk 1 19 [(.cell 2 (some 3))] (.seq (.ops [(.mk (some 2) (.alloc [(.int .i64 0), (.int .i64 0), (.str [])] 282) none)]) (.seq (.ops [(.mk (some 4) (.mv (.tmp 0)) none), (.mk (some 5) (.call 218 [(.tmp 4)]) none), (.mk (some 3) (.alloc [(.int .i64 0), (.int .i64 0), (.str [])] 282) none), (.mk none (.store 3 (.tmp 3) (.tmp 5)) none)]) (.seq (.seq (.ops [(.mk (some 6) (.faddr 0 (.tmp 3)) none), (.mk (some 7) (.load none (.tmp 6)) none), (.mk (some 8) (.bin .neq (.tmp 7) (.const (.int .i64 1))) none)]) (.cond (.tmp 8) (.ops [(.mk (some 9) (.mv (.tmp 0)) none), (.mk (some 10) (.call 248 [(.tmp 9), (.const (.int .i64 2))]) none)]) .skip)) (.seq (.ops [(.mk (some 11) (.mv (.tmp 0)) none), (.mk (some 12) (.nilck (.tmp 11)) none), (.mk (some 13) (.faddr 1 (.tmp 12)) none), (.mk (some 14) (.load none (.tmp 13)) none), (.mk (some 15) (.bin .add (.tmp 14) (.const (.int .i64 1))) none), (.mk (some 16) (.nilck (.tmp 11)) none), (.mk (some 17) (.faddr 1 (.tmp 16)) none), (.mk none (.store 1 (.tmp 17) (.tmp 15)) none)]) (.seq (.ops [(.mk (some 18) (.load (some 3) (.tmp 3)) none), (.mk none (.store 3 (.tmp 2) (.tmp 18)) none)]) .ret))))))
def c_219 : AFunc := (.mk 2 8 [] (.seq (.ops [(.mk (some 4) (.mv (.tmp 1)) none), (.mk (some 5) (.bin .gtr (.tmp 4) (.const (.int .i64 64))) none)]) (.cond (.tmp 5) (.ops [(.mk (some 6) (.mv (.tmp 0)) none), (.mk (some 7) (.call 248 [(.tmp 6), (.const (.int .i64 3))]) none)]) .skip)))
def c_184 : AFunc := (.mk 2 29 [(.cell 4 (some 4))] (.seq (.ops [(.mk (some 4) (.alloc [(.int .i64 0), (.str []), (.lst [] .nil), (.lst [] .nil)] 175) none)]) (.seq (.ops [(.mk (some 6) (.mv (.tmp 0)) none), (.mk (some 7) (.mv (.tmp 1)) none), (.mk (some 8) (.call 219 [(.tmp 6), (.tmp 7)]) none)]) (.seq (.ops [(.mk (some 9) (.mv (.tmp 0)) none), (.mk (some 10) (.mv (.tmp 1)) none), (.mk (some 11) (.call 220 [(.tmp 9), (.tmp 10)]) none), (.mk (some 12) (.lit 4 72 [] 1 [(0, (.tmp 11))]) none), (.mk (some 5) (.mv (.tmp 12)) none)]) (.seq (.block 0 (.loop (.seq (.seq (.ops [(.mk (some 13) (.mv (.tmp 0)) none), (.mk (some 14) (.call 221 [(.tmp 13), (.const (.str [124]))]) none)]) (.cond (.tmp 14) .skip (.exit 0))) (.block 1 (.ops [(.mk (some 15) (.mv (.tmp 5)) none), (.mk (some 16) (.mv (.tmp 0)) none), (.mk (some 17) (.mv (.tmp 1)) none), (.mk (some 18) (.call 220 [(.tmp 16), (.tmp 17)]) none), (.mk (some 19) (.lit 4 72 [] 1 [(0, (.tmp 18))]) none), (.mk (some 20) (.append 4 72 175 (.tmp 15) (.tmp 19)) none), (.mk (some 5) (.mv (.tmp 20)) none)]))))) (.seq (.seq (.ops [(.mk (some 21) (.mv (.tmp 5)) none), (.mk (some 22) (.lenL (.tmp 21)) none), (.mk (some 23) (.bin .eql (.tmp 22) (.const (.int .i64 1))) none)]) (.cond (.tmp 23) (.seq (.ops [(.mk (some 24) (.mv (.tmp 5)) none), (.mk (some 25) (.iaddr 4 (.tmp 24) (.const (.int .i64 0))) none), (.mk (some 26) (.load (some 4) (.tmp 25)) none), (.mk none (.store 4 (.tmp 4) (.tmp 26)) none)]) .ret) .skip)) (.seq (.ops [(.mk (some 27) (.mv (.tmp 5)) none), (.mk (some 28) (.build [(.int .i64 0), (.str []), (.lst [] .nil), (.lst [] .nil)] [(0, (1, (.const (.int .i64 7)))), (3, (1, (.tmp 27)))]) none), (.mk none (.store 4 (.tmp 4) (.tmp 28)) none)]) .ret)))))))
def c_220 : AFunc := (.mk 2 24 [(.cell 4 (some 4))] (.seq (.ops [(.mk (some 4) (.alloc [(.int .i64 0), (.str []), (.lst [] .nil), (.lst [] .nil)] 175) none)]) (.seq (.ops [(.mk (some 6) (.mv (.tmp 0)) none), (.mk (some 7) (.mv (.tmp 1)) none), (.mk (some 8) (.call 249 [(.tmp 6), (.tmp 7)]) none), (.mk (some 5) (.alloc [(.int .i64 0), (.str []), (.lst [] .nil), (.lst [] .nil)] 175) none), (.mk none (.store 4 (.tmp 5) (.tmp 8)) none)]) (.seq (.seq (.ops [(.mk (some 9) (.mv (.tmp 0)) none), (.mk (some 10) (.call 221 [(.tmp 9), (.const (.str [45, 62]))]) none), (.mk (some 11) (.un .not (.tmp 10)) none)]) (.cond (.tmp 11) (.seq (.ops [(.mk (some 12) (.load (some 4) (.tmp 5)) none), (.mk none (.store 4 (.tmp 4) (.tmp 12)) none)]) .ret) .skip)) (.seq (.ops [(.mk (some 13) (.mv (.tmp 0)) none), (.mk (some 14) (.mv (.tmp 1)) none), (.mk (some 15) (.bin .add (.tmp 14) (.const (.int .i64 1))) none), (.mk (some 16) (.call 219 [(.tmp 13), (.tmp 15)]) none)]) (.seq (.drawt [(.mk (some 17) (.load (some 4) (.tmp 5)) none), (.mk (some 18) (.mv (.tmp 0)) none), (.mk (some 19) (.mv (.tmp 1)) none), (.mk (some 20) (.bin .add (.tmp 19) (.const (.int .i64 1))) none)] (.alt (.mk (some 21) (.call 220 [(.tmp 18), (.tmp 20)]) none) [((some 4), (.tmp 5))] (.alt (.mk (some 22) (.lit 4 72 [] 2 [(0, (.tmp 17)), (1, (.tmp 21))]) none) [] (.alt (.mk (some 23) (.build [(.int .i64 0), (.str []), (.lst [] .nil), (.lst [] .nil)] [(0, (1, (.const (.int .i64 6)))), (3, (1, (.tmp 22)))]) none) [] (.alt (.mk none (.store 4 (.tmp 4) (.tmp 23)) none) [] .done .stop) .stop) .stop) .stop)) .ret))))))
def c_249 : AFunc := (.mk 2 53 [(.cell 4 (some 4))] (.seq (.ops [(.mk (some 4) (.alloc [(.int .i64 0), (.str []), (.lst [] .nil), (.lst [] .nil)] 175) none)]) (.seq (.seq (.ops [(.mk (some 7) (.mv (.tmp 0)) none), (.mk (some 8) (.call 218 [(.tmp 7)]) none), (.mk (some 5) (.alloc [(.int .i64 0), (.int .i64 0), (.str [])] 282) none), (.mk none (.store 3 (.tmp 5) (.tmp 8)) none)]) (.seq (.ops [(.mk (some 9) (.faddr 0 (.tmp 5)) none), (.mk (some 10) (.load none (.tmp 9)) none), (.mk (some 11) (.bin .eql (.tmp 10) (.const (.int .i64 1))) none)]) (.cond (.tmp 11) (.seq (.ops [(.mk (some 12) (.mv (.tmp 0)) none), (.mk (some 13) (.nilck (.tmp 12)) none), (.mk (some 14) (.faddr 1 (.tmp 13)) none), (.mk (some 15) (.load none (.tmp 14)) none), (.mk (some 16) (.bin .add (.tmp 15) (.const (.int .i64 1))) none), (.mk (some 17) (.nilck (.tmp 12)) none), (.mk (some 18) (.faddr 1 (.tmp 17)) none), (.mk none (.store 1 (.tmp 18) (.tmp 16)) none)]) (.seq (.ops [(.mk (some 19) (.faddr 2 (.tmp 5)) none), (.mk (some 20) (.load none (.tmp 19)) none), (.mk (some 21) (.build [(.int .i64 0), (.str []), (.lst [] .nil), (.lst [] .nil)] [(0, (1, (.const (.int .i64 8)))), (1, (1, (.tmp 20)))]) none), (.mk none (.store 4 (.tmp 4) (.tmp 21)) none)]) .ret)) .skip))) (.seq (.block 0 (.seq (.ops [(.mk (some 23) (.mv (.tmp 0)) none), (.mk (some 24) (.call 221 [(.tmp 23), (.const (.str [105, 110, 116]))]) none), (.mk (some 22) (.mv (.tmp 24)) none)]) (.cond (.tmp 22) (.seq (.ops [(.mk (some 25) (.build [(.int .i64 0), (.str []), (.lst [] .nil), (.lst [] .nil)] [(0, (1, (.const (.int .i64 1))))]) none), (.mk none (.store 4 (.tmp 4) (.tmp 25)) none)]) .ret) (.seq (.ops [(.mk (some 27) (.mv (.tmp 0)) none), (.mk (some 28) (.call 221 [(.tmp 27), (.const (.str [98, 111, 111, 108]))]) none), (.mk (some 26) (.mv (.tmp 28)) none)]) (.cond (.tmp 26) (.seq (.ops [(.mk (some 29) (.build [(.int .i64 0), (.str []), (.lst [] .nil), (.lst [] .nil)] [(0, (1, (.const (.int .i64 2))))]) none), (.mk none (.store 4 (.tmp 4) (.tmp 29)) none)]) .ret) (.seq (.ops [(.mk (some 31) (.mv (.tmp 0)) none), (.mk (some 32) (.call 221 [(.tmp 31), (.const (.str [116, 101, 120, 116]))]) none), (.mk (some 30) (.mv (.tmp 32)) none)]) (.cond (.tmp 30) (.seq (.ops [(.mk (some 33) (.build [(.int .i64 0), (.str []), (.lst [] .nil), (.lst [] .nil)] [(0, (1, (.const (.int .i64 3))))]) none), (.mk none (.store 4 (.tmp 4) (.tmp 33)) none)]) .ret) (.seq (.ops [(.mk (some 35) (.mv (.tmp 0)) none), (.mk (some 36) (.call 221 [(.tmp 35), (.const (.str [63]))]) none), (.mk (some 34) (.mv (.tmp 36)) none)]) (.cond (.tmp 34) (.seq (.ops [(.mk (some 37) (.build [(.int .i64 0), (.str []), (.lst [] .nil), (.lst [] .nil)] [(0, (1, (.const (.int .i64 4))))]) none), (.mk none (.store 4 (.tmp 4) (.tmp 37)) none)]) .ret) (.seq (.ops [(.mk (some 39) (.mv (.tmp 0)) none), (.mk (some 40) (.call 221 [(.tmp 39), (.const (.str [123]))]) none), (.mk (some 38) (.mv (.tmp 40)) none)]) (.cond (.tmp 38) (.seq (.ops [(.mk (some 41) (.mv (.tmp 0)) none), (.mk (some 42) (.mv (.tmp 1)) none), (.mk (some 43) (.call 293 [(.tmp 41), (.tmp 42)]) none), (.mk none (.store 4 (.tmp 4) (.tmp 43)) none)]) .ret) .skip))))))))))) (.seq (.ops [(.mk (some 44) (.mv (.tmp 0)) none), (.mk (some 45) (.call 260 [(.tmp 44), (.const (.str [40]))]) none)]) (.seq (.ops [(.mk (some 46) (.mv (.tmp 0)) none), (.mk (some 47) (.mv (.tmp 1)) none), (.mk (some 48) (.bin .add (.tmp 47) (.const (.int .i64 1))) none), (.mk (some 49) (.call 184 [(.tmp 46), (.tmp 48)]) none), (.mk (some 6) (.alloc [(.int .i64 0), (.str []), (.lst [] .nil), (.lst [] .nil)] 175) none), (.mk none (.store 4 (.tmp 6) (.tmp 49)) none)]) (.seq (.ops [(.mk (some 50) (.mv (.tmp 0)) none), (.mk (some 51) (.call 260 [(.tmp 50), (.const (.str [41]))]) none)]) (.seq (.ops [(.mk (some 52) (.load (some 4) (.tmp 6)) none), (.mk none (.store 4 (.tmp 4) (.tmp 52)) none)]) .ret))))))))
def c_293 : AFunc := (.mk 2 34 [(.cell 4 (some 4))] (.seq (.ops [(.mk (some 2) (.box 225 (.tmp 0)) none), (.mk (some 3) (.box 4 (.tmp 1)) none), (.mk (some 4) (.alloc [(.int .i64 0), (.str []), (.lst [] .nil), (.lst [] .nil)] 175) none)]) (.seq (.ops [(.mk (some 5) (.alloc [(.lst [] .nil)] 43) none)]) (.seq (.ops [(.mk (some 10) .mkMap none), (.mk (some 6) (.alloc [.nilmap] 231) none), (.mk none (.store 1 (.tmp 6) (.tmp 10)) none)]) (.seq (.ops [(.mk (some 11) (.load none (.tmp 2)) none), (.mk (some 12) (.mkF (.func 307) [] [(.tmp 2), (.tmp 3), (.tmp 5), (.tmp 6)]) none), (.mk (some 13) (.call 306 [(.tmp 11), (.const (.str [58])), (.tmp 12)]) none)]) (.seq (.ops [(.mk (some 14) (.load none (.tmp 5)) none), (.mk (some 15) (.call 200 [(.tmp 14)]) none)]) (.seq (.ops [(.mk (some 16) (.load none (.tmp 5)) none), (.mk (some 17) (.build [(.int .i64 0), (.str []), (.lst [] .nil), (.lst [] .nil)] [(0, (1, (.const (.int .i64 5)))), (2, (1, (.tmp 16)))]) none), (.mk (some 7) (.alloc [(.int .i64 0), (.str []), (.lst [] .nil), (.lst [] .nil)] 175) none), (.mk none (.store 4 (.tmp 7) (.tmp 17)) none)]) (.seq (.seq (.ops [(.mk (some 18) (.load none (.tmp 5)) none), (.mk (some 19) (.lenL (.tmp 18)) none), (.mk (some 20) (.mv (.const (.int .i64 0))) none)]) (.block 0 (.loop (.seq (.ops [(.mk (some 21) (.bin .lss (.tmp 20) (.tmp 19)) none)]) (.seq (.cond (.tmp 21) .skip (.exit 0)) (.seq (.block 1 (.seq (.ops [(.mk (some 22) (.iaddr 1 (.tmp 18) (.tmp 20)) none), (.mk (some 23) (.load none (.tmp 22)) none), (.mk (some 9) (.mv (.tmp 23)) none)]) (.ops [(.mk (some 24) (.faddr 3 (.tmp 7)) none), (.mk (some 25) (.load none (.tmp 24)) none), (.mk (some 26) (.load none (.tmp 6)) none), (.mk (some 27) (.mv (.tmp 9)) none), (.mk (some 28) (.look 1 (.agg [(.int .i64 0), (.str []), (.lst [] .nil), (.lst [] .nil)]) false (.tmp 26) (.tmp 27)) none), (.mk (some 29) (.lit 4 72 [] 1 [(0, (.tmp 28))]) none), (.mk (some 30) (.append 4 72 175 (.tmp 25) (.tmp 29)) none), (.mk (some 31) (.faddr 3 (.tmp 7)) none), (.mk none (.store 1 (.tmp 31) (.tmp 30)) none)]))) (.ops [(.mk (some 32) (.bin .add (.tmp 20) (.const (.int .i64 1))) none), (.mk (some 20) (.mv (.tmp 32)) none)]))))))) (.seq (.ops [(.mk (some 33) (.load (some 4) (.tmp 7)) none), (.mk none (.store 4 (.tmp 4) (.tmp 33)) none)]) .ret)))))))))
def c_307 : AFunc := (.mk 5 20 [] (.seq (.ops [(.mk (some 7) (.load none (.tmp 1)) none), (.mk (some 8) (.load none (.tmp 2)) none), (.mk (some 9) (.bin .add (.tmp 8) (.const (.int .i64 1))) none), (.mk (some 10) (.call 184 [(.tmp 7), (.tmp 9)]) none), (.mk (some 6) (.alloc [(.int .i64 0), (.str []), (.lst [] .nil), (.lst [] .nil)] 175) none), (.mk none (.store 4 (.tmp 6) (.tmp 10)) none)]) (.seq (.ops [(.mk (some 11) (.mv (.tmp 0)) none), (.mk (some 12) (.bin .neq (.tmp 11) (.const (.str []))) none)]) (.cond (.tmp 12) (.seq (.ops [(.mk (some 13) (.load none (.tmp 3)) none), (.mk (some 14) (.mv (.tmp 0)) none), (.mk (some 15) (.lit 1 16 [] 1 [(0, (.tmp 14))]) none), (.mk (some 16) (.append 1 16 10 (.tmp 13) (.tmp 15)) none), (.mk none (.store 1 (.tmp 3) (.tmp 16)) none)]) (.ops [(.mk (some 17) (.load none (.tmp 4)) none), (.mk (some 18) (.mv (.tmp 0)) none), (.mk (some 19) (.load (some 4) (.tmp 6)) none), (.mk none (.mupd 1 (.tmp 17) (.tmp 18) (.tmp 19)) none)])) .skip))))
def c_306 : AFunc := (.mk 3 57 [] (.seq (.ops [(.mk (some 6) (.mv (.const (.lst [] .nil))) none)]) (.seq (.seq (.ops [(.mk (some 7) (.mv (.const (.bool true))) none)]) (.block 0 (.loop (.seq (.seq (.ops [(.mk (some 9) (.mv (.tmp 0)) none), (.mk (some 10) (.call 250 [(.tmp 9), (.const (.str [125]))]) none), (.mk (some 11) (.un .not (.tmp 10)) none)]) (.cond (.tmp 11) .skip (.exit 0))) (.seq (.block 1 (.seq (.seq (.ops [(.mk (some 12) (.mv (.tmp 7)) none), (.mk (some 13) (.un .not (.tmp 12)) none)]) (.cond (.tmp 13) (.ops [(.mk (some 14) (.mv (.tmp 0)) none), (.mk (some 15) (.call 260 [(.tmp 14), (.const (.str [44]))]) none)]) .skip)) (.seq (.ops [(.mk (some 16) (.mv (.tmp 0)) none), (.mk (some 17) (.call 259 [(.tmp 16)]) none), (.mk (some 8) (.alloc [(.int .i64 0), (.int .i64 0), (.str [])] 282) none), (.mk none (.store 3 (.tmp 8) (.tmp 17)) none)]) (.seq (.ops [(.mk (some 18) (.mv (.tmp 0)) none), (.mk (some 19) (.mv (.tmp 1)) none), (.mk (some 20) (.call 260 [(.tmp 18), (.tmp 19)]) none)]) (.seq (.seq (.ops [(.mk (some 21) (.mv (.tmp 6)) none), (.mk (some 22) (.faddr 2 (.tmp 8)) none), (.mk (some 23) (.load none (.tmp 22)) none), (.mk (some 24) (.call 318 [(.tmp 21), (.tmp 23)]) none)]) (.cond (.tmp 24) (.seq (.draw [(.mk (some 25) (.mv (.tmp 0)) none), (.mk (some 26) (.mv (.tmp 0)) none), (.mk (some 27) (.nilck (.tmp 26)) none), (.mk (some 28) (.faddr 2 (.tmp 27)) none), (.mk (some 29) (.load none (.tmp 28)) none), (.mk (some 30) (.faddr 1 (.tmp 8)) none), (.mk (some 31) (.load none (.tmp 30)) none), (.mk (some 32) (.faddr 2 (.tmp 8)) none), (.mk (some 33) (.load none (.tmp 32)) none), (.mk (some 34) (.build [(.int .i64 0), (.int .i64 0), (.str [])] [(0, (1, (.tmp 31))), (1, (1, (.const (.int .i64 4)))), (2, (1, (.tmp 33)))]) none), (.mk (some 35) (.lit 3 32 [] 1 [(0, (.tmp 34))]) none)] [(.mk (some 36) (.append 3 32 333 (.tmp 29) (.tmp 35)) none), (.mk (some 37) (.nilck (.tmp 25)) none), (.mk (some 38) (.faddr 2 (.tmp 37)) none), (.mk none (.store 1 (.tmp 38) (.tmp 36)) none)]) (.seq (.ops [(.mk (some 39) (.mv (.tmp 2)) none), (.mk (some 40) (.callv (.tmp 39) [(.const (.str []))]) none)]) (.exit 1))) .skip)) (.seq (.ops [(.mk (some 41) (.mv (.tmp 6)) none), (.mk (some 42) (.faddr 2 (.tmp 8)) none), (.mk (some 43) (.load none (.tmp 42)) none), (.mk (some 44) (.lit 1 16 [] 1 [(0, (.tmp 43))]) none), (.mk (some 45) (.append 1 16 10 (.tmp 41) (.tmp 44)) none), (.mk (some 6) (.mv (.tmp 45)) none)]) (.ops [(.mk (some 46) (.mv (.tmp 2)) none), (.mk (some 47) (.faddr 2 (.tmp 8)) none), (.mk (some 48) (.load none (.tmp 47)) none), (.mk (some 49) (.callv (.tmp 46) [(.tmp 48)]) none)]))))))) (.ops [(.mk (some 7) (.mv (.const (.bool false))) none)])))))) (.ops [(.mk (some 50) (.mv (.tmp 0)) none), (.mk (some 51) (.nilck (.tmp 50)) none), (.mk (some 52) (.faddr 1 (.tmp 51)) none), (.mk (some 53) (.load none (.tmp 52)) none), (.mk (some 54) (.bin .add (.tmp 53) (.const (.int .i64 1))) none), (.mk (some 55) (.nilck (.tmp 50)) none), (.mk (some 56) (.faddr 1 (.tmp 55)) none), (.mk none (.store 1 (.tmp 56) (.tmp 54)) none)]))))
def c_182 : AFunc := (.mk 2 35 [(.tmp 4)] (.seq (.ops [(.mk (some 3) (.box 227 (.tmp 1)) none), (.mk (some 4) (.mv (.const (.bool false))) none)]) (.seq (.ops [(.mk (some 10) (.mv (.tmp 0)) none), (.mk (some 11) (.call 215 [(.tmp 10)]) none), (.mk (some 9) (.mv (.tmp 11)) none), (.mk (some 12) (.ext (.tmp 9) 0) none), (.mk (some 13) (.ext (.tmp 9) 1) none), (.mk (some 5) (.mv (.tmp 12)) none), (.mk (some 6) (.mv (.tmp 13)) none)]) (.seq (.ops [(.mk (some 14) (.mv (.tmp 5)) none), (.mk (some 15) (.mv (.tmp 6)) none), (.mk (some 16) (.build [(.lst [] .nil), (.int .i64 0), (.lst [] .nil)] [(0, (1, (.tmp 14))), (2, (1, (.tmp 15)))]) none), (.mk (some 17) (.box 280 (.tmp 16)) none), (.mk (some 7) (.alloc [.nilptr] 225) none), (.mk none (.store 1 (.tmp 7) (.tmp 17)) none)]) (.seq (.ops [(.mk (some 18) (.mkF (.func 217) [] [(.tmp 3), (.tmp 7)]) none), (.mk (some 19) (.call 216 [(.tmp 18)]) none), (.mk (some 8) (.mv (.tmp 19)) none)]) (.seq (.ops [(.mk (some 20) (.mv (.tmp 8)) none), (.mk (some 21) (.mv (.tmp 20)) none), (.mk (some 22) (.load none (.tmp 7)) (some (21, true))), (.mk (some 23) (.call 218 [(.tmp 22)]) (some (21, true))), (.mk (some 24) (.fld 0 none (.tmp 23)) (some (21, true))), (.mk (some 25) (.bin .eql (.tmp 24) (.const (.int .i64 6))) (some (21, true))), (.mk (some 26) (.pick (.tmp 21) (.tmp 25) (.const (.bool false))) none), (.mk (some 27) (.mv (.tmp 26)) none), (.mk (some 28) (.load none (.tmp 7)) (some (27, true))), (.mk (some 29) (.nilck (.tmp 28)) (some (27, true))), (.mk (some 30) (.faddr 2 (.tmp 29)) (some (27, true))), (.mk (some 31) (.load none (.tmp 30)) (some (27, true))), (.mk (some 32) (.lenL (.tmp 31)) (some (27, true))), (.mk (some 33) (.bin .eql (.tmp 32) (.const (.int .i64 0))) (some (27, true))), (.mk (some 34) (.pick (.tmp 27) (.tmp 33) (.const (.bool false))) none), (.mk (some 4) (.mv (.tmp 34)) none)]) .ret))))))
def c_217 : AFunc := (.mk 2 5 [] (.ops [(.mk (some 2) (.load none (.tmp 0)) none), (.mk (some 3) (.load none (.tmp 1)) none), (.mk (some 4) (.callv (.tmp 2) [(.tmp 3)]) none)]))
def c_142 : AFunc := (.mk 1 11 [(.cell 2 (some 4)), (.tmp 3)] (.seq (.ops [(.mk (some 2) (.alloc [(.int .i64 0), (.str []), (.lst [] .nil), (.lst [] .nil)] 175) none), (.mk (some 3) (.mv (.const (.bool false))) none)]) (.seq (.ops [(.mk (some 4) (.alloc [(.int .i64 0), (.str []), (.lst [] .nil), (.lst [] .nil)] 175) none)]) (.seq (.seq (.ops [(.mk (some 5) (.mv (.tmp 0)) none), (.mk (some 6) (.mkF (.func 183) [] [(.tmp 4)]) none), (.mk (some 7) (.call 182 [(.tmp 5), (.tmp 6)]) none), (.mk (some 8) (.un .not (.tmp 7)) none)]) (.cond (.tmp 8) (.seq (.ops [(.mk (some 9) (.build [(.int .i64 0), (.str []), (.lst [] .nil), (.lst [] .nil)] []) none), (.mk none (.store 4 (.tmp 2) (.tmp 9)) none), (.mk (some 3) (.mv (.const (.bool false))) none)]) .ret) .skip)) (.seq (.ops [(.mk (some 10) (.load (some 4) (.tmp 4)) none), (.mk none (.store 4 (.tmp 2) (.tmp 10)) none), (.mk (some 3) (.mv (.const (.bool true))) none)]) .ret)))))
def c_183 : AFunc := (.mk 2 5 [] (.ops [(.mk (some 3) (.mv (.tmp 0)) none), (.mk (some 4) (.call 184 [(.tmp 3), (.const (.int .i64 1))]) none), (.mk none (.store 4 (.tmp 1) (.tmp 4)) none)]))
def c_318 : AFunc := (.mk 2 9 [(.tmp 4)] (.seq (.ops [(.mk (some 4) (.mv (.const (.bool false))) none)]) (.seq (.ops [(.mk (some 5) (.mv (.tmp 0)) none), (.mk (some 6) (.mv (.tmp 1)) none), (.mk (some 7) (.call 28 [(.tmp 5), (.tmp 6)]) none), (.mk (some 8) (.bin .geq (.tmp 7) (.const (.int .i64 0))) none), (.mk (some 4) (.mv (.tmp 8)) none)]) .ret)))
def c_28 : AFunc := (.mk 2 19 [(.tmp 4)] (.seq (.ops [(.mk (some 4) (.mv (.const (.int .i64 0))) none)]) (.seq (.seq (.ops [(.mk (some 6) (.mv (.tmp 0)) none), (.mk (some 7) (.lenL (.tmp 6)) none), (.mk (some 8) (.mv (.const (.int .i64 0))) none)]) (.block 0 (.loop (.seq (.ops [(.mk (some 9) (.bin .lss (.tmp 8) (.tmp 7)) none)]) (.seq (.cond (.tmp 9) .skip (.exit 0)) (.seq (.block 1 (.seq (.ops [(.mk (some 10) (.mv (.tmp 8)) none), (.mk (some 5) (.mv (.tmp 10)) none)]) (.seq (.ops [(.mk (some 11) (.mv (.tmp 1)) none), (.mk (some 12) (.mv (.tmp 0)) none), (.mk (some 13) (.mv (.tmp 5)) none), (.mk (some 14) (.iaddr 1 (.tmp 12) (.tmp 13)) none), (.mk (some 15) (.load none (.tmp 14)) none), (.mk (some 16) (.bin .eql (.tmp 11) (.tmp 15)) none)]) (.cond (.tmp 16) (.seq (.ops [(.mk (some 17) (.mv (.tmp 5)) none), (.mk (some 4) (.mv (.tmp 17)) none)]) .ret) .skip)))) (.ops [(.mk (some 18) (.bin .add (.tmp 8) (.const (.int .i64 1))) none), (.mk (some 8) (.mv (.tmp 18)) none)]))))))) (.seq (.ops [(.mk (some 4) (.mv (.const (.int .i64 (-1)))) none)]) .ret))))
end Go.Ag
/- Abstract codes, printed by a program of ours (acode.py) out of the given program's form. -/
namespace Go.Ag
open Go
end Go.Ag
/- Package cupelref04: the document's tokens. -/
set_option linter.unusedVariables false
namespace Go.Ag
open Go

variable {T : Tab} {L : Lnk}
abbrev Bytes := List UInt8

def inA (c : UInt8) (s : Bytes) : Bool := s.any (· == c)

theorem str_at {s : Bytes} {k : Nat} (h : k < s.length) : s[((k : Nat) : Int).toNat]? = some s[k] := by rw [Int.toNat_natCast]; exact List.getElem?_eq_getElem h
theorem step_at {s : Bytes} {k : Nat} {P : UInt8 → Prop} (h : k < s.length) (hp : P s[k]) : 0 ≤ (k : Int) ∧ (match s[((k : Nat) : Int).toNat]? with
    | some c => P c
    | none => False) := ⟨by omega, by rw [str_at h]; exact hp⟩
theorem lt_true {a b : Nat} (h : a < b) : decide ((a : Int) < (b : Int)) = true := by simp; omega
theorem lt_false {a b : Nat} (h : b ≤ a) : decide ((a : Int) < (b : Int)) = false := by simp; omega
def spanA (p : UInt8 → Bool) (src : Bytes) (from_ : Nat) : Nat := from_ + ((src.drop from_).takeWhile p).length
def whileA (src : Bytes) (from_ : Nat) (some : Bytes) : Nat := spanA (inA · some) src from_
def untilA (src : Bytes) (from_ : Nat) (some : Bytes) : Nat := spanA (fun c => !inA c some) src from_

theorem span_yes {p : UInt8 → Bool} {src : Bytes} {k : Nat} (h : k < src.length) (hp : p src[k] = true) : spanA p src k = spanA p src (k + 1) := by
  unfold spanA
  rw [List.drop_eq_getElem_cons h, List.takeWhile_cons_of_pos hp]
  simp; omega
theorem span_no {p : UInt8 → Bool} {src : Bytes} {k : Nat} (h : k < src.length) (hp : p src[k] = false) : spanA p src k = k := by
  unfold spanA
  rw [List.drop_eq_getElem_cons h, List.takeWhile_cons_of_neg (by simp [hp])]
  simp
theorem span_end {p : UInt8 → Bool} {src : Bytes} {k : Nat} (h : src.length ≤ k) : spanA p src k = k := by
  unfold spanA
  rw [List.drop_eq_nil_of_le h]
  simp
theorem span_le {p : UInt8 → Bool} {src : Bytes} {k : Nat} (h : k ≤ src.length) : k ≤ spanA p src k ∧ spanA p src k ≤ src.length := by
  unfold spanA
  have := (List.takeWhile_prefix p (l := src.drop k)).length_le
  simp only [List.length_drop] at this
  omega
def wordsL : List Bytes := [[117, 115, 101], [116, 121, 112, 101], [108, 101, 116], [105, 110], [105, 102], [116, 104, 101, 110], [101, 108, 115, 101], [102, 117, 110], [116, 114, 117, 101], [102, 97, 108, 115, 101], [105, 110, 116], [98, 111, 111, 108], [116, 101, 120, 116]]
def wordA (s : Bytes) : Bool := wordsL.any (· == s)
def strsL (l : List Bytes) : List AVal := l.map .str

end Go.Ag
/- Package cupelref04: Lex. -/
set_option linter.unusedVariables false
namespace Go.Ag
open Go

variable {T : Tab} {L : Lnk}

structure TokA where
  kind : Int
  at_ : Int
  text : Bytes
  deriving DecidableEq
structure DiagA where
  at_ : Int
  code : Int
  name : Bytes
  deriving DecidableEq
def TokA.av (t : TokA) : AVal := .agg [.int .i64 t.kind, .int .i64 t.at_, .str t.text]
def DiagA.av (t : DiagA) : AVal := .agg [.int .i64 t.at_, .int .i64 t.code, .str t.name]

def wsL : Bytes := [32, 9, 10, 13]
def digitsL : Bytes := [48, 49, 50, 51, 52, 53, 54, 55, 56, 57]
def smallL : Bytes := [97, 98, 99, 100, 101, 102, 103, 104, 105, 106, 107, 108, 109, 110, 111, 112, 113, 114, 115, 116, 117, 118, 119, 120, 121, 122, 95]
def alnumL : Bytes := [97, 98, 99, 100, 101, 102, 103, 104, 105, 106, 107, 108, 109, 110, 111, 112, 113, 114, 115, 116, 117, 118, 119, 120, 121, 122, 95, 48, 49, 50, 51, 52, 53, 54, 55, 56, 57]
def signsL : Bytes := [61, 58, 59, 44, 46, 40, 41, 123, 125, 124, 63]
def subA (src : Bytes) (i j : Nat) : Bytes := (src.take j).drop i

def lexStep (src : Bytes) (at_ : Nat) (c : UInt8) : Nat × List TokA × List DiagA :=
  if inA c wsL = true then (at_ + 1, [], [])
  else if (c == 35) = true then (untilA src at_ [10], [], [])
  else if inA c smallL = true then (whileA src at_ alnumL, [⟨if wordA (subA src at_ (whileA src at_ alnumL)) = true then 2 else 1, at_, subA src at_ (whileA src at_ alnumL)⟩], [])
  else if inA c digitsL = true then
    if 18 < whileA src at_ digitsL - at_ then (whileA src at_ digitsL, [⟨3, at_, [48]⟩], [⟨at_, 13, []⟩]) else (whileA src at_ digitsL, [⟨3, at_, subA src at_ (whileA src at_ digitsL)⟩], [])
  else if (c == 34) = true then
    if src[untilA src (at_ + 1) [34, 10]]? = some 34 then (untilA src (at_ + 1) [34, 10] + 1, [⟨4, at_, subA src (at_ + 1) (untilA src (at_ + 1) [34, 10])⟩], [])
    else (untilA src (at_ + 1) [34, 10], [], [⟨at_, 1, []⟩])
  else if (c == 45) = true ∧ src[at_ + 1]? = some 62 then (at_ + 2, [⟨5, at_, [45, 62]⟩], [])
  else if inA c signsL = true then (at_ + 1, [⟨5, at_, subA src at_ (at_ + 1)⟩], [])
  else (at_ + 1, [], [⟨at_, 1, []⟩])

def lexGo (src : Bytes) : Nat → Nat → List TokA → List DiagA → List TokA × List DiagA
  | 0, _, l, d => (l, d)
  | n + 1, k, l, d => match src[k]? with
    | some c => lexGo src n (lexStep src k c).1 (l ++ (lexStep src k c).2.1) (d ++ (lexStep src k c).2.2)
    | none => (l, d)

def lexA (src : Bytes) : List TokA × List DiagA :=
  ((lexGo src src.length 0 [] []).1 ++ [⟨6, src.length, []⟩], (lexGo src src.length 0 [] []).2)

theorem sized_toks (l : List TokA) : Sized 3 (l.map TokA.av) := fun x hx => by
  obtain ⟨t, _, rfl⟩ := List.mem_map.1 hx
  exact ⟨rfl, rfl⟩
theorem sized_diags (l : List DiagA) : Sized 3 (l.map DiagA.av) := fun x hx => by
  obtain ⟨t, _, rfl⟩ := List.mem_map.1 hx
  exact ⟨rfl, rfl⟩
theorem sized_one {k : Nat} {x : AVal} (h : okB k x = true) : Sized k [x] := fun y hy => by simp only [List.mem_singleton] at hy; subst hy; exact okB_ok h

theorem alnum_of {c : UInt8} (h : inA c smallL = true) : inA c alnumL = true := by
  unfold inA at h ⊢
  rw [show alnumL = smallL ++ digitsL from rfl, List.any_append, h]; rfl

theorem low_tok (n : Nat) (x : TokA) : Low n x.av := .agg _ fun y hy => by simp only [List.mem_cons, List.not_mem_nil, or_false] at hy; rcases hy with rfl | rfl | rfl <;> constructor
theorem low_diag (n : Nat) (x : DiagA) : Low n x.av := .agg _ fun y hy => by simp only [List.mem_cons, List.not_mem_nil, or_false] at hy; rcases hy with rfl | rfl | rfl <;> constructor
theorem low_toks (n : Nat) (l : List TokA) (tk : Tok) (h : tokLow n tk) : Low n (.lst (l.map TokA.av) tk) := .lst _ _ h fun x hx => by
  obtain ⟨t, _, rfl⟩ := List.mem_map.1 hx
  exact low_tok n t
theorem low_diags (n : Nat) (l : List DiagA) (tk : Tok) (h : tokLow n tk) : Low n (.lst (l.map DiagA.av) tk) := .lst _ _ h fun x hx => by
  obtain ⟨t, _, rfl⟩ := List.mem_map.1 hx
  exact low_diag n t

end Go.Ag
/- Package cupelref05: the reader, its small methods. -/
set_option linter.unusedVariables false
namespace Go.Ag
open Go

variable {T : Tab} {L : Lnk}

inductive TA where
  | mk (kind : Int) (name : Bytes) (names : List Bytes) (l : List TA)
inductive EA where
  | mk (kind at_ : Int) (name : Bytes) (n : Int) (names : List Bytes) (l : List EA) (ts : List TA)
structure DeclA where
  kind : Int
  at_ : Int
  name : Bytes
  ts : List TA
  es : List EA

def strA (l : List Bytes) : List AVal := l.map .str
mutual
def TA.av : TA → AVal
  | .mk k n ns l => .agg [.int .i64 k, .str n, .lst (strA ns) .none, .lst (TA.avs l) .none]
def TA.avs : List TA → List AVal
  | [] => []
  | t :: l => t.av :: TA.avs l
end
mutual
def EA.av : EA → AVal
  | .mk k p n m ns l ts => .agg [.int .i64 k, .int .i64 p, .str n, .int .i64 m, .lst (strA ns) .none, .lst (EA.avs l) .none, .lst (TA.avs ts) .none]
def EA.avs : List EA → List AVal
  | [] => []
  | t :: l => t.av :: EA.avs l
end
def DeclA.av (d : DeclA) : AVal := .agg [.int .i64 d.kind, .int .i64 d.at_, .str d.name, .lst (TA.avs d.ts) .none, .lst (EA.avs d.es) .none]

theorem low_strs' (n : Nat) (l : List Bytes) (tk : Tok) (h : tokLow n tk) : Low n (.lst (strA l) tk) := .lst _ _ h fun x hx => by
  obtain ⟨s, _, rfl⟩ := List.mem_map.1 hx
  exact .str s
theorem low_ta (n : Nat) (t : TA) : Low n t.av := TA.rec (motive_1 := fun t => Low n t.av) (motive_2 := fun l => ∀ x ∈ TA.avs l, Low n x)
  (fun k nm ns l ih => .agg _ fun y hy => by
    simp only [List.mem_cons, List.not_mem_nil, or_false] at hy
    rcases hy with rfl | rfl | rfl | rfl
    · exact .int _ _
    · exact .str _
    · exact low_strs' n ns _ trivial
    · exact .lst _ _ trivial ih)
  (fun x hx => by cases hx) (fun t l h1 h2 x hx => by
    rcases List.mem_cons.1 hx with rfl | hx
    · exact h1
    · exact h2 x hx) t
theorem low_tas (n : Nat) : ∀ (l : List TA), ∀ x ∈ TA.avs l, Low n x
  | [], x, hx => by cases hx
  | t :: l, x, hx => by
    rcases List.mem_cons.1 hx with rfl | hx
    · exact low_ta n t
    · exact low_tas n l x hx
theorem sized_tas : ∀ (l : List TA), Sized 4 (TA.avs l)
  | [], x, hx => by cases hx
  | .mk k n ns ll :: l, x, hx => by
    rcases List.mem_cons.1 hx with rfl | hx
    · exact okB_ok (by rw [TA.av]; rfl)
    · exact sized_tas l x hx
theorem tas_append (a b : List TA) : TA.avs (a ++ b) = TA.avs a ++ TA.avs b := by
  induction a with
  | nil => rfl
  | cons x a ih => rw [List.cons_append, TA.avs, TA.avs, ih]; rfl
theorem tas_len (a : List TA) : (TA.avs a).length = a.length := by
  induction a with
  | nil => rfl
  | cons x a ih => rw [TA.avs, List.length_cons, ih]; rfl
structure RS where
  toks : List TokA
  i : Nat
  diags : List DiagA
  bad : Bool

def zeroTok : TokA := ⟨0, 0, []⟩
def RS.tok (s : RS) : TokA := s.toks.getD s.i zeroTok
def RS.pot (s : RS) : Nat := s.diags.length + 2 * (s.toks.length - s.i) + if s.bad then 0 else 1
structure RS.ok (s : RS) : Prop where
  lt : s.i < s.toks.length
  more : ∀ j t, s.toks[j]? = some t → t.kind ≠ 6 → j + 1 < s.toks.length
  len : s.toks.length ≤ 2 ^ 33
  txt : ∀ t ∈ s.toks, t.text.length ≤ 2 ^ 40
  room : s.pot ≤ 2 ^ 35
  named : ∀ t ∈ s.toks, t.kind = 1 → t.text ≠ []
def robj (s : RS) : AObj := .cells [.lst (s.toks.map TokA.av) .none, .int .i64 s.i, .lst (s.diags.map DiagA.av) (dtok s.diags.length 0), .bool s.bad] 83
def dobjR (s : RS) : AObj := dobj s.diags.length 127

def RC (L : Lnk) (f : Nat) (args : List AVal) (s : RS) (y : AVal) (s' : RS) : Prop := Call2 L f (.ptr 1 0 :: args) (dobjR s) (robj s) y (dobjR s') (robj s')

theorem tok_at {s : RS} (h : s.ok) : s.toks[s.i]? = some s.tok := by
  unfold RS.tok
  rw [List.getD_eq_getElem?_getD, List.getElem?_eq_getElem h.lt]; rfl
theorem step_tok {s : RS} (h : s.ok) {P : AVal → Prop} (hp : P (.agg [.int .i64 s.tok.kind, .int .i64 s.tok.at_, .str s.tok.text])) : 0 ≤ (s.i : Int) ∧ (match (s.toks.map TokA.av)[((s.i : Nat) : Int).toNat]? with
    | some y => y.cells.length = 3 ∧ P y
    | none => False) := ⟨by omega, by rw [Int.toNat_natCast, List.getElem?_map, tok_at h]; exact ⟨rfl, hp⟩⟩

def isR (s : RS) (w : Bytes) : Bool := !s.bad && ((s.tok.kind == 2 || s.tok.kind == 5) && s.tok.text == w)
def giveR (s : RS) (code : Int) : RS := if s.bad then s else { s with diags := s.diags ++ [⟨s.tok.at_, code, if code = 2 then s.tok.text else []⟩], bad := true }
def takeR (s : RS) (w : Bytes) : RS := if isR s w then { s with i := s.i + 1 } else giveR s 2
def nameR (s : RS) : TokA × RS := if s.bad then (zeroTok, s) else if s.tok.kind = 1 then (s.tok, { s with i := s.i + 1 }) else (zeroTok, giveR s 2)

structure RS.le (s s' : RS) : Prop where
  toks : s'.toks = s.toks
  i : s.i ≤ s'.i
  lt : s'.i < s.toks.length
  pot : s'.pot ≤ s.pot
theorem RS.le.refl {s : RS} (h : s.ok) : s.le s := ⟨rfl, Nat.le_refl _, h.lt, Nat.le_refl _⟩
theorem RS.le.trans {a b c : RS} (h : a.le b) (h' : b.le c) : a.le c := ⟨h'.toks.trans h.toks, Nat.le_trans h.i h'.i, by rw [← h.toks]; exact h'.lt, Nat.le_trans h'.pot h.pot⟩
theorem RS.ok.of {s s' : RS} (hs : s.ok) (h : s.le s') : s'.ok := ⟨by rw [h.toks]; exact h.lt, by rw [h.toks]; exact hs.more, by rw [h.toks]; exact hs.len, by rw [h.toks]; exact hs.txt, Nat.le_trans h.pot hs.room, by rw [h.toks]; exact hs.named⟩
def RS.rem (s : RS) : Nat := s.toks.length - s.i
theorem RS.le.rem {s s' : RS} (h : s.le s') : s'.rem ≤ s.rem := by unfold RS.rem; rw [h.toks]; have := h.i; omega

theorem give_le {s : RS} (hs : s.ok) (code : Int) : s.le (giveR s code) := by
  unfold giveR
  cases hb : s.bad
  · refine ⟨rfl, Nat.le_refl _, hs.lt, ?_⟩
    simp only [RS.pot, hb]
    simp
    omega
  · exact RS.le.refl hs
theorem next_le {s : RS} (hs : s.ok) (h : s.tok.kind ≠ 6) : s.le { s with i := s.i + 1 } :=
  ⟨rfl, Nat.le_succ _, hs.more s.i s.tok (tok_at hs) h, by simp only [RS.pot]; omega⟩
theorem is_kind {s : RS} {w : Bytes} (h : isR s w = true) : s.tok.kind ≠ 6 ∧ s.bad = false ∧ s.tok.text = w ∧ (s.tok.kind = 2 ∨ s.tok.kind = 5) := by
  simp only [isR, Bool.and_eq_true, Bool.or_eq_true, beq_iff_eq, Bool.not_eq_true'] at h
  refine ⟨by rcases h.2.1 with h | h <;> omega, h.1, h.2.2, h.2.1⟩
theorem take_le {s : RS} (hs : s.ok) (w : Bytes) : s.le (takeR s w) := by
  unfold takeR
  split
  · rename_i h; exact next_le hs (is_kind h).1
  · exact give_le hs 2
theorem name_le {s : RS} (hs : s.ok) : s.le (nameR s).2 := by
  unfold nameR
  split
  · exact RS.le.refl hs
  · split
    · rename_i h; exact next_le hs (by omega)
    · exact give_le hs 2

theorem low1 {n : Nat} {x : AVal} (h : Low n x) : ∀ y ∈ [x], Low n y := fun y hy => by simp only [List.mem_singleton] at hy; subst hy; exact h
theorem low0 {n : Nat} : ∀ y ∈ ([] : List AVal), Low n y := fun y hy => by cases hy
theorem low_unit {n : Nat} : Low n (.tup []) := .tup _ low0
theorem addN {k : Nat} (h : k ≤ 2 ^ 60) : IntKind.i64.wrap ((k : Int) + 1) = ((k + 1 : Nat) : Int) := by rw [IntWalk.i64_in _ (by omega)]; omega
theorem RS.ok.i {s : RS} (h : s.ok) : s.i ≤ 2 ^ 60 := by have := h.lt; have := h.len; omega

end Go.Ag
/- Package cupelref05: has, Insert, Number. -/
set_option linter.unusedVariables false
namespace Go.Ag
open Go

variable {T : Tab} {L : Lnk}

def hasR (l : List Bytes) (s : Bytes) : Bool := l.any (· == s)

theorem sized_strA (l : List Bytes) : Sized 1 (strA l) := fun x hx => by
  obtain ⟨s, _, rfl⟩ := List.mem_map.1 hx
  exact ⟨rfl, rfl⟩
theorem strA_at {l : List Bytes} {k : Nat} (h : k < l.length) : (strA l)[((k : Nat) : Int).toNat]? = some (.str l[k]) := by
  rw [Int.toNat_natCast, strA, List.getElem?_map, List.getElem?_eq_getElem h]; rfl
theorem step_strA {l : List Bytes} {k : Nat} (h : k < l.length) {P : AVal → Prop} (hp : P (.str l[k])) : 0 ≤ ((k : Nat) : Int) ∧ (match (strA l)[((k : Nat) : Int).toNat]? with
    | some y => y.cells.length = 1 ∧ P y
    | none => False) := ⟨by omega, by rw [strA_at h]; exact ⟨rfl, hp⟩⟩
theorem strA_len (l : List Bytes) : (strA l).length = l.length := by simp [strA]

def numStep (n : Int) (c : UInt8) : Int := IntKind.i64.wrap (IntKind.i64.wrap (10 * n) + IntKind.i64.wrap (IntKind.u8.wrap ((c.toNat : Int) - 48)))
def numberR (s : Bytes) : Int := s.foldl numStep 0

def lowR (names : List Bytes) (name : Bytes) : Nat := (names.takeWhile (bytesLess · name)).length
def insR {α : Type} (l : List α) (i : Nat) (x : α) : List α := l.take i ++ [x] ++ l.drop i

end Go.Ag
/- Package cupelref05: what the reader reads of a type, as plain functions. -/
set_option linter.unusedVariables false
namespace Go.Ag
open Go

def kBar : Bytes := [124]
def kArr : Bytes := [45, 62]
def kInt : Bytes := [105, 110, 116]
def kBool : Bytes := [98, 111, 111, 108]
def kText : Bytes := [116, 101, 120, 116]
def kDyn : Bytes := [63]
def kLb : Bytes := [123]
def kRb : Bytes := [125]
def kLp : Bytes := [40]
def kRp : Bytes := [41]
def kColon : Bytes := [58]
def kComma : Bytes := [44]

def zeroT : TA := .mk 0 [] [] []
def TA.names : TA → List Bytes | .mk _ _ ns _ => ns
def TA.l : TA → List TA | .mk _ _ _ l => l
def twiceR (s : RS) (t : TokA) : RS := { s with diags := s.diags ++ [⟨t.at_, 4, t.text⟩] }
def commaR (s : RS) : RS := if isR s kRb then s else if isR (takeR s kComma) kRb then giveR (takeR s kComma) 2 else takeR s kComma

mutual
def typeR : Nat → Nat → RS → TA × RS
  | 0, _, s => (zeroT, s)
  | n + 1, d, s =>
    if (if 64 < d then giveR s 3 else s).bad then (zeroT, if 64 < d then giveR s 3 else s)
    else if isR (arrowR n d (if 64 < d then giveR s 3 else s)).2 kBar then
      (.mk 7 [] [] (altsR n d [(arrowR n d (if 64 < d then giveR s 3 else s)).1] (arrowR n d (if 64 < d then giveR s 3 else s)).2).1, (altsR n d [(arrowR n d (if 64 < d then giveR s 3 else s)).1] (arrowR n d (if 64 < d then giveR s 3 else s)).2).2)
    else arrowR n d (if 64 < d then giveR s 3 else s)
def altsR : Nat → Nat → List TA → RS → List TA × RS
  | 0, _, l, s => (l, s)
  | n + 1, d, l, s => if isR s kBar then altsR n d (l ++ [(arrowR n d (takeR s kBar)).1]) (arrowR n d (takeR s kBar)).2 else (l, s)
def arrowR : Nat → Nat → RS → TA × RS
  | 0, _, s => (zeroT, s)
  | n + 1, d, s =>
    if isR (plainR n d s).2 kArr then
      if 64 < d + 1 then ((plainR n d s).1, giveR (takeR (plainR n d s).2 kArr) 3)
      else (.mk 6 [] [] [(plainR n d s).1, (arrowR n (d + 1) (takeR (plainR n d s).2 kArr)).1], (arrowR n (d + 1) (takeR (plainR n d s).2 kArr)).2)
    else plainR n d s
def plainR : Nat → Nat → RS → TA × RS
  | 0, _, s => (zeroT, s)
  | n + 1, d, s =>
    if s.bad then (zeroT, s)
    else if s.tok.kind = 1 then (.mk 8 s.tok.text [] [], { s with i := s.i + 1 })
    else if isR s kInt then (.mk 1 [] [] [], takeR s kInt)
    else if isR s kBool then (.mk 2 [] [] [], takeR s kBool)
    else if isR s kText then (.mk 3 [] [] [], takeR s kText)
    else if isR s kDyn then (.mk 4 [] [] [], takeR s kDyn)
    else if isR s kLb then fieldsR n d (.mk 5 [] [] []) (takeR s kLb)
    else if (takeR s kLp).bad then (zeroT, takeR s kLp)
    else ((typeR n (d + 1) (takeR s kLp)).1, takeR (typeR n (d + 1) (takeR s kLp)).2 kRp)
def fieldsR : Nat → Nat → TA → RS → TA × RS
  | 0, _, out, s => (out, s)
  | n + 1, d, out, s =>
    if !s.bad && !isR s kRb then
      if (takeR (nameR s).2 kColon).bad then (zeroT, takeR (nameR s).2 kColon)
      else if hasR out.names (nameR s).1.text then
        fieldsR n d out (commaR (typeR n (d + 1) (twiceR (takeR (nameR s).2 kColon) (nameR s).1)).2)
      else
        fieldsR n d (.mk 5 [] (insR out.names (lowR out.names (nameR s).1.text) (nameR s).1.text) (insR out.l (lowR out.names (nameR s).1.text) (typeR n (d + 1) (takeR (nameR s).2 kColon)).1))
          (commaR (typeR n (d + 1) (takeR (nameR s).2 kColon)).2)
    else (out, takeR s kRb)
end

theorem comma_le {s : RS} (hs : s.ok) : s.le (commaR s) := by
  unfold commaR
  have h := take_le hs kComma
  split
  · exact RS.le.refl hs
  · split
    · exact h.trans (give_le (hs.of h) 2)
    · exact h
theorem take_bad {s : RS} {w : Bytes} (h : (takeR s w).bad = false) : s.bad = false ∧ isR s w = true ∧ takeR s w = { s with i := s.i + 1 } := by
  unfold takeR at h ⊢
  split at h
  · rename_i hi
    exact ⟨(is_kind hi).2.1, hi, by rw [if_pos hi]⟩
  · unfold giveR at h
    split at h
    · rename_i hb; rw [hb] at h; cases h
    · cases h
theorem name_bad {s : RS} (h : (nameR s).2.bad = false) : s.bad = false ∧ s.tok.kind = 1 ∧ nameR s = (s.tok, { s with i := s.i + 1 }) := by
  unfold nameR at h ⊢
  split at h
  · rename_i hb; rw [hb] at h; cases h
  · rename_i hb
    split at h
    · rename_i hk; exact ⟨by simpa using hb, hk, by rw [if_neg hb, if_pos hk]⟩
    · unfold giveR at h
      rw [if_neg hb] at h
      cases h
theorem take_yes {s : RS} {w : Bytes} (h : isR s w = true) : takeR s w = { s with i := s.i + 1 } := by unfold takeR; rw [if_pos h]
theorem take_rem {s : RS} (hs : s.ok) {w : Bytes} (h : isR s w = true) : (takeR s w).rem + 1 = s.rem := by
  rw [take_yes h]
  unfold RS.rem
  have := hs.lt
  simp only
  omega
theorem twice_le {s : RS} (hs : s.ok) (w : Bytes) (h : (takeR (nameR s).2 w).bad = false) : s.le (twiceR (takeR (nameR s).2 w) (nameR s).1) := by
  have h1 := name_le hs
  have h2 := h1.trans (take_le (hs.of h1) w)
  obtain ⟨h3, h4, h5⟩ := take_bad h
  obtain ⟨h6, h7, h8⟩ := name_bad h3
  refine ⟨h2.toks, h2.i, h2.lt, ?_⟩
  rw [h5, h8]
  have h9 := h2.lt
  rw [h5, h8] at h9
  simp only at h9
  simp only [twiceR, RS.pot, List.length_append, List.length_cons, List.length_nil, h6]
  simp
  omega

theorem two_rem {s : RS} (hs : s.ok) (w : Bytes) (h : (takeR (nameR s).2 w).bad = false) : (takeR (nameR s).2 w).rem + 2 = s.rem := by
  have h1 := name_le hs
  have h2 := h1.trans (take_le (hs.of h1) w)
  obtain ⟨h3, h4, h5⟩ := take_bad h
  obtain ⟨h6, h7, h8⟩ := name_bad h3
  have h9 := h2.lt
  rw [h5, h8] at h9 ⊢
  simp only at h9
  simp only [RS.rem]
  omega

theorem le_types : ∀ n : Nat, (∀ (d : Nat) (s : RS), s.ok → s.le (typeR n d s).2) ∧ (∀ (d : Nat) (l : List TA) (s : RS), s.ok → s.le (altsR n d l s).2) ∧ (∀ (d : Nat) (s : RS), s.ok → s.le (arrowR n d s).2) ∧ (∀ (d : Nat) (s : RS), s.ok → s.le (plainR n d s).2) ∧ (∀ (d : Nat) (out : TA) (s : RS), s.ok → s.le (fieldsR n d out s).2) := by
  intro n
  induction n with
  | zero => exact ⟨fun d s h => by unfold typeR; exact RS.le.refl h, fun d l s h => by unfold altsR; exact RS.le.refl h, fun d s h => by unfold arrowR; exact RS.le.refl h, fun d s h => by unfold plainR; exact RS.le.refl h, fun d o s h => by unfold fieldsR; exact RS.le.refl h⟩
  | succ n ih =>
    obtain ⟨h1, h2, h3, h4, h5⟩ := ih
    refine ⟨fun d s h => ?_, fun d l s h => ?_, fun d s h => ?_, fun d s h => ?_, fun d out s h => ?_⟩
    · have hle : s.le (if 64 < d then giveR s 3 else s) := by
        split
        · exact give_le h 3
        · exact RS.le.refl h
      unfold typeR
      generalize (if 64 < d then giveR s 3 else s) = s1 at hle ⊢
      have ho := h.of hle
      split
      · exact hle
      · split
        · exact hle.trans ((h3 d s1 ho).trans (h2 _ _ _ (ho.of (h3 d s1 ho))))
        · exact hle.trans (h3 d s1 ho)
    · unfold altsR
      split
      · have k1 := take_le h kBar
        have k2 := h3 d _ (h.of k1)
        exact k1.trans (k2.trans (h2 _ _ _ ((h.of k1).of k2)))
      · exact RS.le.refl h
    · unfold arrowR
      have k1 := h4 d s h
      have k2 := take_le (h.of k1) kArr
      have ho := (h.of k1).of k2
      split
      · split
        · exact k1.trans (k2.trans (give_le ho 3))
        · exact k1.trans (k2.trans (h3 _ _ ho))
      · exact k1
    · unfold plainR
      split
      · exact RS.le.refl h
      · split
        · rename_i hk; exact next_le h (by omega)
        · split
          · exact take_le h _
          · split
            · exact take_le h _
            · split
              · exact take_le h _
              · split
                · exact take_le h _
                · split
                  · exact (take_le h _).trans (h5 _ _ _ (h.of (take_le h _)))
                  · split
                    · exact take_le h _
                    · have k1 := take_le h kLp
                      have k2 := h1 (d + 1) _ (h.of k1)
                      exact k1.trans (k2.trans (take_le ((h.of k1).of k2) _))
    · unfold fieldsR
      split
      · split
        · exact (name_le h).trans (take_le (h.of (name_le h)) _)
        · rename_i hb
          have hb : (takeR (nameR s).2 kColon).bad = false := by simpa using hb
          split
          · have k1 := twice_le h kColon hb
            have k2 := h1 (d + 1) _ (h.of k1)
            have k3 := comma_le ((h.of k1).of k2)
            exact k1.trans (k2.trans (k3.trans (h5 _ _ _ (((h.of k1).of k2).of k3))))
          · have k1 := (name_le h).trans (take_le (h.of (name_le h)) kColon)
            have k2 := h1 (d + 1) _ (h.of k1)
            have k3 := comma_le ((h.of k1).of k2)
            exact k1.trans (k2.trans (k3.trans (h5 _ _ _ (((h.of k1).of k2).of k3))))
      · exact take_le h _

end Go.Ag
/- Package cupelref05: Type, arrow, plain. -/
set_option linter.unusedVariables false
namespace Go.Ag
open Go

variable {T : Tab} {L : Lnk}

structure TySpec (T : Tab) (n : Nat) : Prop where
  type : ∀ (d : Nat) (s : RS), s.ok → d ≤ 65 → 6 * s.rem + 6 ≤ n → RC T.L 62 [.int .i64 d] s (typeR n d s).1.av (typeR n d s).2
  arrow : ∀ (d : Nat) (s : RS), s.ok → d ≤ 64 → 6 * s.rem + 5 ≤ n → RC T.L 83 [.int .i64 d] s (arrowR n d s).1.av (arrowR n d s).2
  plain : ∀ (d : Nat) (s : RS), s.ok → d ≤ 64 → 6 * s.rem + 4 ≤ n → RC T.L 96 [.int .i64 d] s (plainR n d s).1.av (plainR n d s).2

def zeroC : List AVal := [.int .i64 0, .str [], .lst [] .nil, .lst [] .nil]
theorem weak_zeroT : Weak L (.agg [.int .i64 0, .str [], .lst [] .nil, .lst [] .nil]) zeroT.av := by
  rw [zeroT, TA.av]
  exact Weak.agg ⟨Weak.refl _, Weak.refl _, Weak.tok _ _, Weak.tok _ _, trivial⟩

theorem give_bad (s : RS) (c : Int) : (giveR s c).bad = true := by
  unfold giveR
  split
  · rename_i h; exact h
  · rfl

theorem kind_name {s : RS} (h : s.tok.kind = 1) (w : Bytes) : isR s w = false := by
  cases hi : isR s w
  · rfl
  · rcases (is_kind hi).2.2.2 with h' | h' <;> omega

theorem step_elem {k : Nat} {xs : List AVal} {n : Int} {y : AVal} {P : AVal → Prop} (h0 : 0 ≤ n) (h : xs[n.toNat]? = some y) (hk : y.cells.length = k) (hp : P y) : 0 ≤ n ∧ (match xs[n.toNat]? with
    | some y => y.cells.length = k ∧ P y
    | none => False) := ⟨h0, by rw [h]; exact ⟨hk, hp⟩⟩

theorem ins_len {α : Type} (l : List α) (i : Nat) (x : α) : (insR l i x).length = l.length + 1 := by
  simp only [insR, List.length_append, List.length_take, List.length_drop, List.length_cons, List.length_nil]
  omega
def baseL : List Bytes := [kInt, kBool, kText, kDyn]

end Go.Ag
/- Package parse: the parser's small methods. -/
set_option linter.unusedVariables false
namespace Go.Ag
open Go

variable {T : Tab} {L : Lnk}

def pobj (s : RS) : AObj := .cells [.lst (s.toks.map TokA.av) .none, .int .i64 s.i, .lst (s.diags.map DiagA.av) (dtok s.diags.length 0)] 280
def pheap (s : RS) : Heap := [dobj s.diags.length 333, pobj s]
def gup : AVal := .iface 301 (.agg [])
def outP (b : Bool) (y : AVal) : ARet := match b with
  | true => .pan gup
  | false => .ret y

theorem low_gup {n : Nat} : Low n gup := .iface _ _ (.agg _ low0)
theorem low_outP {n : Nat} {b : Bool} {y : AVal} (h : Low n y) : Low n (outP b y).v := by cases b <;> first | exact h | exact low_gup
theorem low_pobj (s : RS) : LowO 2 (pobj s) := lowC ⟨low_toks _ _ _ trivial, .int _ _, low_diags _ _ _ (dtok_low (by omega)), trivial⟩
theorem low_pheap (s : RS) : ∀ o ∈ pheap s, LowO 2 o := fun o ho => by
  simp only [pheap, List.mem_cons, List.not_mem_nil, or_false] at ho
  rcases ho with rfl | rfl
  · exact dobj_low _ _ _
  · exact low_pobj s

def PC (L : Lnk) (f : Nat) (args : List AVal) (s : RS) (y : AVal) (s' : RS) : Prop := CallR L f (.ptr 1 0 :: args) (pheap s) (outP s'.bad y) (pheap s')

def PPost (L : Lnk) (s' : RS) (y : AVal) (r : ARet) (H' : Heap) : Prop := ∃ J, WeakR L r (outP s'.bad y) ∧ H' = pheap s' ++ J

theorem PC.of {f : Nat} {args : List AVal} {s s' : RS} {y : AVal} (k : Nat) (hy : Low 2 y) (h : ACalls L f (.ptr 1 0 :: args) (pheap s ++ List.replicate k .dead) (PPost L s' y)) : PC L f args s y s' :=
  CallR.of k rfl (low_outP hy) (low_pheap s') (h.mono fun r H' ⟨J, e2, e3⟩ => ⟨pheap s', J, e2, e3, rfl, fun i o o' h1 h2 => by rw [h1] at h2; cases h2; exact WeakO.refl o⟩)

theorem PC.to {f : Nat} {args : List AVal} {s s' : RS} {y : AVal} (h : PC L f args s y s') (hargs : ∀ x ∈ args, Low 2 x) (hy : Low 2 y) {H : Heap} {K KP : AVal → Heap → Prop} (J : Heap) (hH : H = pheap s ++ J)
    (hk : s'.bad = false → K y (pheap s' ++ J)) (hb : s'.bad = true → KP gup (pheap s' ++ J)) : ACalls L f (.ptr 1 0 :: args) H (contR K KP) := by
  subst hH
  refine (CallR.at h rfl (fun x hx => ?_) (low_pheap s) (low_outP hy) (low_pheap s') J).mono fun r H' ⟨e1, e2⟩ => ?_
  · rcases List.mem_cons.1 hx with rfl | hx
    · exact .ptr _ _ (by show 1 < 2; omega)
    · exact hargs x hx
  · subst e1 e2
    cases e : s'.bad
    · exact hk e
    · exact hb e

theorem PC.go {f : Nat} {args : List AVal} {s s' : RS} {y : AVal} (h : PC L f args s y s') (hs : s'.bad = false) (hargs : ∀ x ∈ args, Low 2 x) (hy : Low 2 y) {H : Heap} {K KP : AVal → Heap → Prop} (J : Heap) (hH : H = pheap s ++ J)
    (hk : K y (pheap s' ++ J)) : ACalls L f (.ptr 1 0 :: args) H (contR K KP) := PC.to h hargs hy J hH (fun _ => hk) fun e => by rw [hs] at e; cases e

theorem PPost.ret {s' : RS} {x y : AVal} {J H' : Heap} (hs : s'.bad = false) (hw : Weak L x y) (hH : H' = pheap s' ++ J) : PPost L s' y (.ret x) H' := ⟨J, by rw [hs]; exact hw, hH⟩
theorem PPost.pan {s' : RS} {y : AVal} {J H' : Heap} (hs : s'.bad = true) (hH : H' = pheap s' ++ J) : PPost L s' y (.pan gup) H' := ⟨J, by rw [hs]; exact Weak.refl _, hH⟩

theorem isR_bad {s : RS} (h : s.bad = true) (w : Bytes) : isR s w = false := by unfold isR; rw [h]; rfl
theorem giveR_bad {s : RS} (h : s.bad = true) (c : Int) : giveR s c = s := by unfold giveR; rw [if_pos h]
theorem takeR_bad {s : RS} (h : s.bad = true) (w : Bytes) : takeR s w = s := by unfold takeR; rw [isR_bad h, if_neg (by simp), giveR_bad h]
theorem commaR_bad {s : RS} (h : s.bad = true) : commaR s = s := by unfold commaR; rw [isR_bad h, takeR_bad h, isR_bad h, if_neg (by simp), if_neg (by simp)]

theorem bad_types : ∀ n : Nat, (∀ (d : Nat) (s : RS), s.bad = true → (typeR n d s).2 = s) ∧ (∀ (d : Nat) (l : List TA) (s : RS), s.bad = true → (altsR n d l s).2 = s) ∧ (∀ (d : Nat) (s : RS), s.bad = true → (arrowR n d s).2 = s) ∧ (∀ (d : Nat) (s : RS), s.bad = true → (plainR n d s).2 = s) ∧ (∀ (d : Nat) (out : TA) (s : RS), s.bad = true → (fieldsR n d out s).2 = s) := by
  intro n
  induction n with
  | zero => exact ⟨fun d s h => by unfold typeR; rfl, fun d l s h => by unfold altsR; rfl, fun d s h => by unfold arrowR; rfl, fun d s h => by unfold plainR; rfl, fun d o s h => by unfold fieldsR; rfl⟩
  | succ n ih =>
    obtain ⟨h1, h2, h3, h4, h5⟩ := ih
    refine ⟨fun d s h => ?_, fun d l s h => ?_, fun d s h => ?_, fun d s h => ?_, fun d out s h => ?_⟩
    · unfold typeR
      rw [giveR_bad h, show (if 64 < d then s else s) = s from by split <;> rfl, if_pos h]
    · unfold altsR
      rw [isR_bad h, if_neg (by simp)]
    · unfold arrowR
      rw [h4 d s h, isR_bad h, if_neg (by simp), h4 d s h]
    · unfold plainR
      rw [if_pos h]
    · unfold fieldsR
      rw [h, isR_bad h, if_neg (by simp), takeR_bad h]

structure ParFns (T : Tab) : Prop where
  h184 : T.has 184 c_184
  h218 : T.has 218 c_218
  h219 : T.has 219 c_219
  h220 : T.has 220 c_220
  h221 : T.has 221 c_221
  h248 : T.has 248 c_248
  h249 : T.has 249 c_249
  h250 : T.has 250 c_250
  h259 : T.has 259 c_259
  h260 : T.has 260 c_260
  h293 : T.has 293 c_293
  h306 : T.has 306 c_306
  h307 : T.has 307 c_307

theorem here_spec (F : ParFns T) (s : RS) (hs : s.ok) (hb : s.bad = false) : PC T.L 218 [] s s.tok.av s := by
  refine PC.of 0 (low_tok _ _) (acallsG F.h218 (by simp [c_218]) ?_)
  conv => whnf
  refine step_tok hs ?_
  conv => whnf
  exact PPost.ret hb (Weak.refl _) rfl

theorem ParFns.here (F : ParFns T) {s : RS} (hs : s.ok) (hb : s.bad = false) {H : Heap} {K KP : AVal → Heap → Prop} (J : Heap) (hH : H = pheap s ++ J) (hk : K s.tok.av (pheap s ++ J)) : ACalls T.L 218 [.ptr 1 0] H (contR K KP) :=
  (here_spec F s hs hb).go hb low0 (low_tok _ _) J hH hk

theorem pis_spec (F : ParFns T) (s : RS) (hs : s.ok) (hb : s.bad = false) (w : Bytes) : PC T.L 250 [.str w] s (.bool (isR s w)) s := by
  refine PC.of 0 (.bool _) (acallsG F.h250 (by simp [c_250]) ?_)
  have hv : isR s w = ((s.tok.kind == 2 || s.tok.kind == 5) && s.tok.text == w) := by unfold isR; rw [hb]; rfl
  rw [hv]
  clear hv
  conv => whnf
  refine F.here hs hb _ rfl ?_
  conv => whnf
  cases s.tok.kind == 2
  · conv => whnf
    cases s.tok.kind == 5
    · conv => whnf
      exact PPost.ret hb (Weak.refl _) rfl
    · conv => whnf
      exact PPost.ret hb (Weak.refl _) rfl
  · conv => whnf
    exact PPost.ret hb (Weak.refl _) rfl

theorem ParFns.is (F : ParFns T) {s : RS} (hs : s.ok) (hb : s.bad = false) (w : Bytes) {H : Heap} {K KP : AVal → Heap → Prop} (J : Heap) (hH : H = pheap s ++ J) (hk : K (.bool (isR s w)) (pheap s ++ J)) : ACalls T.L 250 [.ptr 1 0, .str w] H (contR K KP) :=
  (pis_spec F s hs hb w).go hb (low1 (.str _)) (.bool _) J hH hk

def takeP (s : RS) (w : Bytes) : RS := if isR s w then { s with i := s.i + 1 } else s
theorem takeP_yes {s : RS} {w : Bytes} (h : isR s w = true) : takeP s w = takeR s w := by rw [takeP, if_pos h, take_yes h]
theorem takeP_no {s : RS} {w : Bytes} (h : isR s w = false) : takeP s w = s := by rw [takeP, if_neg (by simp [h])]
theorem takeP_bad {s : RS} (w : Bytes) : (takeP s w).bad = s.bad := by unfold takeP; split <;> rfl

theorem ptake_spec (F : ParFns T) (s : RS) (hs : s.ok) (hb : s.bad = false) (w : Bytes) : PC T.L 221 [.str w] s (.bool (isR s w)) (takeP s w) := by
  refine PC.of 0 (.bool _) (acallsG F.h221 (by simp [c_221]) ?_)
  conv => whnf
  refine F.is hs hb w _ rfl ?_
  conv => whnf
  cases h : isR s w
  · rw [takeP_no h]
    conv => whnf
    exact PPost.ret hb (Weak.refl _) rfl
  · rw [takeP, if_pos h]
    conv => whnf
    rw [addN hs.i]
    exact PPost.ret hb (Weak.refl _) rfl

theorem ParFns.take (F : ParFns T) {s : RS} (hs : s.ok) (hb : s.bad = false) (w : Bytes) {H : Heap} {K KP : AVal → Heap → Prop} (J : Heap) (hH : H = pheap s ++ J)
    (hn : isR s w = false → K (.bool false) (pheap s ++ J)) (hy : isR s w = true → K (.bool true) (pheap (takeR s w) ++ J)) : ACalls T.L 221 [.ptr 1 0, .str w] H (contR K KP) :=
  (ptake_spec F s hs hb w).go (by rw [takeP_bad]; exact hb) (low1 (.str _)) (.bool _) J hH (by
    cases h : isR s w
    · rw [takeP_no h]; exact hn h
    · rw [takeP_yes h]; exact hy h)

theorem papp_diag {s : RS} (hs : s.ok) (d : DiagA) {y : AVal} (hy : y = d.av) {tk0 : Tok} {H : Heap} {K : AVal → Heap → Prop} (h0 : H[0]? = some (dobj s.diags.length 333))
    (h : K (.lst ((s.diags ++ [d]).map DiagA.av) (dtok (s.diags ++ [d]).length 0)) (H.set 0 (dobj (s.diags ++ [d]).length 333))) : appK 3 32 333 (.lst (s.diags.map DiagA.av) (dtok s.diags.length 0)) (.lst [y] tk0) H K := by
  have hl : s.diags.length ≤ 2 ^ 35 := by have := hs.room; unfold RS.pot at this; omega
  have e1 : s.diags.length = (s.diags.map DiagA.av).length := by simp
  have := app_slot (xs := s.diags.map DiagA.av) (ys := [y]) (k := 3) (bytes := 32) (t := 333) (id := 0) (tk0 := tk0) (H := H) (K := K) (sized_diags _) (sized_one (by rw [hy]; rfl)) (by simp; omega) (by simp; omega) (by simp) (by rw [← e1]; exact h0) (by
    rw [hy]
    rw [List.map_append, List.length_append, e1] at h
    rw [List.length_append]
    exact h)
  rw [← e1] at this
  exact this

theorem fail_spec (F : ParFns T) (s : RS) (hs : s.ok) (hb : s.bad = false) (code : Int) (y : AVal) (hy : Low 2 y) : PC T.L 248 [.int .i64 code] s y (giveR s code) := by
  refine PC.of 0 hy (acallsG F.h248 (by simp [c_248]) ?_)
  have hv : giveR s code = { s with diags := s.diags ++ [⟨s.tok.at_, code, if code = 2 then s.tok.text else []⟩], bad := true } := by unfold giveR; rw [hb]; rfl
  rw [hv]
  clear hv
  conv => whnf
  refine F.here hs hb _ rfl ?_
  conv => whnf
  cases h2 : (code == 2)
  · rw [if_neg (by simpa using h2)]
    conv => whnf
    refine papp_diag hs ⟨s.tok.at_, code, []⟩ rfl rfl ?_
    conv => whnf
    exact PPost.pan rfl rfl
  · rw [if_pos (by simpa using h2)]
    conv => whnf
    refine papp_diag hs ⟨s.tok.at_, code, s.tok.text⟩ rfl rfl ?_
    conv => whnf
    exact PPost.pan rfl rfl

theorem ParFns.fail (F : ParFns T) {s : RS} (hs : s.ok) (hb : s.bad = false) (code : Int) {H : Heap} {K KP : AVal → Heap → Prop} (J : Heap) (hH : H = pheap s ++ J) (hk : KP gup (pheap (giveR s code) ++ J)) : ACalls T.L 248 [.ptr 1 0, .int .i64 code] H (contR K KP) :=
  (fail_spec F s hs hb code (.tup []) low_unit).to (low1 (.int _ _)) low_unit J hH (fun h => by rw [give_bad] at h; cases h) fun _ => hk

theorem want_spec (F : ParFns T) (s : RS) (hs : s.ok) (hb : s.bad = false) (w : Bytes) : PC T.L 260 [.str w] s (.tup []) (takeR s w) := by
  refine PC.of 0 low_unit (acallsG F.h260 (by simp [c_260]) ?_)
  conv => whnf
  refine F.take hs hb w _ rfl (fun h => ?_) fun h => ?_
  · conv => whnf
    refine F.fail hs hb 2 _ rfl ?_
    conv => whnf
    rw [takeR, if_neg (by simp [h])]
    exact PPost.pan (give_bad _ _) rfl
  · conv => whnf
    exact PPost.ret (by rw [take_yes h]; exact hb) (Weak.refl _) rfl
theorem ParFns.want (F : ParFns T) {s : RS} (hs : s.ok) (hb : s.bad = false) (w : Bytes) {H : Heap} {K KP : AVal → Heap → Prop} (J : Heap) (hH : H = pheap s ++ J)
    (hk : (takeR s w).bad = false → K (.tup []) (pheap (takeR s w) ++ J)) (hp : (takeR s w).bad = true → KP gup (pheap (takeR s w) ++ J)) : ACalls T.L 260 [.ptr 1 0, .str w] H (contR K KP) :=
  (want_spec F s hs hb w).to (low1 (.str _)) low_unit J hH hk hp

theorem pname_spec (F : ParFns T) (s : RS) (hs : s.ok) (hb : s.bad = false) : PC T.L 259 [] s (nameR s).1.av (nameR s).2 := by
  refine PC.of 0 (low_tok _ _) (acallsG F.h259 (by simp [c_259]) ?_)
  have hv : nameR s = if s.tok.kind = 1 then (s.tok, { s with i := s.i + 1 }) else (zeroTok, giveR s 2) := by unfold nameR; rw [if_neg (by simp [hb])]
  rw [hv]
  clear hv
  conv => whnf
  refine F.here hs hb _ rfl ?_
  conv => whnf
  cases h : (s.tok.kind != 1)
  · rw [if_pos (by simpa using h)]
    conv => whnf
    rw [addN hs.i]
    exact PPost.ret hb (Weak.refl _) rfl
  · rw [if_neg (by simpa using h)]
    conv => whnf
    refine F.fail hs hb 2 _ rfl ?_
    conv => whnf
    exact PPost.pan (give_bad _ _) rfl
theorem ParFns.name (F : ParFns T) {s : RS} (hs : s.ok) (hb : s.bad = false) {H : Heap} {K KP : AVal → Heap → Prop} (J : Heap) (hH : H = pheap s ++ J)
    (hk : (nameR s).2.bad = false → K (nameR s).1.av (pheap (nameR s).2 ++ J)) (hp : (nameR s).2.bad = true → KP gup (pheap (nameR s).2 ++ J)) : ACalls T.L 259 [.ptr 1 0] H (contR K KP) :=
  (pname_spec F s hs hb).to low0 (low_tok _ _) J hH hk hp

def deepP (d : Nat) (s : RS) : RS := if 64 < d then giveR s 3 else s
theorem deep_spec (F : ParFns T) (s : RS) (hs : s.ok) (hb : s.bad = false) (d : Nat) : PC T.L 219 [.int .i64 d] s (.tup []) (deepP d s) := by
  refine PC.of 0 low_unit (acallsG F.h219 (by simp [c_219]) ?_)
  conv => whnf
  by_cases h : 64 < d
  · rw [show decide ((d : Int) > 64) = true from by simp; omega, deepP, if_pos h]
    conv => whnf
    refine F.fail hs hb 3 _ rfl ?_
    conv => whnf
    exact PPost.pan (give_bad _ _) rfl
  · rw [show decide ((d : Int) > 64) = false from by simp; omega, deepP, if_neg h]
    conv => whnf
    exact PPost.ret hb (Weak.refl _) rfl
theorem ParFns.deep (F : ParFns T) {s : RS} (hs : s.ok) (hb : s.bad = false) (d : Nat) {H : Heap} {K KP : AVal → Heap → Prop} (J : Heap) (hH : H = pheap s ++ J)
    (hk : d ≤ 64 → K (.tup []) (pheap s ++ J)) (hp : 64 < d → KP gup (pheap (giveR s 3) ++ J)) : ACalls T.L 219 [.ptr 1 0, .int .i64 d] H (contR K KP) :=
  (deep_spec F s hs hb d).to (low1 (.int _ _)) low_unit J hH (fun h => by
    unfold deepP at h ⊢
    split at h
    · rw [give_bad] at h; cases h
    · rename_i h'; rw [if_neg h']; exact hk (by omega)) fun h => by
    unfold deepP at h ⊢
    split at h
    · rename_i h'; rw [if_pos h']; exact hp h'
    · rw [hb] at h; cases h

end Go.Ag
/- Package parse: arrow, typ. -/
set_option linter.unusedVariables false
namespace Go.Ag
open Go

variable {T : Tab} {L : Lnk}

structure PTy (T : Tab) (n : Nat) : Prop where
  typ : ∀ (d : Nat) (s : RS), s.ok → s.bad = false → d ≤ 65 → 6 * s.rem + 6 ≤ n → PC T.L 184 [.int .i64 d] s (typeR n d s).1.av (typeR n d s).2
  arrow : ∀ (d : Nat) (s : RS), s.ok → s.bad = false → d ≤ 64 → 6 * s.rem + 5 ≤ n → PC T.L 220 [.int .i64 d] s (arrowR n d s).1.av (arrowR n d s).2
  plain : ∀ (d : Nat) (s : RS), s.ok → s.bad = false → d ≤ 64 → 6 * s.rem + 4 ≤ n → PC T.L 249 [.int .i64 d] s (plainR n d s).1.av (plainR n d s).2

theorem parrow_step (F : ParFns T) (n : Nat) (ih : ∀ m, m ≤ n → PTy T m) (d : Nat) (s : RS) (hs : s.ok) (hb : s.bad = false) (hd : d ≤ 64) (hf : 6 * s.rem + 5 ≤ n + 1) : PC T.L 220 [.int .i64 d] s (arrowR (n + 1) d s).1.av (arrowR (n + 1) d s).2 := by
  refine PC.of 0 (low_ta _ _) (acallsG F.h220 (by simp [c_220]) ?_)
  have hp := (ih n (Nat.le_refl _)).plain d s hs hb hd (by omega)
  have hle := (le_types n).2.2.2.1 d s hs
  rw [arrowR]
  generalize plainR n d s = p at hp hle ⊢
  obtain ⟨⟨k, nm, ns, l⟩, s1⟩ := p
  dsimp only at hp hle ⊢
  have hs1 := hs.of hle
  conv => whnf
  refine hp.to (low1 (.int _ _)) (low_ta _ _) _ rfl (fun hb1 => ?_) fun hb1 => ?_
  · conv => whnf
    refine F.take hs1 hb1 kArr _ rfl (fun hi => ?_) fun hi => ?_
    · rw [if_neg (by simp [hi])]
      conv => whnf
      exact PPost.ret hb1 (Weak.refl _) rfl
    · rw [if_pos hi]
      have k2 := take_le hs1 kArr
      have hs2 := hs1.of k2
      have hr := take_rem hs1 hi
      have hr0 := hle.rem
      have hb2 : (takeR s1 kArr).bad = false := by rw [take_yes hi]; exact hb1
      generalize takeR s1 kArr = s2 at k2 hs2 hr hb2 ⊢
      conv => whnf
      rw [addN (by omega)]
      refine F.deep hs2 hb2 (d + 1) _ rfl (fun hd1 => ?_) fun hd1 => ?_
      · rw [if_neg (by omega)]
        conv => whnf
        rw [addN (by omega)]
        have ha := (ih n (Nat.le_refl _)).arrow (d + 1) s2 hs2 hb2 (by omega) (by omega)
        generalize arrowR n (d + 1) s2 = q at ha ⊢
        obtain ⟨⟨k', nm', ns', l'⟩, s3⟩ := q
        dsimp only at ha ⊢
        refine ha.to (low1 (.int _ _)) (low_ta _ _) _ rfl (fun hb3 => ?_) fun hb3 => ?_
        · conv => whnf
          refine ⟨⟨rfl, trivial⟩, ?_⟩
          conv => whnf
          refine PPost.ret hb3 ?_ rfl
          rw [TA.av]
          exact Weak.agg ⟨Weak.refl _, Weak.refl _, Weak.tok _ _, Weak.tok _ _, trivial⟩
        · conv => whnf
          exact PPost.pan hb3 rfl
      · rw [if_pos hd1]
        conv => whnf
        exact PPost.pan (give_bad _ _) rfl
  · conv => whnf
    rw [isR_bad hb1, if_neg (by simp)]
    exact PPost.pan hb1 rfl

def tyEnd (m d : Nat) (l : List TA) (s : RS) : TA × RS := if isR s kBar = true ∨ 2 ≤ l.length then (.mk 7 [] [] (altsR m d l s).1, (altsR m d l s).2) else (l.headD zeroT, s)
theorem tyEnd_no {m d : Nat} {l : List TA} {s : RS} (h : isR s kBar = false) : tyEnd (m + 1) d l s = if 2 ≤ l.length then (.mk 7 [] [] l, s) else (l.headD zeroT, s) := by
  unfold tyEnd
  rw [altsR, if_neg (show ¬ isR s kBar = true by simp [h])]
  simp [h]
theorem tyEnd_yes {m d : Nat} {l : List TA} {s : RS} (h : isR s kBar = true) (hl : 1 ≤ l.length) : tyEnd (m + 1) d l s = tyEnd m d (l ++ [(arrowR m d (takeR s kBar)).1]) (arrowR m d (takeR s kBar)).2 := by
  unfold tyEnd
  rw [altsR, if_pos h, if_pos (.inl h), if_pos (.inr (by simp; omega))]
theorem tyEnd_bad {m d : Nat} {l : List TA} {s : RS} (h : s.bad = true) : (tyEnd m d l s).2 = s := by
  unfold tyEnd
  split
  · exact (bad_types m).2.1 d l s h
  · rfl
theorem typeR_end {n d : Nat} {s : RS} (hb : s.bad = false) (hd : d ≤ 64) : typeR (n + 1) d s = tyEnd n d [(arrowR n d s).1] (arrowR n d s).2 := by
  rw [typeR]
  simp only [if_neg (show ¬ 64 < d by omega)]
  rw [if_neg (by simp [hb])]
  unfold tyEnd
  cases h : isR (arrowR n d s).2 kBar <;> simp

theorem ptyp_step (F : ParFns T) (n : Nat) (ih : ∀ m, m ≤ n → PTy T m) (d : Nat) (s : RS) (hs : s.ok) (hb : s.bad = false) (hd : d ≤ 65) (hf : 6 * s.rem + 6 ≤ n + 1) : PC T.L 184 [.int .i64 d] s (typeR (n + 1) d s).1.av (typeR (n + 1) d s).2 := by
  refine PC.of 1 (low_ta _ _) (acallsG F.h184 (by simp [c_184]) ?_)
  conv => whnf
  refine F.deep hs hb d _ rfl (fun hd64 => ?_) fun hd64 => ?_
  · rw [typeR_end hb hd64]
    have hp := (ih n (Nat.le_refl _)).arrow d s hs hb hd64 (by omega)
    have hle := (le_types n).2.2.1 d s hs
    generalize arrowR n d s = p at hp hle ⊢
    obtain ⟨⟨k, nm, ns, ll⟩, s1⟩ := p
    dsimp only at hp hle ⊢
    have hs1 := hs.of hle
    obtain ⟨R, hR⟩ : ∃ R, tyEnd n d [.mk k nm ns ll] s1 = R := ⟨_, rfl⟩
    rw [hR]
    conv => whnf
    refine hp.to (low1 (.int _ _)) (low_ta _ _) _ rfl (fun hb1 => ?_) fun hb1 => ?_
    · conv => whnf
      intro I hI hG
      have key : ∀ (m : Nat) (s' : RS) (l : List TA) (e : Env), m ≤ n → s'.ok → s'.bad = false → 6 * s'.rem + 5 ≤ m → 1 ≤ l.length → l.length + s'.rem ≤ 2 ^ 34 → tyEnd m d l s' = R →
          I (setL e [(0, .ptr 1 0), (1, .int .i64 d), (4, .ptr 3 0), (5, .lst (TA.avs l) (btok 1 l.length 2))]) (pheap s' ++ [bobj 1 l.length 175, .cells [.int .i64 0, .str [], .lst [] .nil, .lst [] .nil] 175]) := by
        intro m
        induction m with
        | zero => intro s' l e _ _ _ h; omega
        | succ m ihm =>
          intro s' l e hm hs' hb' hf' hl1 hl2 hv
          apply hI
          conv => whnf
          refine F.take hs' hb' kBar _ rfl (fun hi' => ?_) fun hi' => ?_
          · rw [tyEnd_no hi'] at hv
            conv => whnf
            rw [tas_len]
            cases hll : ((l.length : Int) == 1)
            · rw [if_pos (by simp at hll; omega)] at hv
              subst hv
              conv => whnf
              refine PPost.ret hb' ?_ rfl
              rw [TA.av]
              exact Weak.agg ⟨Weak.refl _, Weak.refl _, Weak.tok _ _, Weak.tok _ _, trivial⟩
            · rw [if_neg (by simp at hll; omega)] at hv
              subst hv
              have hll : l.length = 1 := by simp at hll; omega
              obtain ⟨⟨k1, nm1, ns1, ll1⟩, rfl⟩ := List.length_eq_one_iff.1 hll
              conv => whnf
              refine ⟨Int.le_refl _, rfl, ?_⟩
              conv => whnf
              exact PPost.ret hb' (Weak.refl _) rfl
          · rw [tyEnd_yes hi' hl1] at hv
            have k2 := take_le hs' kBar
            have hs2 := hs'.of k2
            have hr := take_rem hs' hi'
            have hb2 : (takeR s' kBar).bad = false := by rw [take_yes hi']; exact hb'
            generalize takeR s' kBar = s2 at k2 hs2 hr hb2 hv ⊢
            conv => whnf
            have ha := (ih m (by omega)).arrow d s2 hs2 hb2 hd64 (by omega)
            have hle' := (le_types m).2.2.1 d s2 hs2
            generalize arrowR m d s2 = q at ha hle' hv ⊢
            obtain ⟨⟨k', nm', ns', l'⟩, s3⟩ := q
            dsimp only at ha hle' hv ⊢
            refine ha.to (low1 (.int _ _)) (low_ta _ _) _ rfl (fun hb3 => ?_) fun hb3 => ?_
            · conv => whnf
              have e1 : l.length = (TA.avs l).length := (tas_len l).symm
              have hr3 := hle'.rem
              rw [e1]
              refine app_slotB (id := 2) (b := 1) (sized_tas l) (sized_one rfl) (by rw [tas_len]; simp; omega) (by rw [tas_len]; simp; omega) (by simp) (by rw [tas_len]; exact hl1) rfl ?_
              conv => whnf
              have e2 : TA.avs (l ++ [.mk k' nm' ns' l']) = TA.avs l ++ [.agg [.int .i64 k', .str nm', .lst (strA ns') .none, .lst (TA.avs l') .none]] := by rw [tas_append]; rfl
              have e3 : (l ++ [TA.mk k' nm' ns' l']).length = (TA.avs l ++ [AVal.agg [.int .i64 k', .str nm', .lst (strA ns') .none, .lst (TA.avs l') .none]]).length := by rw [← e2, tas_len]
              have hnext := fun e => ihm s3 (l ++ [.mk k' nm' ns' l']) e (by omega) (hs2.of hle') hb3 (by omega) (by simp) (by simp; omega) hv
              rw [e3, e2] at hnext
              exact inv_of [(0, .ptr 1 0), (1, .int .i64 d), (4, .ptr 3 0), (5, _)] ⟨rfl, rfl, rfl, rfl, trivial⟩ (hnext _)
            · have hv2 : R.2 = s3 := by rw [← hv, tyEnd_bad hb3]
              rw [hv2]
              conv => whnf
              exact PPost.pan hb3 rfl
      exact inv_of [(0, .ptr 1 0), (1, .int .i64 d), (4, .ptr 3 0), (5, _)] ⟨rfl, rfl, rfl, rfl, trivial⟩ (key n s1 [.mk k nm ns ll] _ (Nat.le_refl _) hs1 hb1 (by have := hle.rem; omega) (by simp) (by have := hle.rem; have := hs.len; simp [RS.rem] at *; omega) hR)
    · have hv2 : R.2 = s1 := by rw [← hR, tyEnd_bad hb1]
      rw [hv2]
      conv => whnf
      exact PPost.pan hb1 rfl
  · rw [typeR]
    simp only [if_pos hd64]
    rw [if_pos (give_bad _ _)]
    conv => whnf
    exact PPost.pan (give_bad _ _) rfl

end Go.Ag
/- Package parse: fields, of whatever items. -/
set_option linter.unusedVariables false
namespace Go.Ag
open Go

variable {T : Tab} {L : Lnk}

def idxGo : List Bytes → Bytes → Nat → Int
  | [], _, _ => -1
  | x :: l, s, k => if s == x then k else idxGo l s (k + 1)
theorem idxGo_has : ∀ (l : List Bytes) (s : Bytes) (k : Nat), decide (idxGo l s k ≥ 0) = hasR l s
  | [], s, k => rfl
  | x :: l, s, k => by
    rw [idxGo, hasR, List.any_cons, ← hasR, ← idxGo_has l s (k + 1)]
    cases h : (s == x)
    · rw [if_neg (by simp), show (x == s) = false from by rw [Bool.beq_comm]; exact h, Bool.false_or]
    · rw [if_pos rfl, show (x == s) = true from by rw [Bool.beq_comm]; exact h, Bool.true_or]; simp

theorem index_spec (h28 : T.has 28 c_28) (l : List Bytes) (s : Bytes) (hl : l.length ≤ 2 ^ 60) : Pure T.L 28 [.lst (strA l) .none, .str s] (.int .i64 (idxGo l s 0)) := by
  refine Pure.run (fun y hy => by simp only [List.mem_cons, List.not_mem_nil, or_false] at hy; rcases hy with rfl | rfl <;> first | exact low_strs' _ _ _ trivial | constructor) (.int _ _) (acallsG h28 (by simp [c_28]) ?_)
  conv => whnf
  intro I hI hG
  have key : ∀ (d k : Nat) (e : Env), l.length - k = d → k ≤ l.length → idxGo l s 0 = idxGo (l.drop k) s k → I (setL e [(0, .lst (strA l) .none), (1, .str s), (7, .int .i64 (l.length : Nat)), (8, .int .i64 k)]) [] := by
    intro d
    induction d with
    | zero =>
      intro k e hd hk hv
      obtain rfl : k = l.length := by omega
      apply hI
      conv => whnf
      rw [lt_false (Nat.le_refl _)]
      conv => whnf
      rw [hv, List.drop_length]
      exact ret_weak (Weak.refl _)
    | succ d ih =>
      intro k e hd hk hv
      have hlt : k < l.length := by omega
      apply hI
      conv => whnf
      rw [lt_true hlt]
      conv => whnf
      refine step_strA hlt ?_
      conv => whnf
      rw [List.drop_eq_getElem_cons hlt, idxGo] at hv
      cases hc : (s == l[k])
      · conv => whnf
        refine inv_of [(0, .lst (strA l) .none), (1, .str s), (7, .int .i64 (l.length : Nat)), (8, .int .i64 ((k + 1 : Nat) : Int))] ⟨rfl, rfl, rfl, add1 (by omega), trivial⟩ (ih (k + 1) _ (by omega) (by omega) ?_)
        rw [if_neg (by simp [hc])] at hv
        exact hv
      · conv => whnf
        rw [if_pos hc] at hv
        rw [hv]
        exact ret_weak (Weak.refl _)
  exact inv_of [(0, .lst (strA l) .none), (1, .str s), (7, .int .i64 (l.length : Nat)), (8, .int .i64 0)] ⟨rfl, rfl, by show AVal.int .i64 ((strA l).length : Nat) = _; rw [strA_len], rfl, trivial⟩ (key l.length 0 _ rfl (by omega) rfl)

theorem contains_spec (h318 : T.has 318 c_318) (h28 : T.has 28 c_28) (l : List Bytes) (s : Bytes) (hl : l.length ≤ 2 ^ 60) : Pure T.L 318 [.lst (strA l) .none, .str s] (.bool (hasR l s)) := by
  refine Pure.run (fun y hy => by simp only [List.mem_cons, List.not_mem_nil, or_false] at hy; rcases hy with rfl | rfl <;> first | exact low_strs' _ _ _ trivial | constructor) (.bool _) (acallsG h318 (by simp [c_318]) ?_)
  conv => whnf
  refine (index_spec h28 l s hl).to ?_
  conv => whnf
  rw [show decide (idxGo l s 0 ≥ 0) = hasR l s from idxGo_has l s 0]
  exact ret_weak (Weak.refl _)

variable {σ : Type}
def itemH (oo : σ → Nat → AObj) (x : σ) : Heap := [oo x 0, oo x 1, oo x 2, oo x 3, oo x 4, oo x 5, oo x 6, oo x 7]

def fieldsG (w : Bytes) (step : Nat → Bytes → σ → RS → σ × RS) : Nat → List Bytes → σ → RS → σ × RS
  | 0, _, x, s => (x, s)
  | n + 1, seen, x, s =>
    if !s.bad && !isR s kRb then
      if (takeR (nameR s).2 w).bad then (x, takeR (nameR s).2 w)
      else if hasR seen (nameR s).1.text then
        fieldsG w step n seen (step n [] x (twiceR (takeR (nameR s).2 w) (nameR s).1)).1 (commaR (step n [] x (twiceR (takeR (nameR s).2 w) (nameR s).1)).2)
      else
        fieldsG w step n (seen ++ [(nameR s).1.text]) (step n (nameR s).1.text x (takeR (nameR s).2 w)).1 (commaR (step n (nameR s).1.text x (takeR (nameR s).2 w)).2)
    else (x, takeR s kRb)

theorem fieldsG_bad {w : Bytes} {step : Nat → Bytes → σ → RS → σ × RS} {n : Nat} {seen : List Bytes} {x : σ} {s : RS} (h : s.bad = true) : fieldsG w step n seen x s = (x, s) := by
  cases n with
  | zero => rfl
  | succ n => rw [fieldsG, h, if_neg (by simp), takeR_bad h]

structure FieldsOK (T : Tab) (oo : σ → Nat → AObj) (step : Nat → Bytes → σ → RS → σ × RS) (Iv : σ → List Bytes → Prop) (g : Nat) (free : List AVal) (N : Nat) : Prop where
  lfree : ∀ x ∈ free, Low 10 x
  loo : ∀ x i, i < 8 → LowO 10 (oo x i)
  le : ∀ n nm x (s : RS), s.ok → s.le (step n nm x s).2
  none : ∀ n x (s : RS) seen, Iv x seen → Iv (step n [] x s).1 seen
  some : ∀ n nm x (s : RS) seen, Iv x seen → nm ≠ [] → hasR seen nm = false → (step n nm x s).2.bad = false → Iv (step n nm x s).1 (seen ++ [nm])
  item : ∀ n nm x (s : RS) seen, n ≤ N → s.ok → s.bad = false → 6 * s.rem + 6 ≤ n → Iv x seen → seen.length + s.rem + 1 ≤ 2 ^ 34 → (nm = [] ∨ (nm ≠ [] ∧ hasR seen nm = false)) → nm.length ≤ 2 ^ 40 →
    CallR T.L g (.str nm :: free) (pheap s ++ itemH oo x) (outP (step n nm x s).2.bad (.tup [])) (pheap (step n nm x s).2 ++ itemH oo (step n nm x s).1)

theorem low_itemH {oo : σ → Nat → AObj} (h : ∀ x i, i < 8 → LowO 10 (oo x i)) (s : RS) (x : σ) : ∀ o ∈ pheap s ++ itemH oo x, LowO 10 o := fun o ho => by
  rcases List.mem_append.1 ho with ho | ho
  · simp only [pheap, List.mem_cons, List.not_mem_nil, or_false] at ho
    rcases ho with rfl | rfl
    · exact dobj_low _ _ _
    · exact lowC ⟨low_toks _ _ _ trivial, .int _ _, low_diags _ _ _ (dtok_low (by decide)), trivial⟩
  · simp only [itemH, List.mem_cons, List.not_mem_nil, or_false] at ho
    rcases ho with rfl | rfl | rfl | rfl | rfl | rfl | rfl | rfl <;> exact h _ _ (by decide)

theorem FieldsOK.go {oo : σ → Nat → AObj} {step : Nat → Bytes → σ → RS → σ × RS} {Iv : σ → List Bytes → Prop} {g : Nat} {free : List AVal} {N : Nat} (O : FieldsOK T oo step Iv g free N)
    {n : Nat} {nm : Bytes} {x : σ} {s : RS} {seen : List Bytes} (h1 : n ≤ N) (h2 : s.ok) (h3 : s.bad = false) (h4 : 6 * s.rem + 6 ≤ n) (h5 : Iv x seen) (h6 : seen.length + s.rem + 1 ≤ 2 ^ 34) (h7 : nm = [] ∨ (nm ≠ [] ∧ hasR seen nm = false)) (h8 : nm.length ≤ 2 ^ 40)
    {H : Heap} {K KP : AVal → Heap → Prop} (J : Heap) (hH : H = pheap s ++ (itemH oo x ++ J))
    (hk : (step n nm x s).2.bad = false → K (.tup []) (pheap (step n nm x s).2 ++ (itemH oo (step n nm x s).1 ++ J))) (hp : (step n nm x s).2.bad = true → KP gup (pheap (step n nm x s).2 ++ (itemH oo (step n nm x s).1 ++ J))) :
    ACalls T.L g (.str nm :: free) H (contR K KP) := by
  subst hH
  rw [← List.append_assoc]
  refine (CallR.at (O.item n nm x s seen h1 h2 h3 h4 h5 h6 h7 h8) rfl (fun y hy => ?_) (low_itemH O.loo s x) (low_outP low_unit) (low_itemH O.loo _ _) J).mono fun r H' ⟨e1, e2⟩ => ?_
  · rcases List.mem_cons.1 hy with rfl | hy
    · exact .str _
    · exact O.lfree y hy
  · subst e1 e2
    rw [List.append_assoc]
    cases e : (step n nm x s).2.bad
    · exact hk e
    · exact hp e

theorem fields_spec (F : ParFns T) (h318 : T.has 318 c_318) (h28 : T.has 28 c_28) {oo : σ → Nat → AObj} {step : Nat → Bytes → σ → RS → σ × RS} {Iv : σ → List Bytes → Prop} {g : Nat} {free : List AVal} {N : Nat} (O : FieldsOK T oo step Iv g free N)
    (w : Bytes) (n : Nat) (x : σ) (s : RS) (hn : n ≤ N) (hs : s.ok) (hb : s.bad = false) (hf : 6 * s.rem + 7 ≤ n) (hx : Iv x []) :
    CallR T.L 306 [.ptr 1 0, .str w, .fn (.func g) [] free] (pheap s ++ itemH oo x) (outP (fieldsG w step n [] x s).2.bad (.tup [])) (pheap (fieldsG w step n [] x s).2 ++ itemH oo (fieldsG w step n [] x s).1) := by
  obtain ⟨R, hR⟩ : ∃ R, fieldsG w step n [] x s = R := ⟨_, rfl⟩
  rw [hR]
  refine CallR.of 1 rfl (low_outP low_unit) (low_itemH O.loo _ _) (ACalls.mono (Q := fun r H' => ∃ J, WeakR T.L r (outP R.2.bad (.tup [])) ∧ H' = pheap R.2 ++ (itemH oo R.1 ++ J)) ?_ fun r H' ⟨J, e1, e2⟩ => ⟨_, J, e1, by rw [e2, List.append_assoc], rfl, fun i o o' h1 h2 => by rw [h1] at h2; cases h2; exact WeakO.refl o⟩)
  refine acallsG F.h306 (by simp [c_306]) ?_
  conv => whnf
  intro I hI hG
  have key : ∀ (m : Nat) (s' : RS) (y : σ) (seen : List Bytes) (b : Bool) (e : Env), m ≤ N → s'.ok → s'.bad = false → 6 * s'.rem + 7 ≤ m → Iv y seen → seen.length + s'.rem ≤ 2 ^ 34 →
      fieldsG w step m seen y (if b then s' else commaR s') = R →
      I (setL e [(0, .ptr 1 0), (1, .str w), (2, .fn (.func g) [] free), (6, .lst (strA seen) (dtok (strA seen).length 10)), (7, .bool b)]) (pheap s' ++ (itemH oo y ++ [dobj (strA seen).length 10])) := by
    intro m
    induction m with
    | zero => intro s' y seen b e _ _ _ h; omega
    | succ m ihm =>
      intro s' y seen b e hm hs' hb' hf' hy hl hv
      apply hI
      conv => whnf
      refine F.is hs' hb' kRb _ rfl ?_
      cases hi : isR s' kRb
      · conv => whnf
        have back : ∀ (s2 : RS) (y2 : σ) (seen2 : List Bytes) (e' : Env) (H' : Heap), s2.ok → s2.bad = false → 6 * s2.rem + 7 ≤ m → Iv y2 seen2 → seen2.length + s2.rem ≤ 2 ^ 34 → fieldsG w step m seen2 y2 (commaR s2) = R →
            H'.take 11 = pheap s2 ++ (itemH oo y2 ++ [dobj (strA seen2).length 10]) →
            envHas e' [(0, .ptr 1 0), (1, .str w), (2, .fn (.func g) [] free), (6, .lst (strA seen2) (dtok (strA seen2).length 10)), (7, .bool false)] → I e' H' := fun s2 y2 seen2 e' H' a1 a2 a3 a4 a5 a6 a7 a8 =>
          hG.keep _ (pheap s2 ++ (itemH oo y2 ++ [dobj (strA seen2).length 10])) (Nat.le_refl 11) a7 a8
            ⟨.ptr _ _ (by decide : 1 < 11), .str _, .fn _ _ _ low0 (fun z hz => (O.lfree z hz).mono (by decide : 10 ≤ 11)), low_strs' _ _ _ (dtok_low (by decide : 10 < 11)), .bool _, trivial⟩
            ⟨dobj_low _ _ _, lowC ⟨low_toks _ _ _ trivial, .int _ _, low_diags _ _ _ (dtok_low (by decide : 0 < 11)), trivial⟩, lowO_mono (by decide : 10 ≤ 11) (O.loo _ 0 (by decide)), lowO_mono (by decide : 10 ≤ 11) (O.loo _ 1 (by decide)), lowO_mono (by decide : 10 ≤ 11) (O.loo _ 2 (by decide)), lowO_mono (by decide : 10 ≤ 11) (O.loo _ 3 (by decide)),
              lowO_mono (by decide : 10 ≤ 11) (O.loo _ 4 (by decide)), lowO_mono (by decide : 10 ≤ 11) (O.loo _ 5 (by decide)), lowO_mono (by decide : 10 ≤ 11) (O.loo _ 6 (by decide)), lowO_mono (by decide : 10 ≤ 11) (O.loo _ 7 (by decide)), dobj_low _ _ _, trivial⟩
            (ihm s2 y2 seen2 false _ (by omega) a1 a2 a3 a4 a5 a6)
        have sized := fun (l : List Bytes) => sized_strA l
        cases b
        case' false =>
          conv => whnf
          refine F.want hs' hb' kComma _ rfl (fun hb2 => ?_) (fun hb2 => by
            have hv2 : R = (y, takeR s' kComma) := by
              rw [← hv, show (if false = true then s' else commaR s') = takeR s' kComma from by unfold commaR; simp [hi, isR_bad hb2], fieldsG_bad hb2]
            rw [hv2]
            conv => whnf
            exact ⟨_, by dsimp only; rw [hb2]; exact Weak.refl _, rfl⟩)
          have hle2 := take_le hs' kComma
          have hs2 := hs'.of hle2
          have hr2 := hle2.rem
          have hm1 : isR (takeR s' kComma) kRb = false → fieldsG w step (m + 1) seen y (takeR s' kComma) = R := fun h => by
            rw [← hv, show (if false = true then s' else commaR s') = takeR s' kComma from by unfold commaR; simp [hi, h]]
          have hm2 : isR (takeR s' kComma) kRb = true → R = (y, giveR (takeR s' kComma) 2) := fun h => by
            rw [← hv, show (if false = true then s' else commaR s') = giveR (takeR s' kComma) 2 from by unfold commaR; simp [hi, h], fieldsG_bad (give_bad _ _)]
          generalize takeR s' kComma = s2 at hle2 hs2 hr2 hb2 hm1 hm2 ⊢
        case' true =>
          have hm1 : isR s' kRb = false → fieldsG w step (m + 1) seen y s' = R := fun h => hv
          have hm2 : isR s' kRb = true → R = (y, giveR s' 2) := fun h => by rw [hi] at h; cases h
          have hs2 := hs'
          have hb2 := hb'
          have hr2 := Nat.le_refl s'.rem
          obtain ⟨s2, hs2e⟩ : ∃ s2, s2 = s' := ⟨_, rfl⟩
          rw [← hs2e] at hs2 hb2 hm1 hm2
          rw [← hs2e]
          replace hr2 : s2.rem ≤ s'.rem := by rw [hs2e]; exact Nat.le_refl _
        all_goals
          clear hv
          conv => whnf
          refine F.name hs2 hb2 _ rfl (fun hb3 => ?_) (fun hb3 => by
            have hv2 : R = (y, (nameR s2).2) := by
              have hnk : ¬ s2.tok.kind = 1 := fun hk => by
                rw [nameR, if_neg (by simp [hb2]), if_pos hk] at hb3
                exact absurd (hb3.symm.trans hb2) (by decide)
              have hne : (nameR s2).2 = giveR s2 2 := by rw [nameR, if_neg (by simp [hb2]), if_neg hnk]
              cases hkr : isR s2 kRb
              · rw [← hm1 hkr, fieldsG, hb2, hkr, if_pos (by simp), hne, takeR_bad (give_bad _ _), if_pos (give_bad _ _)]
              · rw [hm2 hkr, hne]
            rw [hv2]
            conv => whnf
            exact ⟨_, by dsimp only; rw [hb3]; exact Weak.refl _, rfl⟩)
          obtain ⟨_, hk1, hnr⟩ := name_bad hb3
          have hkr : isR s2 kRb = false := kind_name hk1 kRb
          have hv := hm1 hkr
          rw [fieldsG, hb2, hkr, if_pos (by simp)] at hv
          clear hm1 hm2
          have htw := twice_le hs2 w
          have htr := two_rem hs2 w
          have hle3 := name_le hs2
          have hmem : s2.tok ∈ s2.toks := List.mem_of_getElem? (tok_at hs2)
          have htxt := hs2.txt _ hmem
          have hnm := hs2.named _ hmem hk1
          rw [hnr] at hv htw htr hle3 ⊢
          dsimp only at hv htw htr hle3 ⊢
          clear hb3
          have hb3 : ({ s2 with i := s2.i + 1 } : RS).bad = false := hb2
          generalize s2.tok = t at hk1 hv htw htr htxt hnm ⊢
          have hs3 := hs2.of hle3
          have hr3 := hle3.rem
          generalize ({ s2 with i := s2.i + 1 } : RS) = s3 at hv htw htr hle3 hs3 hr3 hb3 ⊢
          conv => whnf
          refine F.want hs3 hb3 w _ rfl (fun hb4 => ?_) (fun hb4 => by
            rw [if_pos hb4] at hv
            subst hv
            conv => whnf
            exact ⟨_, by dsimp only; rw [hb4]; exact Weak.refl _, rfl⟩)
          rw [if_neg (by simp [hb4])] at hv
          have htw := htw hb4
          have htr := htr hb4
          have hle4 := take_le hs3 w
          have hs4 := hs3.of hle4
          generalize takeR s3 w = s4 at hv htw htr hle4 hs4 hb4 ⊢
          conv => whnf
          refine ((contains_spec h318 h28 seen t.text (by omega)).weak (args := [.lst (strA seen) (dtok (strA seen).length 10), .str t.text]) ⟨Weak.tok _ _, Weak.refl _, trivial⟩).to ?_
          cases hc : hasR seen t.text
          · rw [if_neg (by simp [hc])] at hv
            conv => whnf
            have hsl := strA_len seen
            refine app_slot (id := 10) (sized_strA seen) (sized_one rfl) (by simp [hsl]; omega) (by simp [hsl]; omega) (by simp) rfl ?_
            conv => whnf
            refine O.go (n := m) (seen := seen) (by omega) hs4 hb4 (by omega) hy (by omega) (.inr ⟨hnm, hc⟩) htxt _ rfl (fun hb5 => ?_) fun hb5 => ?_
            · conv => whnf
              have hle5 := O.le m t.text y s4 hs4
              have hr5 := hle5.rem
              have e2 : strA (seen ++ [t.text]) = strA seen ++ [.str t.text] := by simp [strA]
              have hbk := fun e' H' => back _ _ (seen ++ [t.text]) e' H' (hs4.of hle5) hb5 (by omega) (O.some m t.text y s4 seen hy hnm hc hb5) (by simp; omega) hv
              rw [e2] at hbk
              exact hbk _ _ rfl ⟨rfl, rfl, rfl, rfl, rfl, trivial⟩
            · rw [commaR_bad hb5, fieldsG_bad hb5] at hv
              subst hv
              conv => whnf
              exact ⟨_, by dsimp only; rw [hb5]; exact Weak.refl _, rfl⟩
          · rw [if_pos hc] at hv
            conv => whnf
            refine papp_diag hs4 ⟨t.at_, 4, t.text⟩ rfl rfl ?_
            conv => whnf
            have hs6 := hs2.of htw
            have hr6 := htw.rem
            have hb6 : (twiceR s4 t).bad = false := hb4
            have hr7 : (twiceR s4 t).rem = s4.rem := rfl
            refine O.go (n := m) (s := twiceR s4 t) (nm := []) (seen := seen) (by omega) hs6 hb6 (by omega) hy (by omega) (.inl rfl) (by simp) _ rfl (fun hb5 => ?_) fun hb5 => ?_
            · conv => whnf
              have hle5 := O.le m [] y (twiceR s4 t) hs6
              have hr5 := hle5.rem
              exact back _ _ seen _ _ (hs6.of hle5) hb5 (by omega) (O.none m y _ seen hy) (by omega) hv rfl ⟨rfl, rfl, rfl, rfl, rfl, trivial⟩
            · rw [commaR_bad hb5, fieldsG_bad hb5] at hv
              subst hv
              conv => whnf
              exact ⟨_, by dsimp only; rw [hb5]; exact Weak.refl _, rfl⟩
      · conv => whnf
        rw [addN hs'.i]
        have hv2 : R = (y, takeR s' kRb) := by
          rw [← hv, show (if b = true then s' else commaR s') = s' from by cases b <;> simp [commaR, hi], fieldsG, hi, if_neg (by simp)]
        rw [hv2, take_yes hi]
        exact ⟨_, by dsimp only; rw [hb']; exact Weak.refl _, rfl⟩
  exact inv_of [(0, .ptr 1 0), (1, .str w), (2, .fn (.func g) [] free), (6, .lst [] .nil), (7, .bool true)] ⟨rfl, rfl, rfl, rfl, rfl, trivial⟩ (key n s x [] true _ hn hs hb hf hx (by have := hs.len; simp [RS.rem]; omega) hR)

end Go.Ag
/- A row that could be written, at a call's end: nobody will write it any more, it is a list by content. -/
set_option linter.unusedVariables false
namespace Go.Ag
open Go

variable {L : Lnk}

def Froze (L : Lnk) (id k : Nat) (xs : List AVal) (g : Ghost) : Prop := ∀ u, Rep L g u (.vec id xs.length k 0 xs.length) → Rep L g u (.lst xs .none)

theorem St.freeze {g : Ghost} {w : World} {H : Heap} (h : St L g w H) {id t : Nat} {xs : List AVal} (hid : H[id]? = some (.arr xs.length xs t)) (k : Nat) :
    ∃ g', g.le g' ∧ St L g' w (H.set id .gone) ∧ Froze L id k xs g' := by
  obtain ⟨s, vs, e1, e0, e2, e3, e4, e5, e6, e7, e8, e9, e10⟩ := h.obj id _ hid
  have hf : ∀ o, 0 ≤ o → o < 0 + (vs.toList.take (xs.length * s.k)).length → g.fz s.b o = none := fun o _ _ => e9 o
  have hle := Ghost.setFz_le (g := g) e10.2 hf
  have hlt : id < H.length := by
    rcases Nat.lt_or_ge id H.length with h' | h'
    · exact h'
    · rw [List.getElem?_eq_none h'] at hid; cases hid
  have hw : St L g w (H.set id .gone) := h.weak (by simp) fun i o o' ho ho' => by
    rw [List.getElem?_set] at ho'
    split at ho'
    · rename_i he
      subst he
      cases ho'
      cases o <;> exact trivial
    · rw [ho] at ho'; cases ho'; exact WeakO.refl o
  have hcell : ∀ j v, (vs.toList.take (xs.length * s.k))[j]? = some v → w.cell? ⟨s.b, 0 + j, none⟩ = some v := fun j v hv => by
    rw [List.getElem?_take] at hv
    split at hv
    · simp only [World.cell?, e4, Nat.zero_add]
      simpa using hv
    · cases hv
  refine ⟨g.setFz s.b 0 (vs.toList.take (xs.length * s.k)), hle, hw.freezeNew e10.2 hf hcell (fun i o s' ho ha hs hb => ?_), fun u hu => ?_⟩
  · rw [List.getElem?_set] at ho
    split at ho
    · rename_i he
      subst he
      cases ho
      cases ha
    · rename_i hne
      exact hne (h.inj id i _ o s s' hid ho rfl ha e1 hs hb.symm)
  · cases hu with
    | vec _ _ _ _ _ c s' h1 hk hc hz =>
      have : s' = s := by
        have h2 := hle.ob _ _ _ e1
        rw [h2] at h1
        exact (Option.some.inj h1).symm
      subst this
      refine .lst _ c k s'.b 0 xs (vs.toList.take (xs.length * s'.k)) .none (fun _ => by rw [Nat.zero_mul]) (fun j v hv => ?_) (fun x hx => by rw [e6 x hx, hk]) hc trivial (e8.mono hle)
      exact Ghost.setFz_at _ _ _ _ j v hv

def WeakG (Φ : Ghost → Prop) (L : Lnk) (x y : AVal) : Prop := ∀ g, Φ g → ∀ v, Rep L g v x → Rep L g v y
def WeakGL (Φ : Ghost → Prop) (L : Lnk) : List AVal → List AVal → Prop
  | [], [] => True
  | x :: xs, y :: ys => WeakG Φ L x y ∧ WeakGL Φ L xs ys
  | _, _ => False
def WeakGR (Φ : Ghost → Prop) (L : Lnk) : ARet → ARet → Prop
  | .ret x, .ret y => WeakG Φ L x y
  | .pan x, .pan y => WeakG Φ L x y
  | _, _ => False
theorem WeakG.refl {Φ : Ghost → Prop} (x : AVal) : WeakG Φ L x x := fun _ _ _ h => h
theorem WeakG.of {Φ : Ghost → Prop} {x y : AVal} (h : Weak L x y) : WeakG Φ L x y := fun _ _ _ hv => h _ _ hv
theorem WeakG.froze {id k : Nat} {xs : List AVal} : WeakG (Froze L id k xs) L (.vec id xs.length k 0 xs.length) (.lst xs .none) := fun _ hg _ hv => hg _ hv
theorem RepL.weakG {Φ : Ghost → Prop} {g : Ghost} (hg : Φ g) {vs : List Value} {xs ys : List AVal} (h : RepL L g vs xs) (hw : WeakGL Φ L xs ys) : RepL L g vs ys := by
  induction xs generalizing vs ys with
  | nil => cases ys with
    | nil => exact h
    | cons => exact False.elim hw
  | cons x xs ih => cases ys with
    | nil => exact False.elim hw
    | cons y ys => cases h with | cons _ _ _ _ h hs => exact .cons _ _ _ _ (hw.1 _ hg _ h) (ih hs hw.2)
theorem WeakG.agg {Φ : Ghost → Prop} {xs ys : List AVal} (h : WeakGL Φ L xs ys) : WeakG Φ L (.agg xs) (.agg ys) := fun g hg v hv => by
  cases hv with | agg vs _ hr => exact .agg vs _ (hr.weakG hg h)
theorem ACalls.freeze {f : Nat} {args : List AVal} {H : Heap} {Q : ARet → Heap → Prop}
    (h : ACalls L f args H fun r H' => Q r H' ∨ ∃ id xs t k r', H'[id]? = some (.arr xs.length xs t) ∧ WeakGR (Froze L id k xs) L r r' ∧ Q r' (H'.set id .gone)) : ACalls L f args H Q := fun g w vs hs hr =>
  (h g w vs hs hr).mono fun e w' ⟨r, H', g', hq, hle, hst, hrep⟩ => by
    rcases hq with hq | ⟨id, xs, t, k, r', h1, h2, h3⟩
    · exact ⟨r, H', g', hq, hle, hst, hrep⟩
    · obtain ⟨g2, k1, k2, k3⟩ := hst.freeze h1 k
      refine ⟨r', _, g2, h3, hle.trans k1, k2, ?_⟩
      cases r with
      | ret x =>
        cases r' with
        | ret y => obtain ⟨v, rfl, hv⟩ := hrep; exact ⟨v, rfl, h2 _ k3 _ (hv.mono k1)⟩
        | pan y => exact h2.elim
      | pan x =>
        cases r' with
        | ret y => exact h2.elim
        | pan y => obtain ⟨v, rfl, hv⟩ := hrep; exact ⟨v, rfl, h2 _ k3 _ (hv.mono k1)⟩

end Go.Ag
