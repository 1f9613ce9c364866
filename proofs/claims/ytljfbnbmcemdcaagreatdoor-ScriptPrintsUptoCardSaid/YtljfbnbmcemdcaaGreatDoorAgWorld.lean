/- What the machine's memory operations do to a state that stands for an abstract heap. -/
import Derived.Test.YtljfbnbmcemdcaaGreatDoorAgX
namespace Go.Ag
open Go
open Go.RowKit (Below)

variable {L : Lnk} {g g' : Ghost} {w w' : World} {H : Heap}

def Ghost.setOb (g : Ghost) (id ver : Nat) (s : Spot) : Ghost := { g with ob := fun i v => if i = id ∧ v = ver then some s else g.ob i v }
/-- Cells from lo on of block b are frozen as vs. -/
def Ghost.setFz (g : Ghost) (b lo : Nat) (vs : List Value) : Ghost :=
  { g with fz := fun b' o => if b' = b ∧ lo ≤ o ∧ o < lo + vs.length then vs[o - lo]? else g.fz b' o }

theorem Ghost.setOb_le {id ver : Nat} (h : g.ob id ver = none) (s : Spot) : g.le (g.setOb id ver s) :=
  ⟨rfl, rfl, fun _ _ _ h => h, fun i v s' h' => by
    simp only [Ghost.setOb]
    split
    · rename_i hh; obtain ⟨rfl, rfl⟩ := hh; rw [h] at h'; cases h'
    · exact h', rfl, fun _ _ _ => rfl⟩
theorem Ghost.setFz_le {b lo : Nat} {vs : List Value} (hk : g.kp b = none) (h : ∀ o, lo ≤ o → o < lo + vs.length → g.fz b o = none) : g.le (g.setFz b lo vs) :=
  ⟨rfl, rfl, fun b' o v h' => by
    simp only [Ghost.setFz]
    split
    · rename_i hh; obtain ⟨rfl, h1, h2⟩ := hh; rw [h o h1 h2] at h'; cases h'
    · exact h', fun _ _ _ h => h, rfl, fun b' o hb' => by
    simp only [Ghost.setFz]
    rw [if_neg]
    rintro ⟨rfl, _⟩
    exact hb' hk⟩
theorem Ghost.setOb_at (g : Ghost) (id ver : Nat) (s : Spot) : (g.setOb id ver s).ob id ver = some s := by simp [Ghost.setOb]
theorem Ghost.setOb_ne (g : Ghost) (id ver : Nat) (s : Spot) {i v : Nat} (h : i ≠ id) : (g.setOb id ver s).ob i v = g.ob i v := by simp [Ghost.setOb, h]
theorem Ghost.setOb_fz (g : Ghost) (id ver : Nat) (s : Spot) : (g.setOb id ver s).fz = g.fz := rfl
theorem Ghost.setFz_ob (g : Ghost) (b lo : Nat) (vs : List Value) : (g.setFz b lo vs).ob = g.ob := rfl
theorem Ghost.setFz_at (g : Ghost) (b lo : Nat) (vs : List Value) (j : Nat) (v : Value) (h : vs[j]? = some v) : (g.setFz b lo vs).fz b (lo + j) = some v := by
  have hj : j < vs.length := by
    rcases Nat.lt_or_ge j vs.length with h' | h'
    · exact h'
    · rw [List.getElem?_eq_none h'] at h; cases h
  simp only [Ghost.setFz]
  rw [if_pos ⟨trivial, by omega, by omega⟩, show lo + j - lo = j from by omega, h]
theorem Ghost.setFz_ne (g : Ghost) {b b' : Nat} (lo : Nat) (vs : List Value) (h : b' ≠ b) (o : Nat) : (g.setFz b lo vs).fz b' o = g.fz b' o := by simp [Ghost.setFz, h]

theorem ObjOK.keep {id : Nat} {o : AObj} (h : ObjOK L g w id o) (hg : g.le g') (hob : ∀ v, g'.ob id v = g.ob id v)
    (hw : o.alive = true → ∀ s, g.ob id o.ver = some s → w'.heap[s.b]? = w.heap[s.b]? ∧ ∀ x, g'.fz s.b x = g.fz s.b x) : ObjOK L g' w' id o := by
  cases o with
  | dead => exact fun v => (hob v).trans (h v)
  | gone => trivial
  | cells cs t =>
    obtain ⟨s, vs, h1, h2, h3, h4, h5, h6⟩ := h
    obtain ⟨k1, k2⟩ := hw rfl s h1
    exact ⟨s, vs, (hob 0).trans h1, h2, k1.trans h3, h4.mono hg, fun o => (k2 o).trans (h5 o), hg.own h6⟩
  | tail n t =>
    obtain ⟨s, vs, h1, h0, h2, h3, h4, h5, h6⟩ := h
    obtain ⟨k1, k2⟩ := hw rfl s h1
    exact ⟨s, vs, (hob n).trans h1, h0, fun m hm => (hob m).trans (h2 m hm), k1.trans h3, h4, fun o ho => (k2 o).trans (h5 o ho), hg.own h6⟩
  | arr v xs =>
    obtain ⟨s, vs, t, ws, h1, h2, h3, h4, h5, h6, h7, h8, h9, h10⟩ := h
    obtain ⟨k1, k2⟩ := hw rfl s h1
    exact ⟨s, vs, t, ws, (hob v).trans h1, fun m hm => (hob m).trans (h2 m hm), h3, k1.trans h4, h5, h6, h7, h8.mono hg, fun o => (k2 o).trans (h9 o), hg.own h10⟩
  | map es =>
    obtain ⟨s, ents, clock, h1, h2, h3, h4, h5, h6, h7⟩ := h
    obtain ⟨k1, k2⟩ := hw rfl s h1
    exact ⟨s, ents, clock, (hob 0).trans h1, k1.trans h2, h3.mono hg, h4.mono hg, hg.own h5, h6, h7⟩

/-- An object that lives has a place, at or beyond the base. -/
theorem ObjOK.place {id : Nat} {o : AObj} (h : ObjOK L g w id o) (ha : o.alive = true) : ∃ s, g.ob id o.ver = some s ∧ g.own s.b := by
  cases o with
  | dead => cases ha
  | gone => cases ha
  | cells cs t => obtain ⟨s, _, h1, _, _, _, _, h6⟩ := h; exact ⟨s, h1, h6⟩
  | tail n t => obtain ⟨s, _, h1, _, _, _, _, _, h6⟩ := h; exact ⟨s, h1, h6⟩
  | arr v xs => obtain ⟨s, _, _, _, h1, _, _, _, _, _, _, _, _, h6⟩ := h; exact ⟨s, h1, h6⟩
  | map es => obtain ⟨s, _, _, h1, _, _, _, h6, _⟩ := h; exact ⟨s, h1, h6⟩

theorem cell_lt {a : Addr} {v : Value} (h : w.cell? a = some v) : a.block < w.heap.size := by
  simp only [World.cell?] at h
  rcases Nat.lt_or_ge a.block w.heap.size with h' | h'
  · exact h'
  · rw [Array.getElem?_eq_none h'] at h; cases h

theorem St.fz_lt (h : St L g w H) {b o : Nat} {v : Value} (hf : g.fz b o = some v) : b < w.heap.size := cell_lt (h.fz b o v hf)
theorem St.fz_new (h : St L g w H) (o : Nat) : g.fz w.heap.size o = none := by
  cases hf : g.fz w.heap.size o with
  | none => rfl
  | some v => have := h.fz_lt hf; omega
theorem St.base_le (h : St L g w H) : g.base ≤ w.heap.size := Nat.le_trans h.bs h.below.size
theorem St.kp_new (h : St L g w H) : g.kp w.heap.size = none := by
  cases hk : g.kp w.heap.size with
  | none => rfl
  | some o => have := h.kp _ _ hk; simp at this
theorem St.own_new (h : St L g w H) : g.own w.heap.size := ⟨h.base_le, h.kp_new⟩
theorem St.kp_lt (h : St L g w H) {b : Nat} {o : Obj} (hk : g.kp b = some o) : b < w.heap.size := by
  have := h.kp _ _ hk
  rcases Nat.lt_or_ge b w.heap.size with h' | h'
  · exact h'
  · rw [Array.getElem?_eq_none h'] at this; cases this
theorem St.kp_ne (_h : St L g w H) {b b' : Nat} {o : Obj} (ho : g.own b') (hk : g.kp b = some o) : b ≠ b' := fun e => by subst e; rw [ho.2] at hk; cases hk

theorem heap_alloc_old (w : World) (o : Obj) {b : Nat} (h : b < w.heap.size) : (w.alloc o).heap[b]? = w.heap[b]? := Below.heap_alloc w o b h
theorem heap_alloc_at (w : World) (o : Obj) : (w.alloc o).heap[w.heap.size]? = some o := by
  show (w.heap.push o)[w.heap.size]? = _
  simp
theorem heap_alloc_size (w : World) (o : Obj) : (w.alloc o).heap.size = w.heap.size + 1 := by
  show (w.heap.push o).size = _
  simp
theorem cell_alloc_old (w : World) (o : Obj) {a : Addr} (h : a.block < w.heap.size) : (w.alloc o).cell? a = w.cell? a := by
  simp only [World.cell?, heap_alloc_old w o h]
theorem cell_alloc_at (w : World) (vs : Array Value) (t : TypeId) (fr : Nat × Nat) (o : Nat) : (w.alloc (.cells vs t fr)).cell? ⟨w.heap.size, o, none⟩ = vs[o]? := by
  simp only [World.cell?, heap_alloc_at, Option.isSome_none, Bool.false_eq_true, if_false]

/-- A new block of which nothing is told. -/
theorem St.alloc (h : St L g w H) (o : Obj) : St L g (w.alloc o) H := by
  have hB := h.base_le
  refine ⟨fun b x v hf => (cell_alloc_old w o (h.fz_lt hf)).trans (h.fz b x v hf), fun id ob ho => ?_, h.new, fun id v s hs => ?_, h.inj, h.below.alloc hB o, h.bs, h.fact, fun b ob hk => (heap_alloc_old w o (h.kp_lt hk)).trans (h.kp b ob hk)⟩
  · exact (h.obj id ob ho).keep (Ghost.le.refl g) (fun _ => rfl) fun _ s hs => ⟨heap_alloc_old w o (h.bnd _ _ _ hs), fun _ => rfl⟩
  · rw [heap_alloc_size]; have := h.bnd _ _ _ hs; omega

/-- Cells of the newest block, of which nothing is told as yet, are frozen. -/
theorem St.freezeNew {g : Ghost} (h : St L g w H) {b lo : Nat} {vs : List Value} (hkb : g.kp b = none) (hf : ∀ o, lo ≤ o → o < lo + vs.length → g.fz b o = none)
    (hc : ∀ j v, vs[j]? = some v → w.cell? ⟨b, lo + j, none⟩ = some v) (hn : ∀ id o s, H[id]? = some o → o.alive = true → g.ob id o.ver = some s → s.b ≠ b) : St L (g.setFz b lo vs) w H := by
  have hle : g.le (g.setFz b lo vs) := Ghost.setFz_le hkb hf
  refine ⟨fun b' o v hv => ?_, fun id ob ho => ?_, h.new, h.bnd, h.inj, h.below, h.bs, h.fact, h.kp⟩
  · simp only [Ghost.setFz] at hv
    split at hv
    · rename_i hh
      obtain ⟨rfl, h1, h2⟩ := hh
      have := hc (o - lo) v hv
      rwa [show lo + (o - lo) = o from by omega] at this
    · exact h.fz b' o v hv
  · exact (h.obj id ob ho).keep hle (fun _ => rfl) fun ha s hs => ⟨rfl, fun x => Ghost.setFz_ne g lo vs (hn id ob s ho ha hs) x⟩

/-- A new abstract object whose place is the newest block. -/
theorem St.push (h : St L g w H) {b : Nat} {ob : AObj} {s : Spot} (hs : s.b = b) (hbw : b < w.heap.size) (hn : ∀ id o s, H[id]? = some o → o.alive = true → g.ob id o.ver = some s → s.b ≠ b)
    (hok : ObjOK L (g.setOb H.length ob.ver s) w H.length ob) : g.le (g.setOb H.length ob.ver s) ∧ St L (g.setOb H.length ob.ver s) w (H ++ [ob]) := by
  have hnone : g.ob H.length ob.ver = none := h.new _ _ (Nat.le_refl _)
  have hle : g.le (g.setOb H.length ob.ver s) := Ghost.setOb_le hnone s
  have hlt : ∀ (i : Nat) (o : AObj), H[i]? = some o → i < H.length := fun i o hi => by
    rcases Nat.lt_or_ge i H.length with h' | h'
    · exact h'
    · rw [List.getElem?_eq_none h'] at hi; cases hi
  have hget : ∀ (i : Nat) (o : AObj), (H ++ [ob])[i]? = some o → H[i]? = some o ∨ (i = H.length ∧ o = ob) := by
    intro i o hi
    rcases Nat.lt_trichotomy i H.length with h' | h' | h'
    · rw [List.getElem?_append_left h'] at hi; exact .inl hi
    · subst h'; simp at hi; exact .inr ⟨rfl, hi.symm⟩
    · rw [List.getElem?_eq_none (by simp; omega)] at hi; cases hi
  refine ⟨hle, h.fz, fun id o ho => ?_, fun id v hv => ?_, fun id v s' hs' => ?_, fun i j o o' s1 s2 hi hj ha ha' h1 h2 hb => ?_, h.below, h.bs, h.fact, h.kp⟩
  · rcases hget id o ho with ho | ⟨rfl, rfl⟩
    · have := hlt _ _ ho
      exact (h.obj id o ho).keep hle (fun v => Ghost.setOb_ne g _ _ s (by omega)) fun _ _ _ => ⟨rfl, fun _ => rfl⟩
    · exact hok
  · simp at hv
    rw [Ghost.setOb_ne g _ _ s (by omega)]
    exact h.new id v (by omega)
  · simp only [Ghost.setOb] at hs'
    split at hs'
    · cases hs'; omega
    · exact h.bnd _ _ _ hs'
  · rcases hget i o hi with hi' | ⟨rfl, rfl⟩ <;> rcases hget j o' hj with hj' | ⟨rfl, rfl⟩
    · have := hlt _ _ hi'; have := hlt _ _ hj'
      rw [Ghost.setOb_ne g _ _ s (by omega)] at h1 h2
      exact h.inj i j o o' s1 s2 hi' hj' ha ha' h1 h2 hb
    · have := hlt _ _ hi'
      rw [Ghost.setOb_ne g _ _ s (by omega)] at h1
      rw [Ghost.setOb_at] at h2
      cases h2
      exact absurd (hb.trans hs) (hn i o s1 hi' ha h1)
    · have := hlt _ _ hj'
      rw [Ghost.setOb_ne g _ _ s (by omega)] at h2
      rw [Ghost.setOb_at] at h1
      cases h1
      exact absurd (hb.symm.trans hs) (hn j o' s2 hj' ha' h2)
    · rfl

theorem St.new_ne (h : St L g w H) : ∀ id (o : AObj) s, H[id]? = some o → o.alive = true → g.ob id o.ver = some s → s.b ≠ w.heap.size := fun id o s _ _ hs => by
  have := h.bnd _ _ _ hs; omega

/-- A new variable. -/
theorem St.box (h : St L g w H) (vs : Array Value) (t : Nat) (cs : List AVal) (hr : RepL L g vs.toList cs) :
    ∃ g', g.le g' ∧ St L g' (w.alloc (.cells vs (L.ty t))) (H ++ [.cells cs t]) ∧ Rep L g' (.pointer (some ⟨w.heap.size, 0, none⟩)) (.ptr H.length 0) := by
  have h1 := h.alloc (.cells vs (L.ty t))
  have hnone : g.ob H.length 0 = none := h.new _ _ (Nat.le_refl _)
  let s : Spot := ⟨w.heap.size, 0, vs.size, 0⟩
  have hle : g.le (g.setOb H.length 0 s) := Ghost.setOb_le hnone s
  obtain ⟨k1, k2⟩ := h1.push (b := w.heap.size) (ob := .cells cs t) (s := s) rfl (by rw [heap_alloc_size]; omega) h.new_ne
    ⟨s, vs, Ghost.setOb_at .., rfl, heap_alloc_at .., hr.mono hle, h.fz_new, h.own_new⟩
  exact ⟨_, k1, k2, .ptr H.length 0 s (Ghost.setOb_at ..) rfl⟩

/-- The newest block's first cells, frozen: a list that nobody may append to in place. -/
theorem St.literal (h : St L g w H) (vs : Array Value) (t : TypeId) (xs : List AVal) (k : Nat) (hk : ∀ x ∈ xs, x.cells.length = k) (hr : RepL L g vs.toList (flat xs)) :
    ∃ g', g.le g' ∧ St L g' (w.alloc (.cells vs t)) H ∧ Rep L g' (.slice (some ⟨w.heap.size, 0, none⟩) xs.length xs.length) (.lst xs .full) := by
  have h1 := h.alloc (.cells vs t)
  have hf : ∀ o, 0 ≤ o → o < 0 + vs.toList.length → g.fz w.heap.size o = none := fun o _ _ => h.fz_new o
  have hle := Ghost.setFz_le h.kp_new hf
  refine ⟨g.setFz w.heap.size 0 vs.toList, hle, h1.freezeNew h.kp_new hf (fun j v hv => ?_) h.new_ne, ?_⟩
  · rw [cell_alloc_at, Nat.zero_add]; simpa using hv
  · exact .lst _ _ k w.heap.size 0 xs vs.toList .full (fun _ => rfl) (fun j v hv => Ghost.setFz_at _ _ _ _ j v hv) hk (Nat.le_refl _) rfl (hr.mono hle)

/-- A new row that may be appended to: its first cells frozen, the others free. -/
theorem St.newTail (h : St L g w H) (vs : Array Value) (t : Nat) (xs : List AVal) (k c : Nat) (h0 : 0 < k) (hn : 0 < xs.length) (hk : ∀ x ∈ xs, x.cells.length = k) (hc : xs.length ≤ c) (hz : vs.size = c * k)
    (hr : RepL L g (vs.toList.take (xs.length * k)) (flat xs)) :
    ∃ g', g.le g' ∧ St L g' (w.alloc (.cells vs (L.ty t))) (H ++ [.tail xs.length t]) ∧ Rep L g' (.slice (some ⟨w.heap.size, 0, none⟩) xs.length c) (.lst xs (.tail H.length)) := by
  have h1 := h.alloc (.cells vs (L.ty t))
  have hf : ∀ o, 0 ≤ o → o < 0 + (vs.toList.take (xs.length * k)).length → g.fz w.heap.size o = none := fun o _ _ => h.fz_new o
  have hle := Ghost.setFz_le h.kp_new hf
  have h2 : St L (g.setFz w.heap.size 0 (vs.toList.take (xs.length * k))) (w.alloc (.cells vs (L.ty t))) H := h1.freezeNew h.kp_new hf (fun j v hv => by
    rw [cell_alloc_at, Nat.zero_add]
    rw [List.getElem?_take] at hv
    split at hv
    · simpa using hv
    · cases hv) h.new_ne
  let s : Spot := ⟨w.heap.size, 0, vs.size, k⟩
  have hlen : (vs.toList.take (xs.length * k)).length = xs.length * k := by
    have : xs.length * k ≤ c * k := Nat.mul_le_mul_right _ hc
    simp; omega
  obtain ⟨k1, k2⟩ := h2.push (b := w.heap.size) (ob := .tail xs.length t) (s := s) rfl (by rw [heap_alloc_size]; omega) h.new_ne
    ⟨s, vs, Ghost.setOb_at .., rfl, fun m hm => by
        simp only [Ghost.setOb, AObj.ver]; rw [if_neg (by omega)]; exact h.new _ _ (Nat.le_refl _), heap_alloc_at .., rfl, fun o ho => by
        show (g.setFz w.heap.size 0 (vs.toList.take (xs.length * k))).fz w.heap.size o = none
        simp only [Ghost.setFz]
        rw [if_neg (by simp only [s] at ho; omega)]
        exact h.fz_new o, h.own_new⟩
  refine ⟨_, hle.trans k1, k2, .lst _ _ k w.heap.size 0 xs (vs.toList.take (xs.length * k)) _ (fun _ => rfl) (fun j v hv => ?_) hk hc ?_ (hr.mono (hle.trans k1))⟩
  · exact Ghost.setFz_at _ _ _ _ j v hv
  · exact ⟨s, Ghost.setOb_at .., rfl, rfl, by simp only [s]; omega, h0, by omega⟩

/-- A store into a variable. -/
theorem St.store (h : St L g w H) {id : Nat} {cs : List AVal} {t : Nat} (hid : H[id]? = some (.cells cs t)) {s : Spot} (hs : g.ob id 0 = some s) (w' : World) (vs' : Array Value)
    (hh : w'.heap[s.b]? = some (.cells vs' (L.ty t) (0, 0))) (ho : ∀ b, b ≠ s.b → w'.heap[b]? = w.heap[b]?) (hsz : w'.heap.size = w.heap.size) (hos : w'.os = w.os) (htp : w'.tape = w.tape) (hout : w'.output = w.output)
    (cs' : List AVal) (hr : RepL L g vs'.toList cs') : St L g w' (H.set id (.cells cs' t)) := by
  obtain ⟨s0, vs, h1, h2, h3, h4, h5, h6⟩ := h.obj id _ hid
  rw [hs] at h1
  cases h1
  have hlt : id < H.length := by
    rcases Nat.lt_or_ge id H.length with h' | h'
    · exact h'
    · rw [List.getElem?_eq_none h'] at hid; cases hid
  have hget : ∀ (i : Nat) (o : AObj), (H.set id (.cells cs' t))[i]? = some o → (i = id ∧ o = .cells cs' t) ∨ (i ≠ id ∧ H[i]? = some o) := by
    intro i o hi
    rw [List.getElem?_set] at hi
    split at hi
    · rename_i he; subst he; exact .inl ⟨rfl, by first | (rw [if_pos hlt] at hi; exact (Option.some.inj hi).symm) | exact (Option.some.inj hi).symm⟩
    · rename_i he; exact .inr ⟨fun h => he h.symm, hi⟩
  refine ⟨fun b o v hv => ?_, fun i o hi => ?_, fun i v hi => h.new i v (by simpa using hi), fun i v s' hs' => by rw [hsz]; exact h.bnd i v s' hs', fun i j o o' s1 s2 hi hj ha ha' e1 e2 hb => ?_, ?_, h.bs, h.fact, fun b o hk => (ho b (h.kp_ne h6 hk)).trans (h.kp b o hk)⟩
  · have hne : b ≠ s.b := fun e => by subst e; rw [h5] at hv; cases hv
    have := h.fz b o v hv
    simp only [World.cell?] at this ⊢
    rw [ho b hne]; exact this
  · rcases hget i o hi with ⟨rfl, rfl⟩ | ⟨hne, hi⟩
    · exact ⟨s, vs', hs, h2, hh, hr, h5, h6⟩
    · refine (h.obj i o hi).keep (Ghost.le.refl g) (fun _ => rfl) fun ha s' hs' => ⟨ho _ fun e => hne ?_, fun _ => rfl⟩
      exact h.inj i id o _ s' s hi hid ha rfl hs' hs e
  · have key : ∀ i o s1, (H.set id (.cells cs' t))[i]? = some o → o.alive = true → g.ob i o.ver = some s1 → ∃ o1, H[i]? = some o1 ∧ o1.alive = true ∧ g.ob i o1.ver = some s1 := by
      intro i o s1 hi ha e1
      rcases hget i o hi with ⟨rfl, rfl⟩ | ⟨_, hi⟩
      · exact ⟨_, hid, rfl, e1⟩
      · exact ⟨o, hi, ha, e1⟩
    obtain ⟨p, hp, ap, ep⟩ := key i o s1 hi ha e1
    obtain ⟨q, hq, aq, eq⟩ := key j o' s2 hj ha' e2
    exact h.inj i j p q s1 s2 hp hq ap aq ep eq hb
  · exact h.below.trans ⟨hos, htp, hout, by omega, fun b hb => ho b (by have := h6.1; omega)⟩

/-- An append where there is room: the free cells behind a row are written, and frozen. -/
theorem St.appendIn (h : St L g w H) {id n m t : Nat} (hid : H[id]? = some (.tail n t)) {s : Spot} (hs : g.ob id n = some s) (hm : 0 < m) (w' : World) (vs vs' : Array Value)
    (hv : w.heap[s.b]? = some (.cells vs (L.ty t) (0, 0))) (hh : w'.heap[s.b]? = some (.cells vs' (L.ty t) (0, 0))) (ho : ∀ b, b ≠ s.b → w'.heap[b]? = w.heap[b]?) (hsz : w'.heap.size = w.heap.size) (hos : w'.os = w.os) (htp : w'.tape = w.tape) (hout : w'.output = w.output)
    (hsize : vs'.size = vs.size) (hold : ∀ j, j < s.s + n * s.k → vs'[j]? = vs[j]?) (us : List Value) (hul : us.length = m * s.k) (hus : ∀ j v, us[j]? = some v → vs'[s.s + n * s.k + j]? = some v) :
    ∃ g', g.le g' ∧ St L g' w' (H.set id (.tail (n + m) t)) ∧ g'.ob id (n + m) = some s ∧ (∀ j v, us[j]? = some v → g'.fz s.b (s.s + n * s.k + j) = some v) := by
  obtain ⟨s0, vs0, h1, h00, h2, h3, h4, h5, h6⟩ := h.obj id _ hid
  rw [hs] at h1
  cases h1
  rw [hv] at h3
  cases h3
  have hlt : id < H.length := by
    rcases Nat.lt_or_ge id H.length with h' | h'
    · exact h'
    · rw [List.getElem?_eq_none h'] at hid; cases hid
  have hf : ∀ o, s.s + n * s.k ≤ o → o < s.s + n * s.k + us.length → g.fz s.b o = none := fun o k1 _ => h5 o k1
  have hle1 := Ghost.setFz_le h6.2 hf
  have hnone : (g.setFz s.b (s.s + n * s.k) us).ob id (n + m) = none := h2 _ (by omega)
  have hle2 := Ghost.setOb_le hnone s
  have hle := hle1.trans hle2
  have hget : ∀ (i : Nat) (o : AObj), (H.set id (.tail (n + m) t))[i]? = some o → (i = id ∧ o = .tail (n + m) t) ∨ (i ≠ id ∧ H[i]? = some o) := by
    intro i o hi
    rw [List.getElem?_set] at hi
    split at hi
    · rename_i he; subst he; exact .inl ⟨rfl, by first | (rw [if_pos hlt] at hi; exact (Option.some.inj hi).symm) | exact (Option.some.inj hi).symm⟩
    · rename_i he; exact .inr ⟨fun h => he h.symm, hi⟩
  have hmk : n * s.k + m * s.k = (n + m) * s.k := (Nat.add_mul _ _ _).symm
  refine ⟨_, hle, ⟨fun b o v hb => ?_, fun i o hi => ?_, fun i v hi => ?_, fun i v s' hs' => ?_, fun i j o o' s1 s2 hi hj ha ha' e1 e2 hb => ?_, ?_, h.bs, h.fact, fun b o hk => (ho b (h.kp_ne h6 hk)).trans (h.kp b o hk)⟩, Ghost.setOb_at .., fun j v hj => Ghost.setFz_at _ _ _ _ j v hj⟩
  · rw [Ghost.setOb_fz] at hb
    simp only [Ghost.setFz] at hb
    simp only [World.cell?, Option.isSome_none, Bool.false_eq_true, if_false]
    split at hb
    · rename_i hx
      obtain ⟨rfl, k1, k2⟩ := hx
      rw [hh]
      have := hus (o - (s.s + n * s.k)) v hb
      rwa [show s.s + n * s.k + (o - (s.s + n * s.k)) = o from by omega] at this
    · rename_i hx
      have hc := h.fz b o v hb
      by_cases hbs : b = s.b
      · subst hbs
        have hol : o < s.s + n * s.k := by
          rcases Nat.lt_or_ge o (s.s + n * s.k) with h' | h'
          · exact h'
          · rw [h5 o h'] at hb; cases hb
        simp only [World.cell?, hv, Option.isSome_none, Bool.false_eq_true, if_false] at hc
        rw [hh]
        exact (hold o hol).trans hc
      · simp only [World.cell?, Option.isSome_none, Bool.false_eq_true, if_false] at hc
        rw [ho b hbs]; exact hc
  · rcases hget i o hi with ⟨rfl, rfl⟩ | ⟨hne, hi⟩
    · refine ⟨s, vs', Ghost.setOb_at .., h00, fun q hq => ?_, hh, hsize.trans h4, fun o hko => ?_, h6⟩
      · simp only [Ghost.setOb]; rw [if_neg (by omega)]; exact h2 q (by omega)
      · rw [Ghost.setOb_fz]; simp only [Ghost.setFz]; rw [if_neg (by omega)]; exact h5 o (by omega)
    · refine (h.obj i o hi).keep hle (fun v => Ghost.setOb_ne _ _ _ _ hne) fun ha s' hs' => ?_
      have hb : s'.b ≠ s.b := fun e => hne (h.inj i id o _ s' s hi hid ha rfl hs' hs e)
      exact ⟨ho _ hb, fun x => by rw [Ghost.setOb_fz]; exact Ghost.setFz_ne _ _ _ hb x⟩
  · have hi' : H.length ≤ i := by simpa using hi
    rw [Ghost.setOb_ne _ _ _ _ (by omega)]; exact h.new i v hi'
  · rw [hsz]
    simp only [Ghost.setOb] at hs'
    split at hs'
    · cases hs'; exact h.bnd _ _ _ hs
    · exact h.bnd i v s' hs'
  · have key : ∀ i o s1, (H.set id (.tail (n + m) t))[i]? = some o → o.alive = true → ((g.setFz s.b (s.s + n * s.k) us).setOb id (n + m) s).ob i o.ver = some s1 → ∃ o1, H[i]? = some o1 ∧ o1.alive = true ∧ g.ob i o1.ver = some s1 := by
      intro i o s1 hi ha e1
      rcases hget i o hi with ⟨rfl, rfl⟩ | ⟨hne, hi⟩
      · simp only [AObj.ver] at e1; rw [Ghost.setOb_at] at e1; cases e1; exact ⟨_, hid, rfl, hs⟩
      · rw [Ghost.setOb_ne _ _ _ _ hne] at e1; exact ⟨o, hi, ha, e1⟩
    obtain ⟨p, hp, ap, ep⟩ := key i o s1 hi ha e1
    obtain ⟨q, hq, aq, eq⟩ := key j o' s2 hj ha' e2
    exact h.inj i j p q s1 s2 hp hq ap aq ep eq hb
  · exact h.below.trans ⟨hos, htp, hout, by omega, fun b hb => ho b (by have : g.base ≤ s.b := h6.1; have : b < g.base := hb; omega)⟩

/-- An append that goes to a new block: the row's name stays. -/
theorem St.appendNew (h : St L g w H) {id n t : Nat} (hid : H[id]? = some (.tail n t)) (vs : Array Value) (xs : List AVal) (k c : Nat) (h0 : 0 < k) (hn : n < xs.length)
    (hk : ∀ x ∈ xs, x.cells.length = k) (hc : xs.length ≤ c) (hz : vs.size = c * k) (hr : RepL L g (vs.toList.take (xs.length * k)) (flat xs)) :
    ∃ g', g.le g' ∧ St L g' (w.alloc (.cells vs (L.ty t))) (H.set id (.tail xs.length t)) ∧ Rep L g' (.slice (some ⟨w.heap.size, 0, none⟩) xs.length c) (.lst xs (.tail id)) := by
  have h1 := h.alloc (.cells vs (L.ty t))
  have hf : ∀ o, 0 ≤ o → o < 0 + (vs.toList.take (xs.length * k)).length → g.fz w.heap.size o = none := fun o _ _ => h.fz_new o
  have hle1 := Ghost.setFz_le h.kp_new hf
  have h2 : St L (g.setFz w.heap.size 0 (vs.toList.take (xs.length * k))) (w.alloc (.cells vs (L.ty t))) H := h1.freezeNew h.kp_new hf (fun j v hv => by
    rw [cell_alloc_at, Nat.zero_add]
    rw [List.getElem?_take] at hv
    split at hv
    · simpa using hv
    · cases hv) h.new_ne
  let s : Spot := ⟨w.heap.size, 0, vs.size, k⟩
  have hlen : (vs.toList.take (xs.length * k)).length = xs.length * k := by
    have : xs.length * k ≤ c * k := Nat.mul_le_mul_right _ hc
    simp; omega
  obtain ⟨s0, vs0, e1, e00, e2, e3, e4, e5, e6⟩ := h.obj id _ hid
  have hlt : id < H.length := by
    rcases Nat.lt_or_ge id H.length with h' | h'
    · exact h'
    · rw [List.getElem?_eq_none h'] at hid; cases hid
  have hnone : (g.setFz w.heap.size 0 (vs.toList.take (xs.length * k))).ob id xs.length = none := e2 _ hn
  have hle2 := Ghost.setOb_le hnone s
  have hle := hle1.trans hle2
  have hget : ∀ (i : Nat) (o : AObj), (H.set id (.tail xs.length t))[i]? = some o → (i = id ∧ o = .tail xs.length t) ∨ (i ≠ id ∧ H[i]? = some o) := by
    intro i o hi
    rw [List.getElem?_set] at hi
    split at hi
    · rename_i he; subst he; exact .inl ⟨rfl, by first | (rw [if_pos hlt] at hi; exact (Option.some.inj hi).symm) | exact (Option.some.inj hi).symm⟩
    · rename_i he; exact .inr ⟨fun h => he h.symm, hi⟩
  refine ⟨_, hle, ⟨h2.fz, fun i o hi => ?_, fun i v hi => ?_, fun i v s' hs' => ?_, fun i j o o' s1 s2 hi hj ha ha' f1 f2 hb => ?_, h2.below, h.bs, h.fact, h2.kp⟩, ?_⟩
  · rcases hget i o hi with ⟨rfl, rfl⟩ | ⟨hne, hi⟩
    · refine ⟨s, vs, Ghost.setOb_at .., rfl, fun q hq => ?_, heap_alloc_at .., rfl, fun o ho => ?_, h.own_new⟩
      · simp only [Ghost.setOb]; rw [if_neg (by omega)]; exact e2 q (by omega)
      · rw [Ghost.setOb_fz]
        simp only [Ghost.setFz]
        rw [if_neg (by simp only [s] at ho; omega)]
        exact h.fz_new o
    · exact (h2.obj i o hi).keep hle2 (fun v => Ghost.setOb_ne _ _ _ _ hne) fun _ _ _ => ⟨rfl, fun _ => rfl⟩
  · have hi' : H.length ≤ i := by simpa using hi
    rw [Ghost.setOb_ne _ _ _ _ (by omega)]; exact h.new i v hi'
  · simp only [Ghost.setOb] at hs'
    split at hs'
    · cases hs'; rw [heap_alloc_size]; simp only [s]; omega
    · exact h2.bnd i v s' hs'
  · have key : ∀ i o s1, (H.set id (.tail xs.length t))[i]? = some o → ((g.setFz w.heap.size 0 (vs.toList.take (xs.length * k))).setOb id xs.length s).ob i o.ver = some s1 → (i = id ∧ s1 = s) ∨ (i ≠ id ∧ H[i]? = some o ∧ g.ob i o.ver = some s1) := by
      intro i o s1 hi f1
      rcases hget i o hi with ⟨rfl, rfl⟩ | ⟨hne, hi⟩
      · simp only [AObj.ver] at f1; rw [Ghost.setOb_at] at f1; exact .inl ⟨rfl, (Option.some.inj f1).symm⟩
      · rw [Ghost.setOb_ne _ _ _ _ hne] at f1; exact .inr ⟨hne, hi, f1⟩
    rcases key i o s1 hi f1 with ⟨rfl, rfl⟩ | ⟨_, hp, ep⟩ <;> rcases key j o' s2 hj f2 with ⟨rfl, rfl⟩ | ⟨_, hq, eq⟩
    · rfl
    · exact absurd hb.symm (h.new_ne j o' s2 hq ha' eq)
    · exact absurd hb (h.new_ne i o s1 hp ha ep)
    · exact h.inj i j o o' s1 s2 hp hq ha ha' ep eq hb
  · refine .lst _ _ k w.heap.size 0 xs (vs.toList.take (xs.length * k)) _ (fun _ => rfl) (fun j v hv => ?_) hk hc ?_ (hr.mono hle)
    · exact Ghost.setFz_at _ _ _ _ j v hv
    · exact ⟨s, Ghost.setOb_at .., rfl, rfl, by simp only [s]; omega, h0, by omega⟩

/-- A new tail in a place that was kept for it. -/
theorem St.deadTail (h : St L g w H) {id : Nat} (hid : H[id]? = some .dead) (vs : Array Value) (t : Nat) (xs : List AVal) (k c : Nat) (h0 : 0 < k) (hn : 0 < xs.length)
    (hk : ∀ x ∈ xs, x.cells.length = k) (hc : xs.length ≤ c) (hz : vs.size = c * k) (hr : RepL L g (vs.toList.take (xs.length * k)) (flat xs)) :
    ∃ g', g.le g' ∧ St L g' (w.alloc (.cells vs (L.ty t))) (H.set id (.tail xs.length t)) ∧ Rep L g' (.slice (some ⟨w.heap.size, 0, none⟩) xs.length c) (.lst xs (.tail id)) := by
  have h1 := h.alloc (.cells vs (L.ty t))
  have hf : ∀ o, 0 ≤ o → o < 0 + (vs.toList.take (xs.length * k)).length → g.fz w.heap.size o = none := fun o _ _ => h.fz_new o
  have hle1 := Ghost.setFz_le h.kp_new hf
  have h2 : St L (g.setFz w.heap.size 0 (vs.toList.take (xs.length * k))) (w.alloc (.cells vs (L.ty t))) H := h1.freezeNew h.kp_new hf (fun j v hv => by
    rw [cell_alloc_at, Nat.zero_add]
    rw [List.getElem?_take] at hv
    split at hv
    · simpa using hv
    · cases hv) h.new_ne
  let s : Spot := ⟨w.heap.size, 0, vs.size, k⟩
  have hlen : (vs.toList.take (xs.length * k)).length = xs.length * k := by
    have : xs.length * k ≤ c * k := Nat.mul_le_mul_right _ hc
    simp; omega
  have e2 : ∀ v, g.ob id v = none := h.obj id _ hid
  have hlt : id < H.length := by
    rcases Nat.lt_or_ge id H.length with h' | h'
    · exact h'
    · rw [List.getElem?_eq_none h'] at hid; cases hid
  have hnone : (g.setFz w.heap.size 0 (vs.toList.take (xs.length * k))).ob id xs.length = none := e2 _
  have hle2 := Ghost.setOb_le hnone s
  have hle := hle1.trans hle2
  have hget : ∀ (i : Nat) (o : AObj), (H.set id (.tail xs.length t))[i]? = some o → (i = id ∧ o = .tail xs.length t) ∨ (i ≠ id ∧ H[i]? = some o) := by
    intro i o hi
    rw [List.getElem?_set] at hi
    split at hi
    · rename_i he; subst he; exact .inl ⟨rfl, by first | (rw [if_pos hlt] at hi; exact (Option.some.inj hi).symm) | exact (Option.some.inj hi).symm⟩
    · rename_i he; exact .inr ⟨fun h => he h.symm, hi⟩
  refine ⟨_, hle, ⟨h2.fz, fun i o hi => ?_, fun i v hi => ?_, fun i v s' hs' => ?_, fun i j o o' s1 s2 hi hj ha ha' f1 f2 hb => ?_, h2.below, h.bs, h.fact, h2.kp⟩, ?_⟩
  · rcases hget i o hi with ⟨rfl, rfl⟩ | ⟨hne, hi⟩
    · refine ⟨s, vs, Ghost.setOb_at .., rfl, fun q hq => ?_, heap_alloc_at .., rfl, fun o ho => ?_, h.own_new⟩
      · simp only [Ghost.setOb]; rw [if_neg (by omega)]; exact e2 q
      · rw [Ghost.setOb_fz]
        simp only [Ghost.setFz]
        rw [if_neg (by simp only [s] at ho; omega)]
        exact h.fz_new o
    · exact (h2.obj i o hi).keep hle2 (fun v => Ghost.setOb_ne _ _ _ _ hne) fun _ _ _ => ⟨rfl, fun _ => rfl⟩
  · have hi' : H.length ≤ i := by simpa using hi
    rw [Ghost.setOb_ne _ _ _ _ (by omega)]; exact h.new i v hi'
  · simp only [Ghost.setOb] at hs'
    split at hs'
    · cases hs'; rw [heap_alloc_size]; simp only [s]; omega
    · exact h2.bnd i v s' hs'
  · have key : ∀ i o s1, (H.set id (.tail xs.length t))[i]? = some o → ((g.setFz w.heap.size 0 (vs.toList.take (xs.length * k))).setOb id xs.length s).ob i o.ver = some s1 → (i = id ∧ s1 = s) ∨ (i ≠ id ∧ H[i]? = some o ∧ g.ob i o.ver = some s1) := by
      intro i o s1 hi f1
      rcases hget i o hi with ⟨rfl, rfl⟩ | ⟨hne, hi⟩
      · simp only [AObj.ver] at f1; rw [Ghost.setOb_at] at f1; exact .inl ⟨rfl, (Option.some.inj f1).symm⟩
      · rw [Ghost.setOb_ne _ _ _ _ hne] at f1; exact .inr ⟨hne, hi, f1⟩
    rcases key i o s1 hi f1 with ⟨rfl, rfl⟩ | ⟨_, hp, ep⟩ <;> rcases key j o' s2 hj f2 with ⟨rfl, rfl⟩ | ⟨_, hq, eq⟩
    · rfl
    · exact absurd hb.symm (h.new_ne j o' s2 hq ha' eq)
    · exact absurd hb (h.new_ne i o s1 hp ha ep)
    · exact h.inj i j o o' s1 s2 hp hq ha ha' ep eq hb
  · refine .lst _ _ k w.heap.size 0 xs (vs.toList.take (xs.length * k)) _ (fun _ => rfl) (fun j v hv => ?_) hk hc ?_ (hr.mono hle)
    · exact Ghost.setFz_at _ _ _ _ j v hv
    · exact ⟨s, Ghost.setOb_at .., rfl, rfl, by simp only [s]; omega, h0, by omega⟩


/-- A place kept for what is to come. -/
theorem St.pushDead (h : St L g w H) : St L g w (H ++ [.dead]) := by
  have hlt : ∀ (i : Nat) (o : AObj), H[i]? = some o → i < H.length := fun i o hi => by
    rcases Nat.lt_or_ge i H.length with h' | h'
    · exact h'
    · rw [List.getElem?_eq_none h'] at hi; cases hi
  have hget : ∀ (i : Nat) (o : AObj), (H ++ [AObj.dead])[i]? = some o → H[i]? = some o ∨ (i = H.length ∧ o = .dead) := by
    intro i o hi
    rcases Nat.lt_trichotomy i H.length with h' | h' | h'
    · rw [List.getElem?_append_left h'] at hi; exact .inl hi
    · subst h'; simp at hi; exact .inr ⟨rfl, hi.symm⟩
    · rw [List.getElem?_eq_none (by simp; omega)] at hi; cases hi
  refine ⟨h.fz, fun id o ho => ?_, fun id v hv => h.new id v (by simp at hv; omega), h.bnd, fun i j o o' s1 s2 hi hj ha ha' h1 h2 hb => ?_, h.below, h.bs, h.fact, h.kp⟩
  · rcases hget id o ho with ho | ⟨rfl, rfl⟩
    · exact h.obj id o ho
    · exact fun v => h.new _ v (Nat.le_refl _)
  · rcases hget i o hi with hi' | ⟨rfl, rfl⟩
    · rcases hget j o' hj with hj' | ⟨rfl, rfl⟩
      · exact h.inj i j o o' s1 s2 hi' hj' ha ha' h1 h2 hb
      · cases ha'
    · cases ha

end Go.Ag
