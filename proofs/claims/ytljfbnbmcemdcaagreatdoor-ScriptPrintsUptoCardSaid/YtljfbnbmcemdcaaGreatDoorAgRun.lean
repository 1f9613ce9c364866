/- Small lemmas for running abstract code. -/
import Derived.Test.YtljfbnbmcemdcaaGreatDoorAgFast
import Derived.IntWalk
set_option linter.unusedVariables false
namespace Go.Ag
open Go

/-- The first n objects stand as they stood. -/
def Keep (n : Nat) (H H' : Heap) : Prop := H.length ≤ H'.length ∧ ∀ i, i < n → H'[i]? = H[i]?

theorem Keep.refl (n : Nat) (H : Heap) : Keep n H H := ⟨Nat.le_refl _, fun _ _ => rfl⟩
theorem Keep.trans {n : Nat} {a b c : Heap} (h : Keep n a b) (h' : Keep n b c) : Keep n a c := ⟨Nat.le_trans h.1 h'.1, fun i hi => (h'.2 i hi).trans (h.2 i hi)⟩
theorem Keep.push {n : Nat} {H : Heap} (hn : n ≤ H.length) (o : AObj) : Keep n H (H ++ [o]) := ⟨by simp, fun i hi => by rw [List.getElem?_append_left (by omega)]⟩
theorem Keep.set {n id : Nat} {H : Heap} (hn : n ≤ id) (o : AObj) : Keep n H (H.set id o) := ⟨by simp, fun i hi => by rw [List.getElem?_set_ne (by omega)]⟩
theorem Keep.ext {H H' : Heap} (h : Keep H.length H H') : ∃ J, H' = H ++ J := by
  refine ⟨H'.drop H.length, ?_⟩
  conv => lhs; rw [← List.take_append_drop H.length H']
  congr 1
  apply List.ext_getElem?
  intro i
  rw [List.getElem?_take]
  split
  · rename_i hi; exact h.2 i hi
  · rename_i hi; rw [List.getElem?_eq_none (by omega)]

theorem get_lt {H : Heap} {i : Nat} {o : AObj} (h : H[i]? = some o) : i < H.length := by
  rcases Nat.lt_or_ge i H.length with h' | h'
  · exact h'
  · rw [List.getElem?_eq_none h'] at h; cases h
theorem get_push {H : Heap} {i : Nat} {o : AObj} (h : H[i]? = some o) (x : AObj) : (H ++ [x])[i]? = some o := by rw [List.getElem?_append_left (get_lt h)]; exact h
theorem get_new (H : Heap) (x : AObj) : (H ++ [x])[H.length]? = some x := by simp
theorem get_set {H : Heap} {i : Nat} {o : AObj} (h : H[i]? = some o) (x : AObj) : (H.set i x)[i]? = some x := by simp [get_lt h]
theorem get_other {H : Heap} {i j : Nat} {o : AObj} (h : H[i]? = some o) (hne : j ≠ i) (x : AObj) : (H.set j x)[i]? = some o := by rw [List.getElem?_set_ne hne]; exact h

theorem load_at {H : Heap} {id off t : Nat} {cs : List AVal} {c : AVal} (h : H[id]? = some (.cells cs t)) (hc : cs[off]? = some c) : loadAt H none (.ptr id off) = some c := by
  have hlt : off < cs.length := by
    rcases Nat.lt_or_ge off cs.length with h' | h'
    · exact h'
    · rw [List.getElem?_eq_none h'] at hc; cases hc
  have h1 : (cs.drop off).take 1 = [c] := by
    rw [List.drop_eq_getElem_cons hlt]
    rw [List.getElem?_eq_getElem hlt] at hc
    simp [Option.some.inj hc]
  simp only [loadAt, cellsAt, h]
  rw [if_pos (by omega), h1]
theorem load_all {H : Heap} {id t k : Nat} {cs : List AVal} (h : H[id]? = some (.cells cs t)) (hk : cs.length = k) : loadAt H (some k) (.ptr id 0) = some (.agg cs) := by
  simp only [loadAt, cellsAt, h]
  rw [if_pos (by omega), List.drop_zero, ← hk, List.take_length]
  rfl
theorem store_at {H : Heap} {id off t k : Nat} {cs : List AVal} {x : AVal} (h : H[id]? = some (.cells cs t)) (hx : x.cells.length = k) (hk : off + k ≤ cs.length) : storeAt H k (.ptr id off) x = some (H.set id (.cells (cs.take off ++ x.cells ++ cs.drop (off + k)) t)) := by
  simp only [storeAt, h]
  rw [if_pos ⟨hx, hk⟩]

/-- A store, the heap behind it under a name of its own. -/
theorem store_next {H : Heap} {id off t k : Nat} {cs : List AVal} {x : AVal} (h : H[id]? = some (.cells cs t)) (hx : x.cells.length = k) (hk : off + k ≤ cs.length) :
    ∃ H', storeAt H k (.ptr id off) x = some H' ∧ H'[id]? = some (.cells (cs.take off ++ x.cells ++ cs.drop (off + k)) t) ∧ (∀ i o, H[i]? = some o → i ≠ id → H'[i]? = some o) ∧ ∀ n, n ≤ id → Keep n H H' :=
  ⟨_, store_at h hx hk, get_set h _, fun i o ho hne => get_other ho (Ne.symm hne) _, fun n hn => Keep.set hn _⟩

/-! what a run is stuck at -/
theorem step_load {H : Heap} {k : Option Nat} {a v : AVal} {P : AVal → Prop} (h : loadAt H k a = some v) (hp : P v) : (match loadAt H k a with
    | some v => P v
    | none => False) := by rw [h]; exact hp
theorem step_some {o : Option AVal} {v : AVal} {P : AVal → Prop} (h : o = some v) (hp : P v) : (match (generalizing := false) o with
    | some v => P v
    | none => False) := by rw [h]; exact hp
theorem add_str {a b : List UInt8} (h : a.length + b.length ≤ 2 ^ 60) : evBin .add (.str a) (.str b) = some (.str (a ++ b)) := by
  show (if a.length + b.length ≤ maxStr then _ else _) = _
  rw [if_pos (by simp only [maxStr]; omega)]
theorem step_store {H H' : Heap} {k : Nat} {a x : AVal} {P : Heap → Prop} (hx : okCells k x) (h : storeAt H k a x = some H') (hp : P H') : okCells k x ∧ (match storeAt H k a x with
    | some H' => P H'
    | none => False) := ⟨hx, by rw [h]; exact hp⟩
theorem ptr_ok {H : Heap} {id off : Nat} {o : AObj} (h : H[id]? = some o) : ptrOK H.length (.ptr id off) = true := by simp [ptrOK, get_lt h]
theorem soft_load {H : Heap} {k : Option Nat} {a v : AVal} {P : AVal → Prop} (hp : ptrOK H.length a = true) (h : loadAt H k a = some v) (hk : P v) : ptrOK H.length a = true ∧ (match loadAt H k a with
    | some v => P v
    | none => False) := ⟨hp, by rw [h]; exact hk⟩
theorem ok1 {x : AVal} (h : oneA x = true) : okCells 1 x := by cases x <;> first | (cases h; done) | exact ⟨rfl, rfl⟩

theorem add1 {k : Nat} (h : k + 1 < 9223372036854775808) : AVal.int .i64 (IntKind.i64.wrap ((k : Int) + 1)) = .int .i64 ((k + 1 : Nat) : Int) := by
  have : IntKind.i64.wrap ((k : Int) + 1) = (k : Int) + 1 := by
    exact IntWalk.i64_in _ (by omega)
  rw [this]; rfl
theorem u8_beq (c d : UInt8) : ((c.toNat : Int) == (d.toNat : Int)) = (c == d) := by
  rw [Bool.eq_iff_iff]
  simp only [beq_iff_eq, Int.ofNat_inj]
  exact UInt8.toNat_inj

/-- A list that only we may append to: what it holds lies at n or beyond. -/
def Acc (n : Nat) (H : Heap) (xs : List AVal) (t : Nat) (tk : Tok) : Prop := (tk = .nil ∧ xs = []) ∨ ∃ id, tk = .tail id ∧ n ≤ id ∧ H[id]? = some (.tail xs.length t)

theorem Acc.keepTail {n : Nat} {H H' : Heap} {xs : List AVal} {t : Nat} {tk : Tok} (h : Acc n H xs t tk) (hk : ∀ (i : Nat) (m : Nat), n ≤ i → H[i]? = some (.tail m t) → H'[i]? = some (.tail m t)) : Acc n H' xs t tk := by
  rcases h with h | ⟨id, e1, e2, e3⟩
  · exact .inl h
  · exact .inr ⟨id, e1, e2, hk _ _ e2 e3⟩

/-- What an append to such a list (or to a full one) changes: that tail alone. -/
def Grown (n t : Nat) (H H' : Heap) : Prop := Keep n H H' ∧ ∀ (i : Nat) (o : AObj), H[i]? = some o → (∀ m, o ≠ .tail m t) → H'[i]? = some o

theorem app_new {k bytes t : Nat} {xs ys : List AVal} {tk tk0 : Tok} {H : Heap} {K : AVal → Heap → Prop} (hx : Sized k xs) (hy : Sized k ys) (hb : (xs.length + ys.length) * bytes ≤ 2 ^ 46) (hl : xs.length + ys.length ≤ 2 ^ 46) (hne : ys ≠ [])
    (ht : tk = .nil ∨ tk = .full) (h : K (.lst (xs ++ ys) (.tail H.length)) (H ++ [.tail (xs ++ ys).length t])) : appK k bytes t (.lst xs tk) (.lst ys tk0) H K := by
  unfold appK
  refine ⟨hx, hy, hb, hl, ?_⟩
  rw [if_neg hne]
  rcases ht with rfl | rfl <;> exact .inl h
theorem app_in {k bytes t id : Nat} {xs ys : List AVal} {tk0 : Tok} {H : Heap} {K : AVal → Heap → Prop} (hx : Sized k xs) (hy : Sized k ys) (hb : (xs.length + ys.length) * bytes ≤ 2 ^ 46) (hl : xs.length + ys.length ≤ 2 ^ 46) (hne : ys ≠ [])
    (hid : H[id]? = some (.tail xs.length t)) (h : K (.lst (xs ++ ys) (.tail id)) (H.set id (.tail (xs ++ ys).length t))) : appK k bytes t (.lst xs (.tail id)) (.lst ys tk0) H K := by
  unfold appK
  refine ⟨hx, hy, hb, hl, ?_⟩
  rw [if_neg hne]
  dsimp only
  rw [hid]
  exact ⟨⟨rfl, rfl⟩, h⟩
theorem app_none {k bytes t : Nat} {xs : List AVal} {tk tk0 : Tok} {H : Heap} {K : AVal → Heap → Prop} (hx : Sized k xs) (hb : xs.length * bytes ≤ 2 ^ 46) (hl : xs.length ≤ 2 ^ 46)
    (h : K (.lst xs tk) H) : appK k bytes t (.lst xs tk) (.lst [] tk0) H K := by
  unfold appK
  refine ⟨hx, fun x hx => (by cases hx), by simpa using hb, by simpa using hl, ?_⟩
  rw [if_pos rfl]; exact h
/-- An append to a list of ours. -/
theorem app_acc {k bytes t n : Nat} {xs ys : List AVal} {tk tk0 : Tok} {H : Heap} {K : AVal → Heap → Prop} (hx : Sized k xs) (hy : Sized k ys) (hb : (xs.length + ys.length) * bytes ≤ 2 ^ 46) (hl : xs.length + ys.length ≤ 2 ^ 46) (hne : ys ≠ []) (hn : n ≤ H.length)
    (ha : Acc n H xs t tk) (h : ∀ tk' H', Grown n t H H' → Acc n H' (xs ++ ys) t tk' → K (.lst (xs ++ ys) tk') H') : appK k bytes t (.lst xs tk) (.lst ys tk0) H K := by
  rcases ha with ⟨rfl, _⟩ | ⟨id, rfl, e2, e3⟩
  · exact app_new hx hy hb hl hne (.inl rfl) (h _ _ ⟨Keep.push hn _, fun i o ho _ => get_push ho _⟩ (.inr ⟨_, rfl, hn, get_new _ _⟩))
  · exact app_in hx hy hb hl hne e3 (h _ _ ⟨Keep.set e2 _, fun i o ho hm => get_other ho (fun e => by subst e; rw [e3] at ho; exact hm _ (Option.some.inj ho).symm) _⟩ (.inr ⟨_, rfl, e2, get_set e3 _⟩))
theorem app_full {k bytes t n : Nat} {xs ys : List AVal} {tk0 : Tok} {H : Heap} {K : AVal → Heap → Prop} (hx : Sized k xs) (hy : Sized k ys) (hb : (xs.length + ys.length) * bytes ≤ 2 ^ 46) (hl : xs.length + ys.length ≤ 2 ^ 46) (hne : ys ≠ []) (hn : n ≤ H.length)
    (h : ∀ tk' H', Grown n t H H' → Acc n H' (xs ++ ys) t tk' → K (.lst (xs ++ ys) tk') H') : appK k bytes t (.lst xs .full) (.lst ys tk0) H K :=
  app_new hx hy hb hl hne (.inr rfl) (h _ _ ⟨Keep.push hn _, fun i o ho _ => get_push ho _⟩ (.inr ⟨_, rfl, hn, get_new _ _⟩))
theorem appS_acc {bytes t n : Nat} {xs : List AVal} {y : List UInt8} {tk : Tok} {H : Heap} {K : AVal → Heap → Prop} (hx : Sized 1 xs) (hb : (xs.length + y.length) * bytes ≤ 2 ^ 46) (hl : xs.length + y.length ≤ 2 ^ 46) (hne : y ≠ []) (hn : n ≤ H.length)
    (ha : Acc n H xs t tk) (h : ∀ tk' H', Grown n t H H' → Acc n H' (xs ++ byteL y) t tk' → K (.lst (xs ++ byteL y) tk') H') : appSK bytes t (.lst xs tk) (.str y) H K := by
  have hlen : (xs ++ byteL y).length = xs.length + y.length := by simp [byteL]
  unfold appSK
  refine ⟨hx, hb, hl, ?_⟩
  rw [if_neg hne]
  rcases ha with ⟨rfl, _⟩ | ⟨id, rfl, e2, e3⟩
  · exact h _ _ ⟨Keep.push hn _, fun i o ho _ => get_push ho _⟩ (.inr ⟨_, rfl, hn, by rw [hlen]; exact get_new _ _⟩)
  · dsimp only
    rw [e3]
    exact ⟨⟨rfl, rfl⟩, h _ _ ⟨Keep.set e2 _, fun i o ho hm => get_other ho (fun e => by subst e; rw [e3] at ho; exact hm _ (Option.some.inj ho).symm) _⟩ (.inr ⟨_, rfl, e2, by rw [hlen]; exact get_set e3 _⟩)⟩

theorem byteL_len (s : List UInt8) : (byteL s).length = s.length := by simp [byteL]
theorem byteL_app (s t : List UInt8) : byteL (s ++ t) = byteL s ++ byteL t := by simp [byteL]

theorem setL_or (l : List (Nat × AVal)) (i : Nat) : setL (fun _ => .undef) l i = .undef ∨ ∃ p ∈ l, p.1 = i ∧ setL (fun _ => .undef) l i = p.2 := by
  induction l with
  | nil => exact .inl rfl
  | cons p l ih =>
    obtain ⟨j, v⟩ := p
    simp only [setL, upd]
    by_cases hj : i = j
    · rw [if_pos hj]; exact .inr ⟨(j, v), by simp, hj.symm, rfl⟩
    · rw [if_neg hj]
      rcases ih with h | ⟨p, hp, h1, h2⟩
      · exact .inl h
      · exact .inr ⟨p, by simp [hp], h1, h2⟩

/-- A loop's next round: the slots that matter, the objects that matter. -/
theorem GC.next {L : Lnk} {n0 : Nat} {I : Env → Heap → Prop} (hG : GC L n0 I) (l : List (Nat × AVal)) (H K J : Heap) {e' : Env} {H' : Heap} (hH : H' = K ++ J) (hn : n0 ≤ H.length) (hK : K.length = H.length)
    (hl : ∀ p ∈ l, Weak L (e' p.1) p.2 ∧ Low H.length p.2) (hw : ∀ (i : Nat) (o o' : AObj), K[i]? = some o → H[i]? = some o' → WeakO L o o') (hlo : ∀ o ∈ H, LowO H.length o)
    (hI : I (setL (fun _ => .undef) l) H) : I e' H' := by
  subst hH
  refine hG _ e' H K J (fun i => ?_) hK hw hlo hn hI
  rcases setL_or l i with h | ⟨p, hp, h1, h2⟩
  · rw [h]; exact ⟨fun g v _ => .undef v, .undef⟩
  · rw [h2, ← h1]; exact hl p hp

end Go.Ag
