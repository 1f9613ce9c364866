/- Slots for tails: a list that lies in a variable and is appended to, its tail at a place of its own; contracts at a heap's first objects. -/
import Derived.Test.YtljfbnbmcemdcaaGreatDoorAgPure
import Derived.Test.YtljfbnbmcemdcaaGreatDoorAgFast2
set_option linter.unusedVariables false
namespace Go.Ag
open Go

variable {L : Lnk}

def dtok (n id : Nat) : Tok := match n with
  | 0 => .nil
  | _ + 1 => .tail id
def dobj (n t : Nat) : AObj := match n with
  | 0 => .dead
  | n + 1 => .tail (n + 1) t

theorem app_slot {k bytes t id : Nat} {xs ys : List AVal} {tk0 : Tok} {H : Heap} {K : AVal → Heap → Prop} (hx : Sized k xs) (hy : Sized k ys) (hb : (xs.length + ys.length) * bytes ≤ 2 ^ 46) (hl : xs.length + ys.length ≤ 2 ^ 46) (hne : ys ≠ [])
    (hid : H[id]? = some (dobj xs.length t)) (h : K (.lst (xs ++ ys) (dtok (xs ++ ys).length id)) (H.set id (dobj (xs ++ ys).length t))) : appK k bytes t (.lst xs (dtok xs.length id)) (.lst ys tk0) H K := by
  have hn : ∃ m, (xs ++ ys).length = m + 1 := by
    cases hm : (xs ++ ys).length with
    | zero =>
      rw [List.length_append] at hm
      exact absurd (List.eq_nil_of_length_eq_zero (by omega)) hne
    | succ m => exact ⟨m, rfl⟩
  obtain ⟨m, hm⟩ := hn
  rw [hm] at h
  simp only [dtok, dobj] at h
  unfold appK
  refine ⟨hx, hy, hb, hl, ?_⟩
  rw [if_neg hne, hm]
  cases hn : xs.length with
  | zero =>
    rw [hn] at hid
    exact .inr ⟨id, hid, h⟩
  | succ n =>
    rw [hn] at hid
    simp only [dtok, dobj] at hid ⊢
    rw [hid]
    exact ⟨⟨rfl, rfl⟩, h⟩

/-- The same for a list that began as a full one of no elements. -/
def ftok (n id : Nat) : Tok := match n with
  | 0 => .full
  | _ + 1 => .tail id

theorem app_slotF {k bytes t id : Nat} {xs ys : List AVal} {tk0 : Tok} {H : Heap} {K : AVal → Heap → Prop} (hx : Sized k xs) (hy : Sized k ys) (hb : (xs.length + ys.length) * bytes ≤ 2 ^ 46) (hl : xs.length + ys.length ≤ 2 ^ 46)
    (hid : H[id]? = some (dobj xs.length t)) (h : K (.lst (xs ++ ys) (ftok (xs ++ ys).length id)) (H.set id (dobj (xs ++ ys).length t))) : appK k bytes t (.lst xs (ftok xs.length id)) (.lst ys tk0) H K := by
  by_cases hne : ys = []
  · subst hne
    unfold appK
    refine ⟨hx, hy, hb, hl, ?_⟩
    rw [if_pos rfl]
    rw [List.append_nil] at h
    have hset : H.set id (dobj xs.length t) = H := by
      apply List.ext_getElem?
      intro i
      rw [List.getElem?_set]
      split
      · rename_i e
        subst e
        split
        · exact hid.symm
        · rename_i hlt
          rw [List.getElem?_eq_none (by omega)]
      · rfl
    rw [hset] at h
    exact h
  have hn : ∃ m, (xs ++ ys).length = m + 1 := by
    cases hm : (xs ++ ys).length with
    | zero =>
      rw [List.length_append] at hm
      exact absurd (List.eq_nil_of_length_eq_zero (by omega)) hne
    | succ m => exact ⟨m, rfl⟩
  obtain ⟨m, hm⟩ := hn
  rw [hm] at h
  simp only [ftok, dobj] at h
  unfold appK
  refine ⟨hx, hy, hb, hl, ?_⟩
  rw [if_neg hne, hm]
  cases hn : xs.length with
  | zero =>
    rw [hn] at hid
    exact .inr ⟨id, hid, h⟩
  | succ n =>
    rw [hn] at hid
    simp only [ftok, dobj] at hid ⊢
    rw [hid]
    exact ⟨⟨rfl, rfl⟩, h⟩

/-- The same for a list that began as a full one of b elements. -/
def btok (b n id : Nat) : Tok := if n ≤ b then .full else .tail id
def bobj (b n t : Nat) : AObj := if n ≤ b then .dead else .tail n t
theorem btok_low {b n m id : Nat} (h : id < n) : tokLow n (btok b m id) := by unfold btok; split <;> first | trivial | exact h
theorem bobj_low (b n m t : Nat) : LowO n (bobj b m t) := by unfold bobj; split <;> trivial

theorem app_slotB {b k bytes t id : Nat} {xs ys : List AVal} {tk0 : Tok} {H : Heap} {K : AVal → Heap → Prop} (hx : Sized k xs) (hy : Sized k ys) (hb : (xs.length + ys.length) * bytes ≤ 2 ^ 46) (hl : xs.length + ys.length ≤ 2 ^ 46) (hne : ys ≠ []) (hbx : b ≤ xs.length)
    (hid : H[id]? = some (bobj b xs.length t)) (h : K (.lst (xs ++ ys) (btok b (xs ++ ys).length id)) (H.set id (bobj b (xs ++ ys).length t))) : appK k bytes t (.lst xs (btok b xs.length id)) (.lst ys tk0) H K := by
  have hlt : ¬ (xs ++ ys).length ≤ b := by
    have : ys.length ≠ 0 := fun e => hne (List.eq_nil_of_length_eq_zero e)
    rw [List.length_append]; omega
  unfold btok bobj at h
  rw [if_neg hlt, if_neg hlt] at h
  unfold appK
  refine ⟨hx, hy, hb, hl, ?_⟩
  rw [if_neg hne]
  unfold bobj at hid
  unfold btok
  by_cases hn : xs.length ≤ b
  · rw [if_pos hn] at hid ⊢
    exact .inr ⟨id, hid, h⟩
  · rw [if_neg hn] at hid ⊢
    dsimp only
    rw [hid]
    exact ⟨⟨rfl, rfl⟩, h⟩

theorem Pure.weak {f : Nat} {args args' : List AVal} {y : AVal} (h : Pure L f args' y) (hw : WeakL L args args') : Pure L f args y := fun H g w vs hs hr => h H g w vs hs (hr.weak hw)

theorem Pure.runD (k : Nat) {f : Nat} {args : List AVal} {y : AVal} (ha : ∀ x ∈ args, Low 0 x) (hy : Low 0 y) (h : ACalls L f args (List.replicate k .dead) fun r _ => ∃ x, r = .ret x ∧ Weak L x y) : Pure L f args y :=
  Pure.run ha hy (ACalls.deads k (by simpa using h))

theorem dtok_low {n m id : Nat} (h : id < n) : tokLow n (dtok m id) := by cases m <;> first | trivial | exact h
theorem weak_dtok (id : Nat) : Weak L (.lst [] .nil) (.lst [] (dtok 0 id)) := Weak.refl _
theorem dobj_low (n m t : Nat) : LowO n (dobj m t) := by cases m <;> trivial

/-! heaps object by object -/
def WeakHs (L : Lnk) : Heap → Heap → Prop
  | [], [] => True
  | o :: K, o' :: H => WeakO L o o' ∧ WeakHs L K H
  | _, _ => False
theorem WeakHs.len : ∀ {K H : Heap}, WeakHs L K H → K.length = H.length
  | [], [], _ => rfl
  | o :: K, o' :: H, h => by simp [WeakHs.len h.2]
  | [], _ :: _, h => h.elim
  | _ :: _, [], h => h.elim
theorem WeakHs.at : ∀ {K H : Heap}, WeakHs L K H → ∀ (i : Nat) (o o' : AObj), K[i]? = some o → H[i]? = some o' → WeakO L o o'
  | [], [], _, i, o, o', h, _ => by simp at h
  | x :: K, x' :: H, h, i, o, o', h1, h2 => by
    cases i with
    | zero => simp at h1 h2; subst h1 h2; exact h.1
    | succ i => exact WeakHs.at h.2 i o o' (by simpa using h1) (by simpa using h2)
  | [], _ :: _, h, _, _, _, _, _ => h.elim
  | _ :: _, [], h, _, _, _, _, _ => h.elim
theorem WeakHs.refl : ∀ (H : Heap), WeakHs L H H
  | [] => trivial
  | o :: H => ⟨WeakO.refl o, WeakHs.refl H⟩
def LowHs (n : Nat) : Heap → Prop
  | [] => True
  | o :: H => LowO n o ∧ LowHs n H
theorem LowHs.at {n : Nat} : ∀ {H : Heap}, LowHs n H → ∀ o ∈ H, LowO n o
  | [], _, o, h => by cases h
  | x :: H, h, o, ho => by
    rcases List.mem_cons.1 ho with rfl | ho
    · exact h.1
    · exact LowHs.at h.2 o ho
/-- The slots that matter, each with what it may be taken for. -/
def Slots (L : Lnk) (n : Nat) (e : Env) : List (Nat × AVal) → Prop
  | [] => True
  | p :: l => (Weak L (e p.1) p.2 ∧ Low n p.2) ∧ Slots L n e l
theorem Slots.at {n : Nat} {e : Env} : ∀ {l : List (Nat × AVal)}, Slots L n e l → ∀ p ∈ l, Weak L (e p.1) p.2 ∧ Low n p.2
  | [], _, p, h => by cases h
  | q :: l, h, p, hp => by
    rcases List.mem_cons.1 hp with rfl | hp
    · exact h.1
    · exact Slots.at h.2 p hp

theorem GC.nextS {n0 : Nat} {I : Env → Heap → Prop} (hG : GC L n0 I) (l : List (Nat × AVal)) (H K J : Heap) {e' : Env} {H' : Heap} (hH : H' = K ++ J) (hn : n0 ≤ H.length)
    (hw : WeakHs L K H) (hl : Slots L H.length e' l) (hlo : LowHs H.length H) (hI : I (setL (fun _ => .undef) l) H) : I e' H' :=
  GC.next hG l H K J hH hn hw.len hl.at hw.at hlo.at hI

def LowL (n : Nat) : List AVal → Prop
  | [] => True
  | x :: l => Low n x ∧ LowL n l
theorem LowL.at {n : Nat} : ∀ {l : List AVal}, LowL n l → ∀ x ∈ l, Low n x
  | [], _, x, h => by cases h
  | y :: l, h, x, hx => by
    rcases List.mem_cons.1 hx with rfl | hx
    · exact h.1
    · exact LowL.at h.2 x hx
theorem lowC {n t : Nat} {cs : List AVal} (h : LowL n cs) : LowO n (.cells cs t) := h.at
def LowS (n : Nat) : List (Nat × AVal) → Prop
  | [] => True
  | p :: l => Low n p.2 ∧ LowS n l
theorem slots_of {n : Nat} {e : Env} : ∀ {l : List (Nat × AVal)}, envHas e l → LowS n l → Slots L n e l
  | [], _, _ => trivial
  | (i, v) :: l, h, hl => ⟨⟨by show Weak L (e i) v; rw [h.1]; exact Weak.refl _, hl.1⟩, slots_of h.2 hl.2⟩

/-- A loop's next round: the first objects are as they should be, the rest is forgotten. -/
theorem GC.keep {n0 : Nat} {I : Env → Heap → Prop} (hG : GC L n0 I) (l : List (Nat × AVal)) (H : Heap) {e' : Env} {H' : Heap} (hn : n0 ≤ H.length) (hH : H'.take H.length = H)
    (he : envHas e' l) (hl : LowS H.length l) (hlo : LowHs H.length H) (hI : I (setL (fun _ => .undef) l) H) : I e' H' :=
  hG.nextS l H H (H'.drop H.length) (by
    conv => lhs; rw [← List.take_append_drop H.length H', hH]) hn (WeakHs.refl H) (slots_of he hl) hlo hI

/-! the first two objects: a variable, and the tail of a list that lies in it -/
/-- A call that is told the first two objects. -/
def Call2 (L : Lnk) (f : Nat) (args : List AVal) (a b : AObj) (y : AVal) (a' b' : AObj) : Prop :=
  ACalls L f args [a, b] fun r H' => r = .ret y ∧ H' = [a', b']

def Plain (ρ : Nat → Nat) (o : AObj) : Prop := renO ρ o = o

theorem nameOf01 (n : Nat) : nameOf [0, 1] n 0 = 0 ∧ nameOf [0, 1] n 1 = 1 := ⟨rfl, rfl⟩

/-- A value that names the first two places alone is what it was. -/
theorem ren01 {n : Nat} {x : AVal} (h : Low 2 x) : ren (nameOf [0, 1] n) x = x := ren_low (n := 2) (fun i hi => by
  have : i = 0 ∨ i = 1 := by omega
  rcases this with rfl | rfl <;> rfl) h
theorem renO01 {n : Nat} {o : AObj} (h : LowO 2 o) : renO (nameOf [0, 1] n) o = o := by
  cases o with
  | cells cs t =>
    simp only [renO]
    rw [renL_map, show cs.map (ren (nameOf [0, 1] n)) = cs from (List.map_congr_left (g := id) fun x hx => ren01 (h x hx)).trans (List.map_id cs)]
  | arr v xs =>
    simp only [renO]
    rw [renL_map, show xs.map (ren (nameOf [0, 1] n)) = xs from (List.map_congr_left (g := id) fun x hx => ren01 (h x hx)).trans (List.map_id xs)]
  | map es =>
    simp only [renO]
    rw [show es.map (fun p => (ren (nameOf [0, 1] n) p.1, ren (nameOf [0, 1] n) p.2)) = es from (List.map_congr_left (g := id) fun x hx => by rw [ren01 (h x hx).1, ren01 (h x hx).2]; rfl).trans (List.map_id es)]
  | _ => rfl

theorem Call2.at {f : Nat} {args : List AVal} {a b a' b' : AObj} {y : AVal} (h : Call2 L f args a b y a' b') (hargs : ∀ x ∈ args, Low 2 x) (ha : LowO 2 a) (hb : LowO 2 b) (hy : Low 2 y) (ha' : LowO 2 a') (hb' : LowO 2 b') (J : Heap) :
    ACalls L f args (a :: b :: J) fun r H' => r = .ret y ∧ H' = a' :: b' :: J := by
  have hp : Part (a :: b :: J) [0, 1] [a, b] := by
    refine ⟨by decide, rfl, fun k i o hk ho => ?_⟩
    match k, hk, ho with
    | 0, hk, ho => simp at hk ho; subst hk ho; rw [renO01 ha]; rfl
    | 1, hk, ho => simp at hk ho; subst hk ho; rw [renO01 hb]; rfl
    | k + 2, hk, ho => simp at hk
  have h1 := ACalls.frameL h [0, 1] hp (.inr fun r H1 hq => by rw [hq.2]; exact Nat.le_refl _)
  rw [show args.map (ren (nameOf [0, 1] (a :: b :: J).length)) = args from (List.map_congr_left (g := id) fun x hx => ren01 (hargs x hx)).trans (List.map_id args)] at h1
  refine h1.mono fun r H' ⟨r1, H1, ⟨e1, e2⟩, _, e3, e4⟩ => ?_
  subst e1 e2
  refine ⟨by rw [e3]; simp only [renR]; rw [ren01 hy], by rw [e4]; simp [putL, renO01 ha', renO01 hb']⟩

theorem Call2.of {f : Nat} {args : List AVal} {a b a' b' : AObj} {y : AVal} (k : Nat) (hy : Low 2 y) (ha' : LowO 2 a') (hb' : LowO 2 b')
    (h : ACalls L f args ([a, b] ++ List.replicate k .dead) fun r H1 => ∃ x J, r = .ret x ∧ Weak L x y ∧ H1 = a' :: b' :: J) : Call2 L f args a b y a' b' := by
  have h1 := ACalls.deads k h
  refine (ACalls.gcW (Q := fun z H' => z = y ∧ H' = [a', b']) (h1.mono fun r H1 ⟨x, J, e1, e2, e3⟩ => ?_)).mono fun r H1 ⟨z, e1, _, e2, e3⟩ => ⟨by rw [e1, e2], e3⟩
  exact ⟨x, y, [a', b'], [a', b'], J, by rw [e3]; rfl, e1, e2, hy, rfl, rfl, fun i o o' h1 h2 => by rw [h1] at h2; cases h2; exact WeakO.refl o, fun o ho => by
    simp only [List.mem_cons, List.not_mem_nil, or_false] at ho
    rcases ho with rfl | rfl
    · exact ha'
    · exact hb', rfl, rfl⟩

end Go.Ag
