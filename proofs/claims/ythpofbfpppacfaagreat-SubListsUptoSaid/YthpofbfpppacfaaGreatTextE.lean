/- Our texts, joined by a program of ours (join.py): part 5 of 8. -/
import Derived.Test.YthpofbfpppacfaaGreatTextD
import Derived.KernelRfl
/- Package parse: a record type's fields. -/
set_option linter.unusedVariables false
namespace Go.Ag
open Go

variable {T : Tab} {L : Lnk}

def vval (xs : List AVal) (k id : Nat) : AVal := match xs with
  | [] => .lst [] .nil
  | _ :: _ => .vec id xs.length k 0 xs.length
def vobj (xs : List AVal) (t : Nat) : AObj := match xs with
  | [] => .dead
  | _ :: _ => .arr xs.length xs t

theorem vval_ne {xs : List AVal} (h : xs ≠ []) (k id : Nat) : vval xs k id = .vec id xs.length k 0 xs.length := by cases xs with
  | nil => exact absurd rfl h
  | cons => rfl
theorem vobj_ne {xs : List AVal} (h : xs ≠ []) (t : Nat) : vobj xs t = .arr xs.length xs t := by cases xs with
  | nil => exact absurd rfl h
  | cons => rfl

theorem app_vec {k bytes t id : Nat} {xs ys : List AVal} {tk0 : Tok} {H : Heap} {K : AVal → Heap → Prop} (hx : Sized k xs) (hy : Sized k ys) (hb : (xs.length + ys.length) * bytes ≤ 2 ^ 46) (hl : xs.length + ys.length ≤ 2 ^ 46) (hne : ys ≠ [])
    (hid : H[id]? = some (vobj xs t)) (h : K (.vec id (xs ++ ys).length k 0 (xs ++ ys).length) (H.set id (.arr (xs ++ ys).length (xs ++ ys) t))) : appK k bytes t (vval xs k id) (.lst ys tk0) H K := by
  cases xs with
  | nil =>
    rw [show vval [] k id = .lst [] .nil from rfl]
    unfold appK
    refine ⟨hx, hy, hb, hl, ?_⟩
    rw [if_neg hne]
    exact .inr (.inr (.inl ⟨id, hid, h⟩))
  | cons x xs =>
    rw [vval_ne (List.cons_ne_nil _ _)]
    rw [vobj_ne (List.cons_ne_nil _ _)] at hid
    unfold appK
    rw [List.length_append] at h
    refine ⟨hy, ⟨rfl, rfl, hne⟩, hb, hl, ?_⟩
    rw [hid]
    refine ⟨⟨rfl, Nat.le_refl _, rfl, hx⟩, (x :: xs).length + ys.length, Nat.lt_add_of_pos_right (List.length_pos_iff.2 hne), ?_⟩
    rw [List.take_length]; exact h

def entsT : List (Bytes × TA) → Nat → List (AVal × AVal × Nat)
  | [], _ => []
  | p :: l, k => (.str p.1, p.2.av, k) :: entsT l (k + 1)
theorem entsT_append : ∀ (l : List (Bytes × TA)) (p : Bytes × TA) (k : Nat), entsT (l ++ [p]) k = entsT l k ++ [(.str p.1, p.2.av, k + l.length)]
  | [], p, k => rfl
  | q :: l, p, k => by
    rw [List.cons_append, entsT, entsT_append l p (k + 1), entsT, List.cons_append, List.length_cons, show k + 1 + l.length = k + (l.length + 1) from by omega]
theorem findT : ∀ (l : List (Bytes × TA)) (nm : Bytes) (k i : Nat), findM 1 (.str nm) (entsT l k) i = some ((l.findIdx? (·.1 == nm)).map fun j => (i + j, ((l.find? (·.1 == nm)).map (·.2.av)).getD .undef))
  | [], nm, k, i => rfl
  | p :: l, nm, k, i => by
    rw [entsT, findM, keyEq]
    cases h : (nm == p.1)
    · dsimp only
      rw [findT l nm (k + 1) (i + 1), List.findIdx?_cons, List.find?_cons, show (p.1 == nm) = false from by rw [Bool.beq_comm]; exact h]
      cases l.findIdx? (·.1 == nm) with
      | none => rfl
      | some j => simp; omega
    · dsimp only
      rw [List.findIdx?_cons, List.find?_cons, show (p.1 == nm) = true from by rw [Bool.beq_comm]; exact h]
      rfl
theorem findT_none {l : List (Bytes × TA)} {nm : Bytes} (h : hasR (l.map (·.1)) nm = false) (k i : Nat) : findM 1 (.str nm) (entsT l k) i = some none := by
  rw [findT]
  have : l.findIdx? (·.1 == nm) = none := by
    rw [List.findIdx?_eq_none_iff]
    intro p hp
    simp only [hasR, List.any_map, List.any_eq_false] at h
    simpa using h p hp
  rw [this]; rfl

theorem putM_new {kk : Nat} {H : Heap} {id c : Nat} {k v : AVal} {es : List (AVal × AVal × Nat)} (h : H[id]? = some (.map es c)) (hf : findM kk k es 0 = some none) : putM kk H (.map id) k v = some (H.set id (.map (es ++ [(k, v, c)]) (c + 1))) := by
  simp only [putM, h, hf]

def namesT (x : List (Bytes × TA)) : List AVal := strA (x.map (·.1))
def zeroC4 : List AVal := [.int .i64 0, .str [], .lst [] .nil, .lst [] .nil]
def recO (d : Nat) (x : List (Bytes × TA)) : Nat → AObj
  | 0 => vobj (namesT x) 10
  | 1 => .dead
  | 2 => .cells [.ptr 1 0] 225
  | 3 => .cells [.int .i64 d] 4
  | 4 => .cells zeroC4 175
  | 5 => .cells [vval (namesT x) 1 2] 43
  | 6 => .map (entsT x 0) x.length
  | 7 => .cells [.map 8] 231
  | _ => .dead

def recStep (d n : Nat) (nm : Bytes) (x : List (Bytes × TA)) (s : RS) : List (Bytes × TA) × RS :=
  (if nm = [] ∨ (typeR n (d + 1) s).2.bad = true then x else x ++ [(nm, (typeR n (d + 1) s).1)], (typeR n (d + 1) s).2)

theorem recItem_spec (F : ParFns T) {N : Nat} (ih : ∀ m, m ≤ N → PTy T m) (d : Nat) (hd : d ≤ 64) (n : Nat) (nm : Bytes) (x : List (Bytes × TA)) (s : RS) (hn : n ≤ N) (hs : s.ok) (hb : s.bad = false) (hf : 6 * s.rem + 6 ≤ n)
    (hl : x.length + s.rem + 1 ≤ 2 ^ 34) (hnm : nm = [] ∨ (nm ≠ [] ∧ hasR (x.map (·.1)) nm = false)) :
    ACalls T.L 307 [.str nm, .ptr 4 0, .ptr 5 0, .ptr 7 0, .ptr 9 0] (pheap s ++ itemH (recO d) x) fun r H' => ∃ J, WeakR T.L r (outP (recStep d n nm x s).2.bad (.tup [])) ∧ H' = pheap (recStep d n nm x s).2 ++ (itemH (recO d) (recStep d n nm x s).1 ++ J) := by
  refine acallsG F.h307 (by simp [c_307]) ?_
  have ht := (ih n hn).typ (d + 1) s hs hb (by omega) hf
  unfold recStep
  have hle := (le_types n).1 (d + 1) s hs
  generalize typeR n (d + 1) s = q at ht hle ⊢
  obtain ⟨⟨k', nm', ns', l'⟩, s1⟩ := q
  dsimp only at ht hle ⊢
  conv => whnf
  rw [addN (by omega)]
  refine ht.to (low1 (.int _ _)) (low_ta _ _) _ rfl (fun hb1 => ?_) fun hb1 => ?_
  · conv => whnf
    rcases hnm with rfl | ⟨hne, hnew⟩
    · rw [if_pos (.inl rfl)]
      conv => whnf
      exact ⟨_, by rw [hb1]; exact Weak.refl _, rfl⟩
    · rw [if_neg (fun h => h.elim hne fun h => absurd (hb1.symm.trans h) (by decide))]
      rw [show (nm == ([] : Bytes)) = false from by simpa using hne]
      have hsz : (namesT x).length = x.length := by simp [namesT, strA]
      have hr1 := hle.rem
      have e1 : namesT (x ++ [(nm, TA.mk k' nm' ns' l')]) = namesT x ++ [.str nm] := by simp [namesT, strA]
      have e2 : entsT (x ++ [(nm, TA.mk k' nm' ns' l')]) 0 = entsT x 0 ++ [(.str nm, (TA.mk k' nm' ns' l').av, x.length)] := by rw [entsT_append, Nat.zero_add]
      have e3 : (x ++ [(nm, TA.mk k' nm' ns' l')]).length = x.length + 1 := by simp
      have hH : ∀ J : Heap, itemH (recO d) (x ++ [(nm, TA.mk k' nm' ns' l')]) ++ J = [.arr (namesT x ++ [AVal.str nm]).length (namesT x ++ [AVal.str nm]) 10, .dead, .cells [.ptr 1 0] 225, .cells [.int .i64 d] 4, .cells zeroC4 175, .cells [.vec 2 (namesT x ++ [AVal.str nm]).length 1 0 (namesT x ++ [AVal.str nm]).length] 43,
          .map (entsT x 0 ++ [(.str nm, (TA.mk k' nm' ns' l').av, x.length)]) (x.length + 1), .cells [.map 8] 231] ++ J := fun J => by
        have hn : namesT x ++ [AVal.str nm] ≠ [] := by simp
        rw [← vval_ne hn, ← vobj_ne hn, ← e1, ← e2, ← e3]; rfl
      have hfind := findT_none hnew 0 0
      have happ : ∀ {tk0 : Tok} {H : Heap} {K : AVal → Heap → Prop}, H[2]? = some (vobj (namesT x) 10) → K (.vec 2 (namesT x ++ [AVal.str nm]).length 1 0 (namesT x ++ [AVal.str nm]).length) (H.set 2 (.arr (namesT x ++ [AVal.str nm]).length (namesT x ++ [AVal.str nm]) 10)) → appK 1 16 10 (vval (namesT x) 1 2) (.lst [.str nm] tk0) H K :=
        fun h1 h2 => app_vec (sized_strA _) (sized_one rfl) (by rw [hsz]; simp; omega) (by rw [hsz]; simp; omega) (by simp) h1 h2
      have hH0 : itemH (recO d) x = [vobj (namesT x) 10, .dead, .cells [.ptr 1 0] 225, .cells [.int .i64 d] 4, .cells zeroC4 175, .cells [vval (namesT x) 1 2] 43, .map (entsT x 0) x.length, .cells [.map 8] 231] := rfl
      rw [hH0]
      simp only [hH]
      generalize entsT x 0 = E at hfind ⊢
      generalize namesT x = XS at happ ⊢
      clear hH0 hH e1 e2 e3
      cases XS
      all_goals
        conv => whnf
        refine happ rfl ?_
        conv => whnf
        rw [putM_new (es := E) (c := x.length) ?_ hfind]
        · conv => whnf
          exact ⟨_, by rw [hb1]; exact Weak.refl _, rfl⟩
        · rfl
  · rw [if_pos (.inr hb1)]
    conv => whnf
    exact ⟨_, by rw [hb1]; exact Weak.refl _, rfl⟩

end Go.Ag
/- Package parse: the fields of a record type, sorted: as the document's reader has them. -/
set_option linter.unusedVariables false
namespace Go.Ag
open Go

theorem bytesLess_lt : ∀ (x y : Bytes), bytesLess x y = decide (x < y)
  | [], [] => by simp [bytesLess]
  | _ :: _, [] => by simp [bytesLess]
  | [], _ :: _ => by simp [bytesLess]
  | a :: x, b :: y => by
    rw [bytesLess, bytesLess_lt x y]
    simp only [List.cons_lt_cons_iff]
    by_cases h1 : a < b <;> by_cases h2 : a = b <;> by_cases h3 : x < y <;> simp [h1, h2, h3]

def sortB (l : List Bytes) : List Bytes := l.mergeSort fun x y => decide (x ≤ y)
theorem sortB_perm (l : List Bytes) : (sortB l).Perm l := List.mergeSort_perm l _
theorem sortB_sorted (l : List Bytes) : (sortB l).Pairwise (· ≤ ·) := (List.pairwise_mergeSort (le := fun x y => decide (x ≤ y)) (fun a b c h1 h2 => by simp at *; exact List.le_trans h1 h2) (fun a b => by simp; exact List.le_total a b) l).imp (by simp)
theorem sortB_unique {l m : List Bytes} (hp : m.Perm l) (hs : m.Pairwise (· < ·)) : sortB l = m :=
  List.Perm.eq_of_pairwise (le := (· ≤ ·)) (fun a b _ _ h1 h2 => List.le_antisymm h1 h2) (sortB_sorted l) (hs.imp fun h => List.le_of_lt h) ((sortB_perm l).trans hp.symm)

variable {α : Type}
def insP (l : List (Bytes × α)) (p : Bytes × α) : List (Bytes × α) := insR l (lowR (l.map (·.1)) p.1) p
def recP (x : List (Bytes × α)) : List (Bytes × α) := x.foldl insP []

theorem insP_eq (l : List (Bytes × α)) (p : Bytes × α) : insP l p = l.takeWhile (fun q => bytesLess q.1 p.1) ++ [p] ++ l.dropWhile (fun q => bytesLess q.1 p.1) := by
  have h1 : lowR (l.map (·.1)) p.1 = (l.takeWhile (fun q => bytesLess q.1 p.1)).length := by
    unfold lowR
    rw [List.takeWhile_map, List.length_map]
    rfl
  unfold insP insR
  rw [h1]
  have h2 : l = l.takeWhile (fun q => bytesLess q.1 p.1) ++ l.dropWhile (fun q => bytesLess q.1 p.1) := List.takeWhile_append_dropWhile.symm
  have h3 : l.take (l.takeWhile (fun q => bytesLess q.1 p.1)).length = l.takeWhile (fun q => bytesLess q.1 p.1) := by
    conv => lhs; rw [h2]
    rw [← h2]
    conv => lhs; arg 2; rw [h2]
    rw [List.take_left]
  have h4 : l.drop (l.takeWhile (fun q => bytesLess q.1 p.1)).length = l.dropWhile (fun q => bytesLess q.1 p.1) := by
    conv => lhs; arg 2; rw [h2]
    rw [List.drop_left]
  rw [h3, h4]

theorem insP_perm (l : List (Bytes × α)) (p : Bytes × α) : (insP l p).Perm (l ++ [p]) := by
  rw [insP_eq]
  have h2 : l = l.takeWhile (fun q => bytesLess q.1 p.1) ++ l.dropWhile (fun q => bytesLess q.1 p.1) := List.takeWhile_append_dropWhile.symm
  conv => rhs; rw [h2]
  rw [List.append_assoc, List.append_assoc]
  exact List.Perm.append_left _ List.perm_append_comm

theorem mem_tw {β : Type} {p : β → Bool} : ∀ {l : List β} {a : β}, a ∈ l.takeWhile p → p a = true
  | [], a, h => by simp at h
  | b :: l, a, h => by
    rw [List.takeWhile_cons] at h
    split at h
    · rename_i hb
      rcases List.mem_cons.1 h with rfl | h
      · exact hb
      · exact mem_tw h
    · cases h

theorem insP_sorted {l : List (Bytes × α)} {p : Bytes × α} (h : l.Pairwise fun a b => a.1 < b.1) (hn : ∀ q ∈ l, q.1 ≠ p.1) : (insP l p).Pairwise fun a b => a.1 < b.1 := by
  rw [insP_eq]
  have h2 : l = l.takeWhile (fun q => bytesLess q.1 p.1) ++ l.dropWhile (fun q => bytesLess q.1 p.1) := List.takeWhile_append_dropWhile.symm
  have hlt : ∀ a ∈ l.takeWhile (fun q => bytesLess q.1 p.1), a.1 < p.1 := fun a ha => by
    have := mem_tw ha
    rw [bytesLess_lt] at this
    simpa using this
  have hgt : ∀ b ∈ l.dropWhile (fun q => bytesLess q.1 p.1), p.1 < b.1 := by
    have hsub : (l.dropWhile (fun q => bytesLess q.1 p.1)).Sublist l := List.dropWhile_sublist _
    have hp : (l.dropWhile (fun q => bytesLess q.1 p.1)).Pairwise fun a b => a.1 < b.1 := h.sublist hsub
    have hd : ∀ (h0 : l.dropWhile (fun q => bytesLess q.1 p.1) ≠ []), bytesLess ((l.dropWhile (fun q => bytesLess q.1 p.1)).head h0).1 p.1 = false := fun h0 => by
      have := List.head_dropWhile_not (fun q : Bytes × α => bytesLess q.1 p.1) (l := l) h0
      simpa using this
    have hm : ∀ q ∈ l.dropWhile (fun q => bytesLess q.1 p.1), q.1 ≠ p.1 := fun q hq => hn q (hsub.subset hq)
    generalize l.dropWhile (fun q => bytesLess q.1 p.1) = dw at hp hd hm
    cases dw with
    | nil => intro b hb; cases hb
    | cons b0 dw =>
      have h0 := hd (by simp)
      rw [bytesLess_lt] at h0
      have h1 : p.1 < b0.1 := by
        have h3 : ¬ b0.1 < p.1 := of_decide_eq_false h0
        rcases Decidable.em (p.1 < b0.1) with h | h
        · exact h
        · exact absurd (List.le_antisymm (List.not_lt.1 h) (List.not_lt.1 h3)) (hm b0 (by simp))
      intro b hb
      rcases List.mem_cons.1 hb with rfl | hb
      · exact h1
      · exact List.lt_trans h1 ((List.pairwise_cons.1 hp).1 b hb)
  rw [List.append_assoc, List.pairwise_append]
  refine ⟨h.sublist (List.takeWhile_sublist _), ?_, fun a ha b hb => ?_⟩
  · rw [List.singleton_append, List.pairwise_cons]
    exact ⟨hgt, h.sublist (List.dropWhile_sublist _)⟩
  · rw [List.singleton_append] at hb
    rcases List.mem_cons.1 hb with rfl | hb
    · exact hlt a ha
    · exact List.lt_trans (hlt a ha) (hgt b hb)

theorem recP_append (x : List (Bytes × α)) (p : Bytes × α) : recP (x ++ [p]) = insP (recP x) p := by unfold recP; rw [List.foldl_append]; rfl

theorem rev_ind {α : Type} {P : List α → Prop} (h0 : P []) (h1 : ∀ l a, P l → P (l ++ [a])) (l : List α) : P l := by
  have : ∀ l : List α, P l.reverse := fun l => by
    induction l with
    | nil => exact h0
    | cons a l ih => rw [List.reverse_cons]; exact h1 _ _ ih
  have h := this l.reverse
  rwa [List.reverse_reverse] at h

theorem recP_perm (x : List (Bytes × α)) : (recP x).Perm x := by
  induction x using rev_ind with
  | h0 => exact List.Perm.refl _
  | h1 l a ih => rw [recP_append]; exact (insP_perm _ _).trans (ih.append_right _)
theorem recP_sorted (x : List (Bytes × α)) (h : (x.map (·.1)).Nodup) : (recP x).Pairwise fun a b => a.1 < b.1 := by
  induction x using rev_ind with
  | h0 => exact List.Pairwise.nil
  | h1 l a ih =>
    rw [List.map_append, List.nodup_append] at h
    rw [recP_append]
    exact insP_sorted (ih h.1) fun q hq e => h.2.2 q.1 (List.mem_map_of_mem ((recP_perm l).mem_iff.1 hq)) a.1 (by simp) e

def lookP [Inhabited α] (x : List (Bytes × α)) (nm : Bytes) : α := ((x.find? (·.1 == nm)).map (·.2)).getD default
theorem lookP_mem [Inhabited α] {x : List (Bytes × α)} (h : (x.map (·.1)).Nodup) {p : Bytes × α} (hp : p ∈ x) : lookP x p.1 = p.2 := by
  induction x with
  | nil => cases hp
  | cons q x ih =>
    rw [List.map_cons, List.nodup_cons] at h
    unfold lookP
    rw [List.find?_cons]
    rcases List.mem_cons.1 hp with rfl | hp
    · simp
    · have : (q.1 == p.1) = false := by
        simp only [beq_eq_false_iff_ne]
        exact fun e => h.1 (by rw [e]; exact List.mem_map_of_mem hp)
      rw [this]
      exact ih h.2 hp

theorem recP_names (x : List (Bytes × α)) (h : (x.map (·.1)).Nodup) : (recP x).map (·.1) = sortB (x.map (·.1)) :=
  (sortB_unique ((recP_perm x).map _) (List.pairwise_map.2 (recP_sorted x h))).symm
theorem recP_vals [Inhabited α] (x : List (Bytes × α)) (h : (x.map (·.1)).Nodup) : (recP x).map (·.2) = (sortB (x.map (·.1))).map (lookP x) := by
  rw [← recP_names x h, List.map_map]
  exact List.map_congr_left fun p hp => (lookP_mem h ((recP_perm x).mem_iff.1 hp)).symm

theorem hasR_perm {l m : List Bytes} (h : l.Perm m) (s : Bytes) : hasR l s = hasR m s := by
  unfold hasR
  rw [Bool.eq_iff_iff, List.any_eq_true, List.any_eq_true]
  exact ⟨fun ⟨x, h1, h2⟩ => ⟨x, h.mem_iff.1 h1, h2⟩, fun ⟨x, h1, h2⟩ => ⟨x, h.mem_iff.2 h1, h2⟩⟩
theorem hasR_not {l : List Bytes} {s : Bytes} (h : hasR l s = false) : s ∉ l := fun hm => by
  rw [hasR, List.any_eq_false] at h
  exact h s hm (by simp)

theorem insR_map {α β : Type} (f : α → β) (l : List α) (i : Nat) (p : α) : (insR l i p).map f = insR (l.map f) i (f p) := by
  simp [insR, List.map_take, List.map_drop]

instance : Inhabited TA := ⟨zeroT⟩
def recT (x : List (Bytes × TA)) : TA := .mk 5 [] ((recP x).map (·.1)) ((recP x).map (·.2))
theorem recT_append (x : List (Bytes × TA)) (p : Bytes × TA) : recT (x ++ [p]) = .mk 5 [] (insR (recT x).names (lowR (recT x).names p.1) p.1) (insR (recT x).l (lowR (recT x).names p.1) p.2) := by
  unfold recT
  rw [recP_append, insP, insR_map, insR_map]
  rfl

def recSt (d : Nat) : Nat → Bytes → List (Bytes × TA) → RS → List (Bytes × TA) × RS := fun n nm x s => recStep d n nm x s

theorem fields_rel (d : Nat) : ∀ (n : Nat) (x : List (Bytes × TA)) (s : RS), (x.map (·.1)).Nodup → s.ok →
    (fieldsR n d (recT x) s).2 = (fieldsG kColon (recSt d) n (x.map (·.1)) x s).2 ∧
    ((fieldsG kColon (recSt d) n (x.map (·.1)) x s).2.bad = false → (fieldsR n d (recT x) s).1 = recT (fieldsG kColon (recSt d) n (x.map (·.1)) x s).1 ∧ ((fieldsG kColon (recSt d) n (x.map (·.1)) x s).1.map (·.1)).Nodup)
  | 0, x, s, h, hs => ⟨by rw [fieldsR]; rfl, fun _ => ⟨by rw [fieldsR]; rfl, h⟩⟩
  | n + 1, x, s, h, hs => by
    rw [fieldsR, fieldsG]
    by_cases h1 : (!s.bad && !isR s kRb) = true
    · rw [if_pos h1, if_pos h1]
      by_cases h2 : (takeR (nameR s).2 kColon).bad = true
      · rw [if_pos h2, if_pos h2]
        exact ⟨rfl, fun e => by rw [h2] at e; cases e⟩
      · rw [if_neg h2, if_neg h2]
        have h2' : (takeR (nameR s).2 kColon).bad = false := by simpa using h2
        have hn : hasR (recT x).names (nameR s).1.text = hasR (x.map (·.1)) (nameR s).1.text := hasR_perm ((recP_perm x).map _) _
        rw [hn]
        have k1 := twice_le hs kColon h2'
        have k2 := (name_le hs).trans (take_le (hs.of (name_le hs)) kColon)
        by_cases h3 : hasR (x.map (·.1)) (nameR s).1.text = true
        · rw [if_pos h3, if_pos h3]
          have k3 := (le_types n).1 (d + 1) _ (hs.of k1)
          have k4 := comma_le ((hs.of k1).of k3)
          have := fields_rel d n x _ h (((hs.of k1).of k3).of k4)
          exact this
        · rw [if_neg h3, if_neg h3]
          obtain ⟨h4, _, _⟩ := take_bad h2'
          obtain ⟨_, h6, h7⟩ := name_bad h4
          have hne : (nameR s).1.text ≠ [] := by
            rw [h7]
            exact hs.named _ (List.mem_of_getElem? (tok_at hs)) h6
          have k3 := (le_types n).1 (d + 1) _ (hs.of k2)
          have k4 := comma_le ((hs.of k2).of k3)
          have hok := ((hs.of k2).of k3).of k4
          simp only [recSt, recStep]
          generalize typeR n (d + 1) (takeR (nameR s).2 kColon) = q at hok k3 k4 ⊢
          by_cases h5 : q.2.bad = true
          · rw [if_pos (.inr h5), commaR_bad h5, fieldsG_bad h5]
            exact ⟨(bad_types n).2.2.2.2 d _ _ h5, fun e => by rw [h5] at e; cases e⟩
          · rw [if_neg (fun e => e.elim hne h5)]
            have hnd : ((x ++ [((nameR s).1.text, q.1)]).map (·.1)).Nodup := by
              rw [List.map_append, List.nodup_append]
              refine ⟨h, by simp, fun a ha b hb => ?_⟩
              simp only [List.map_cons, List.map_nil, List.mem_singleton] at hb
              subst hb
              intro e
              subst e
              exact hasR_not (by simpa using h3) ha
            have := fields_rel d n (x ++ [((nameR s).1.text, q.1)]) _ hnd hok
            rw [recT_append] at this
            rw [List.map_append] at this
            exact this
    · rw [if_neg h1, if_neg h1]
      exact ⟨rfl, fun _ => ⟨rfl, h⟩⟩

end Go.Ag
/- Package parse: record, plain. -/
set_option linter.unusedVariables false
namespace Go.Ag
open Go

variable {T : Tab} {L : Lnk}

theorem CallR.to {f : Nat} {args : List AVal} {H0 H1 : Heap} {r0 : ARet} (h : CallR L f args H0 r0 H1) (hlen : H1.length = H0.length) (hargs : ∀ x ∈ args, Low H0.length x) (h0 : ∀ o ∈ H0, LowO H0.length o) (hy : Low H0.length r0.v) (h1 : ∀ o ∈ H1, LowO H0.length o)
    {H : Heap} {K KP : AVal → Heap → Prop} (J : Heap) (hH : H = H0 ++ J) (hk : contR K KP r0 (H1 ++ J)) : ACalls L f args H (contR K KP) := by
  subst hH
  exact (CallR.at h hlen hargs h0 hy h1 J).mono fun r H' ⟨e1, e2⟩ => by subst e1 e2; exact hk

theorem ACalls.to1 {f : Nat} {args : List AVal} {H H1 : Heap} {y : AVal} (h : ACalls L f args H fun r H' => r = .ret y ∧ H' = H1) {K KP : AVal → Heap → Prop} (hk : K y H1) : ACalls L f args H (contR K KP) :=
  h.mono fun r H' ⟨e1, e2⟩ => by subst e1 e2; exact hk

structure ParLib (L : Lnk) : Prop where
  sort : ∀ (l : List Bytes) (n id t : Nat) (H : Heap), H[id]? = some (.arr n (strA l) t) → n = l.length → l ≠ [] → l.length ≤ 2 ^ 40 →
    ACalls L 200 [.vec id n 1 0 n] H fun r H' => r = .ret (.tup []) ∧ H' = H.set id (.arr n (strA (sortB l)) t)
  sort0 : ∀ H : Heap, ACalls L 200 [.lst [] .nil] H fun r H' => r = .ret (.tup []) ∧ H' = H

def recFree : List AVal := [.ptr 4 0, .ptr 5 0, .ptr 7 0, .ptr 9 0]

theorem entsT_low (n : Nat) : ∀ (l : List (Bytes × TA)) (k : Nat), ∀ e ∈ entsT l k, Low n e.1 ∧ Low n e.2.1
  | [], k, e, h => by cases h
  | p :: l, k, e, h => by
    rcases List.mem_cons.1 h with rfl | h
    · exact ⟨.str _, low_ta _ _⟩
    · exact entsT_low n l (k + 1) e h

theorem low_vobj {n t : Nat} {xs : List AVal} (h : ∀ z ∈ xs, Low n z) : LowO n (vobj xs t) := by
  cases xs with
  | nil => exact trivial
  | cons y ys => exact h
theorem low_vval {n k id : Nat} {xs : List AVal} (h : id < n) : Low n (vval xs k id) := by
  cases xs with
  | nil => exact .lst _ _ trivial low0
  | cons y ys => exact .vec _ _ _ _ _ h

theorem recO_low (d : Nat) (x : List (Bytes × TA)) : ∀ i, i < 8 → LowO 10 (recO d x i)
  | 0, _ => low_vobj (fun z hz => by
      obtain ⟨b, _, rfl⟩ := List.mem_map.1 hz
      exact .str b)
  | 1, _ => trivial
  | 2, _ => lowC ⟨.ptr _ _ (by decide : 1 < 10), trivial⟩
  | 3, _ => lowC ⟨.int _ _, trivial⟩
  | 4, _ => lowC ⟨.int _ _, .str _, .lst _ _ trivial low0, .lst _ _ trivial low0, trivial⟩
  | 5, _ => lowC ⟨low_vval (by decide : 2 < 10), trivial⟩
  | 6, _ => fun e he => entsT_low 10 x 0 e he
  | 7, _ => lowC ⟨.map _ (by decide : 8 < 10), trivial⟩
  | n + 8, h => by omega

theorem rec_ok (F : ParFns T) (N : Nat) (ih : ∀ m, m ≤ N → PTy T m) (d : Nat) (hd : d ≤ 64) : FieldsOK T (recO d) (recSt d) (fun x seen => x.map (·.1) = seen) 307 recFree N where
  lfree := fun x hx => by
    simp only [recFree, List.mem_cons, List.not_mem_nil, or_false] at hx
    rcases hx with rfl | rfl | rfl | rfl <;> exact .ptr _ _ (by decide)
  loo := recO_low d
  le := fun n nm x s hs => (le_types n).1 (d + 1) s hs
  none := fun n x s seen h => by rw [recSt, recStep, if_pos (.inl rfl)]; exact h
  some := fun n nm x s seen h h1 h2 h3 => by
    simp only [recSt, recStep] at h3 ⊢
    rw [if_neg (fun e => e.elim h1 fun e => by rw [h3] at e; cases e), List.map_append, h]; rfl
  item := fun n nm x s seen h1 h2 h3 h4 h5 h6 h7 h8 => by
    subst h5
    refine CallR.of 0 rfl (low_outP low_unit) (low_itemH (recO_low d) _ _) ((recItem_spec F ih d hd n nm x s h1 h2 h3 h4 (by rw [List.length_map] at h6; exact h6) h7).mono fun r H' ⟨J, e1, e2⟩ => ⟨_, J, e1, by rw [e2, List.append_assoc]; rfl, rfl, fun i o o' h1 h2 => by rw [h1] at h2; cases h2; exact WeakO.refl o⟩)

theorem flat_strA (l : List Bytes) : flat (strA l) = strA l := by
  induction l with
  | nil => rfl
  | cons s l ih =>
    show (AVal.str s).cells ++ flat (strA l) = _
    rw [ih]; rfl
theorem load_elem {H : Heap} {id n t i : Nat} {l : List Bytes} (h : H[id]? = some (.arr n (strA l) t)) (hi : i < l.length) : loadAt H none (.eptr id n i) = some (.str l[i]) := by
  simp only [loadAt, cellsAt, h, flat_strA]
  rw [if_pos ⟨trivial, by rw [strA_len]; omega⟩]
  have : ((strA l).drop i).take 1 = [.str l[i]] := by
    unfold strA
    rw [List.drop_eq_getElem_cons (by simpa using hi)]
    simp
  rw [this]

theorem lookM_T {H : Heap} {id c : Nat} {x : List (Bytes × TA)} {nm : Bytes} {z : AVal} (h : H[id]? = some (.map (entsT x 0) c)) (hm : nm ∈ x.map (·.1)) : lookM 1 z false H (.map id) (.str nm) = some (lookP x nm).av := by
  simp only [lookM, entsOf, h, findT, Option.map_some, lookV]
  obtain ⟨p, hp, hpn⟩ := List.mem_map.1 hm
  have h1 : (x.find? (·.1 == nm)).isSome = true := by
    rw [List.find?_isSome]
    exact ⟨p, hp, by simpa using hpn⟩
  have h2 : (x.findIdx? (·.1 == nm)).isSome = true := by
    rw [List.findIdx?_isSome, List.any_eq_true]
    exact ⟨p, hp, by simpa using hpn⟩
  obtain ⟨q, hq⟩ := Option.isSome_iff_exists.1 h1
  obtain ⟨j, hj⟩ := Option.isSome_iff_exists.1 h2
  unfold lookP
  rw [hq, hj]
  rfl

theorem fieldsG_len (d : Nat) : ∀ (n : Nat) (seen : List Bytes) (x : List (Bytes × TA)) (s : RS), s.ok → (fieldsG kColon (recSt d) n seen x s).1.length ≤ x.length + s.rem
  | 0, seen, x, s, hs => by rw [fieldsG]; dsimp only; omega
  | n + 1, seen, x, s, hs => by
    rw [fieldsG]
    split
    · split
      · dsimp only; omega
      · rename_i _ h2
        have h2' : (takeR (nameR s).2 kColon).bad = false := by simpa using h2
        have htr := two_rem hs kColon h2'
        split
        · have k1 := twice_le hs kColon h2'
          have k3 := (le_types n).1 (d + 1) _ (hs.of k1)
          have k4 := comma_le ((hs.of k1).of k3)
          have := fieldsG_len d n seen (recSt d n [] x (twiceR (takeR (nameR s).2 kColon) (nameR s).1)).1 _ (((hs.of k1).of k3).of k4)
          have hx : (recSt d n [] x (twiceR (takeR (nameR s).2 kColon) (nameR s).1)).1 = x := by rw [recSt, recStep, if_pos (.inl rfl)]
          rw [hx] at this ⊢
          have r1 := k1.rem
          have r3 := k3.rem
          have r4 := k4.rem
          refine Nat.le_trans this ?_
          omega
        · have k2 := (name_le hs).trans (take_le (hs.of (name_le hs)) kColon)
          have k3 := (le_types n).1 (d + 1) _ (hs.of k2)
          have k4 := comma_le ((hs.of k2).of k3)
          have := fieldsG_len d n (seen ++ [(nameR s).1.text]) (recSt d n (nameR s).1.text x (takeR (nameR s).2 kColon)).1 _ (((hs.of k2).of k3).of k4)
          have hx : (recSt d n (nameR s).1.text x (takeR (nameR s).2 kColon)).1.length ≤ x.length + 1 := by
            rw [recSt, recStep]
            dsimp only
            split
            · omega
            · simp
          have r3 := k3.rem
          have r4 := k4.rem
          refine Nat.le_trans this ?_
          omega
    · dsimp only; omega

theorem record_spec (F : ParFns T) (h318 : T.has 318 c_318) (h28 : T.has 28 c_28) (B : ParLib T.L) (N : Nat) (ih : ∀ m, m ≤ N → PTy T m) (d : Nat) (hd : d ≤ 64) (s : RS) (hs : s.ok) (hb : s.bad = false) (hf : 6 * s.rem + 7 ≤ N) :
    PC T.L 293 [.int .i64 d] s (fieldsR N d (.mk 5 [] [] []) s).1.av (fieldsR N d (.mk 5 [] [] []) s).2 := by
  refine PC.of 2 (low_ta _ _) (ACalls.freeze (acallsG F.h293 (by simp [c_293]) ?_))
  have hrel := fields_rel d N [] s List.nodup_nil hs
  rw [show recT [] = .mk 5 [] [] [] from rfl] at hrel
  have hfs := fields_spec F h318 h28 (rec_ok F N ih d hd) kColon N [] s (Nat.le_refl _) hs hb hf rfl
  rw [show ([] : List (Bytes × TA)).map (·.1) = [] from rfl] at hrel
  have hlen : (fieldsG kColon (recSt d) N [] [] s).1.length ≤ 2 ^ 34 := by
    have h1 := fieldsG_len d N [] [] s hs
    have h2 := hs.len
    have h3 : s.rem ≤ s.toks.length := by unfold RS.rem; omega
    rw [List.length_nil] at h1
    omega
  generalize fieldsG kColon (recSt d) N [] [] s = G at hrel hfs hlen
  generalize fieldsR N d (.mk 5 [] [] []) s = R at hrel ⊢
  obtain ⟨x', s'⟩ := G
  obtain ⟨t, s''⟩ := R
  dsimp only at hrel hfs hlen ⊢
  obtain ⟨rfl, hrel⟩ := hrel
  conv => whnf
  refine hfs.to rfl (fun z hz => ?_) (low_itemH (recO_low d) _ _) (low_outP low_unit) (low_itemH (recO_low d) _ _) [] (by rfl) ?_
  · simp only [List.mem_cons, List.not_mem_nil, or_false] at hz
    rcases hz with rfl | rfl | rfl
    · exact .ptr _ _ (show 1 < 10 by decide)
    · exact .str _
    · exact .fn _ _ _ low0 (rec_ok F N ih d hd).lfree
  cases hb' : s''.bad
  · obtain ⟨rfl, hnd⟩ := hrel hb'
    obtain ⟨l, hl⟩ : ∃ l, x'.map (·.1) = l := ⟨_, rfl⟩
    have hll : l.length = x'.length := by rw [← hl, List.length_map]
    cases x' with
    | nil =>
      conv => whnf
      refine (B.sort0 _).to1 ?_
      conv => whnf
      intro I hI hG
      apply hI
      conv => whnf
      refine .inl (PPost.ret hb' ?_ rfl)
      show Weak T.L _ (TA.mk 5 [] [] []).av
      rw [TA.av]
      exact Weak.agg ⟨Weak.refl _, Weak.refl _, Weak.tok _ _, Weak.tok _ _, trivial⟩
    | cons p x0 =>
      obtain ⟨x', hx'⟩ : ∃ x', p :: x0 = x' := ⟨_, rfl⟩
      have hlne : l ≠ [] := by rw [← hl]; simp
      rw [hx'] at hl hnd hll hlen ⊢
      obtain ⟨n, hn⟩ : ∃ n, n = l.length := ⟨_, rfl⟩
      have hH0 : itemH (recO d) x' = [.arr n (strA l) 10, .dead, .cells [.ptr 1 0] 225, .cells [.int .i64 d] 4, .cells zeroC4 175, .cells [.vec 2 n 1 0 n] 43, .map (entsT x' 0) x'.length, .cells [.map 8] 231] := by
        have e1 : namesT x' = strA l := by unfold namesT; rw [hl]
        have e2 : strA l ≠ [] := by unfold strA; simpa using hlne
        have e3 : n = (strA l).length := by rw [strA_len, hn]
        rw [e3, ← e1, ← vobj_ne (by rw [e1]; exact e2), ← vval_ne (by rw [e1]; exact e2)]
        rfl
      rw [hH0]
      have hS : (recP x').map (·.1) = sortB l := by rw [recP_names x' hnd, hl]
      have hV : (recP x').map (·.2) = (sortB l).map (lookP x') := by rw [recP_vals x' hnd, hl]
      have hlook : ∀ {H : Heap} {c : Nat} {nm : Bytes} {z : AVal}, H[8]? = some (.map (entsT x' 0) c) → nm ∈ sortB l → lookM 1 z false H (.map 8) (.str nm) = some (lookP x' nm).av := fun h1 h2 =>
        lookM_T h1 (by rw [hl]; exact (sortB_perm l).mem_iff.1 h2)
      generalize entsT x' 0 = E at hlook ⊢
      conv => whnf
      refine (B.sort l n 2 10 _ rfl hn hlne (by omega)).to1 ?_
      have hSl : (sortB l).length = n := by rw [hn]; exact (sortB_perm l).length_eq
      generalize sortB l = S at hS hV hlook hSl ⊢
      obtain ⟨Ls, hLs⟩ : ∃ Ls, S.map (lookP x') = Ls := ⟨_, rfl⟩
      rw [hLs] at hV
      have hLl : Ls.length = n := by rw [← hLs, List.length_map, hSl]
      conv => whnf
      intro I hI hG
      have key : ∀ (m k : Nat) (e : Env), n - k = m → k ≤ n → I (setL e [(4, .ptr 6 0), (6, .ptr 9 0), (7, .ptr 10 0), (18, .vec 2 n 1 0 n), (19, .int .i64 n), (20, .int .i64 k)])
          (pheap s'' ++ [.arr n (strA S) 10, dobj (TA.avs (Ls.take k)).length 175, .cells [.ptr 1 0] 225, .cells [.int .i64 d] 4, .cells zeroC4 175, .cells [.vec 2 n 1 0 n] 43, .map E x'.length, .cells [.map 8] 231,
            .cells [.int .i64 5, .str [], .vec 2 n 1 0 n, .lst (TA.avs (Ls.take k)) (dtok (TA.avs (Ls.take k)).length 3)] 175]) := by
        intro m
        induction m with
        | zero =>
          intro k e hm hk
          have hkn : k = n := by omega
          apply hI
          conv => whnf
          rw [lt_false (by omega)]
          conv => whnf
          rw [show Ls.take k = Ls from List.take_of_length_le (by omega)]
          obtain rfl : n = (strA S).length := by rw [strA_len]; exact hSl.symm
          refine .inr ⟨2, strA S, 10, 1, .ret _, rfl, ?_, PPost.ret hb' (Weak.refl _) rfl⟩
          show WeakG _ T.L _ (recT x').av
          rw [recT, hS, hV, TA.av]
          exact WeakG.agg ⟨WeakG.refl _, WeakG.refl _, WeakG.froze, WeakG.of (Weak.tok _ _), trivial⟩
        | succ m ihm =>
          intro k e hm hk
          have hlt : k < n := by omega
          apply hI
          conv => whnf
          rw [lt_true hlt]
          conv => whnf
          refine ⟨⟨Int.natCast_nonneg _, by omega, rfl⟩, ?_⟩
          conv => whnf
          rw [show (0 + ((k : Nat) : Int).toNat) * 1 = k from by simp, load_elem (l := S) (n := n) (t := 10) ?_ (by omega)]
          · conv => whnf
            rw [hlook (nm := S[k]) (c := x'.length) ?_ (List.getElem_mem _)]
            · have htk : TA.avs (Ls.take (k + 1)) = TA.avs (Ls.take k) ++ [(lookP x' S[k]).av] := by
                have hk1 : k < Ls.length := by omega
                have hk2 : Ls[k] = lookP x' S[k] := by subst hLs; simp
                rw [List.take_succ_eq_append_getElem hk1, tas_append, hk2]; rfl
              have hlk : (TA.avs (Ls.take k)).length = k := by rw [tas_len]; simp; omega
              have hsz := sized_tas (Ls.take k)
              have hnext := fun e => ihm (k + 1) e (by omega) (by omega)
              rw [htk] at hnext
              generalize lookP x' S[k] = v at hnext ⊢
              generalize TA.avs (Ls.take k) = YS at hnext hlk hsz ⊢
              obtain ⟨vk, vn, vs, vl⟩ := v
              conv => whnf
              refine app_slot (id := 3) hsz (sized_one rfl) (by simp [hlk]; omega) (by simp [hlk]; omega) (by simp) rfl ?_
              conv => whnf
              exact inv_of [(4, .ptr 6 0), (6, .ptr 9 0), (7, .ptr 10 0), (18, .vec 2 n 1 0 n), (19, .int .i64 n), (20, .int .i64 (k + 1 : Nat))] ⟨rfl, rfl, rfl, rfl, rfl, add1 (by omega), trivial⟩ (hnext _)
            · rfl
          · rfl
      exact inv_of [(4, .ptr 6 0), (6, .ptr 9 0), (7, .ptr 10 0), (18, .vec 2 n 1 0 n), (19, .int .i64 n), (20, .int .i64 0)] ⟨rfl, rfl, rfl, rfl, rfl, rfl, trivial⟩ (key n 0 _ rfl (Nat.zero_le _))
  · conv => whnf
    exact .inl (PPost.pan hb' rfl)

end Go.Ag
/- Package parse: plain types; all of types. -/
set_option linter.unusedVariables false
namespace Go.Ag
open Go

variable {T : Tab} {L : Lnk}

structure TyFns (T : Tab) : Prop extends ParFns T where
  h318 : T.has 318 c_318
  h28 : T.has 28 c_28
  lib : ParLib T.L

theorem weak_mk (k : Int) (nm : Bytes) {t1 t2 : Tok} : Weak L (.agg [.int .i64 k, .str nm, .lst [] t1, .lst [] t2]) (TA.mk k nm [] []).av := by
  rw [TA.av]
  exact Weak.agg ⟨Weak.refl _, Weak.refl _, Weak.tok _ _, Weak.tok _ _, trivial⟩

theorem pplain_step (F : TyFns T) (n : Nat) (ih : ∀ m, m ≤ n → PTy T m) (d : Nat) (s : RS) (hs : s.ok) (hb : s.bad = false) (hd : d ≤ 64) (hf : 6 * s.rem + 4 ≤ n + 1) : PC T.L 249 [.int .i64 d] s (plainR (n + 1) d s).1.av (plainR (n + 1) d s).2 := by
  refine PC.of 0 (low_ta _ _) (acallsG F.h249 (by simp [c_249]) ?_)
  obtain ⟨R, hR⟩ : ∃ R, plainR (n + 1) d s = R := ⟨_, rfl⟩
  rw [hR]
  rw [plainR, if_neg (by simp [hb])] at hR
  have F' := F.toParFns
  conv => whnf
  refine F'.here hs hb _ rfl ?_
  conv => whnf
  have next : ∀ w, isR s w = true → (takeR s w).bad = false := fun w h => by rw [take_yes h]; exact hb
  cases hk : (s.tok.kind == 1)
  · rw [if_neg (by simpa using hk)] at hR
    conv => whnf
    refine F'.take hs hb kInt _ rfl (fun h1 => ?_) fun h1 => ?_
    · rw [if_neg (by simp [h1])] at hR
      conv => whnf
      refine F'.take hs hb kBool _ rfl (fun h2 => ?_) fun h2 => ?_
      · rw [if_neg (by simp [h2])] at hR
        conv => whnf
        refine F'.take hs hb kText _ rfl (fun h3 => ?_) fun h3 => ?_
        · rw [if_neg (by simp [h3])] at hR
          conv => whnf
          refine F'.take hs hb kDyn _ rfl (fun h4 => ?_) fun h4 => ?_
          · rw [if_neg (by simp [h4])] at hR
            conv => whnf
            refine F'.take hs hb kLb _ rfl (fun h5 => ?_) fun h5 => ?_
            · rw [if_neg (by simp [h5])] at hR
              conv => whnf
              refine F'.want hs hb kLp _ rfl (fun h6 => ?_) fun h6 => ?_
              · rw [if_neg (by simp [h6])] at hR
                have hs1 := hs.of (take_le hs kLp)
                have hr1 := take_rem hs (take_bad h6).2.1
                generalize takeR s kLp = s1 at h6 hs1 hr1 hR ⊢
                conv => whnf
                rw [addN (by omega)]
                have ht := (ih n (Nat.le_refl _)).typ (d + 1) s1 hs1 h6 (by omega) (by omega)
                have hle := (le_types n).1 (d + 1) s1 hs1
                generalize typeR n (d + 1) s1 = q at ht hle hR ⊢
                obtain ⟨⟨k', nm', ns', l'⟩, s2⟩ := q
                dsimp only at ht hle hR ⊢
                refine ht.to (low1 (.int _ _)) (low_ta _ _) _ rfl (fun h7 => ?_) fun h7 => ?_
                · conv => whnf
                  refine F'.want (hs1.of hle) h7 kRp _ rfl (fun h8 => ?_) fun h8 => ?_
                  · subst hR
                    conv => whnf
                    exact PPost.ret h8 (Weak.refl _) rfl
                  · subst hR
                    conv => whnf
                    exact PPost.pan h8 rfl
                · rw [takeR_bad h7] at hR
                  subst hR
                  conv => whnf
                  exact PPost.pan h7 rfl
              · rw [if_pos h6] at hR
                subst hR
                conv => whnf
                exact PPost.pan h6 rfl
            · rw [if_pos h5] at hR
              conv => whnf
              have hb1 := next _ h5
              have hs1 := hs.of (take_le hs kLb)
              have hr1 := take_rem hs h5
              generalize takeR s kLb = s1 at hb1 hs1 hr1 hR ⊢
              have hq := record_spec F' F.h318 F.h28 F.lib n ih d hd s1 hs1 hb1 (by omega)
              rw [hR] at hq
              obtain ⟨⟨k', nm', ns', l'⟩, s2⟩ := R
              refine hq.to (low1 (.int _ _)) (low_ta _ _) _ rfl (fun h7 => ?_) fun h7 => ?_
              · conv => whnf
                exact PPost.ret h7 (Weak.refl _) rfl
              · conv => whnf
                exact PPost.pan h7 rfl
          · rw [if_pos h4] at hR
            subst hR
            conv => whnf
            exact PPost.ret (next _ h4) (weak_mk 4 []) rfl
        · rw [if_pos h3] at hR
          subst hR
          conv => whnf
          exact PPost.ret (next _ h3) (weak_mk 3 []) rfl
      · rw [if_pos h2] at hR
        subst hR
        conv => whnf
        exact PPost.ret (next _ h2) (weak_mk 2 []) rfl
    · rw [if_pos h1] at hR
      subst hR
      conv => whnf
      exact PPost.ret (next _ h1) (weak_mk 1 []) rfl
  · rw [if_pos (by simpa using hk)] at hR
    subst hR
    conv => whnf
    rw [addN hs.i]
    exact PPost.ret hb (weak_mk 8 _) rfl

theorem pty_all (F : TyFns T) : ∀ n, PTy T n := fun n => Nat.strongRecOn n fun n ih => by
  cases n with
  | zero => exact ⟨fun d s hs hb hd hf => by omega, fun d s hs hb hd hf => by omega, fun d s hs hb hd hf => by omega⟩
  | succ n =>
    have ih' : ∀ m, m ≤ n → PTy T m := fun m hm => ih m (by omega)
    exact ⟨fun d s hs hb hd hf => ptyp_step F.toParFns n ih' d s hs hb hd hf, fun d s hs hb hd hf => parrow_step F.toParFns n ih' d s hs hb hd hf, fun d s hs hb hd hf => pplain_step F n ih' d s hs hb hd hf⟩

end Go.Ag
/- Abstract codes, printed by a program of ours (acode.py) out of the given program's form. -/
namespace Go.Ag
open Go
def c_215 : AFunc := (.mk 1 30 [(.tmp 2), (.tmp 3)] (.seq (.ops [(.mk (some 2) (.mv (.const (.lst [] .nil))) none), (.mk (some 3) (.mv (.const (.lst [] .nil))) none)]) (.seq (.ops [(.mk (some 5) (.mv (.tmp 0)) none), (.mk (some 6) (.build [(.str []), (.int .i64 0), (.lst [] .nil), (.lst [] .nil)] [(0, (1, (.tmp 5)))]) none), (.mk (some 7) (.box 299 (.tmp 6)) none), (.mk (some 4) (.mv (.tmp 7)) none)]) (.seq (.block 0 (.loop (.seq (.seq (.ops [(.mk (some 8) (.mv (.tmp 4)) none), (.mk (some 9) (.nilck (.tmp 8)) none), (.mk (some 10) (.faddr 1 (.tmp 9)) none), (.mk (some 11) (.load none (.tmp 10)) none), (.mk (some 12) (.mv (.tmp 0)) none), (.mk (some 13) (.lenS (.tmp 12)) none), (.mk (some 14) (.bin .lss (.tmp 11) (.tmp 13)) none)]) (.cond (.tmp 14) .skip (.exit 0))) (.block 1 (.ops [(.mk (some 15) (.mv (.tmp 4)) none), (.mk (some 16) (.call 246 [(.tmp 15)]) none)]))))) (.seq (.draw [(.mk (some 17) (.mv (.tmp 4)) none), (.mk (some 18) (.nilck (.tmp 17)) none), (.mk (some 19) (.faddr 2 (.tmp 18)) none), (.mk (some 20) (.load none (.tmp 19)) none), (.mk (some 21) (.mv (.tmp 0)) none), (.mk (some 22) (.lenS (.tmp 21)) none), (.mk (some 23) (.build [(.int .i64 0), (.int .i64 0), (.str [])] [(0, (1, (.const (.int .i64 6)))), (1, (1, (.tmp 22))), (2, (1, (.const (.str []))))]) none), (.mk (some 24) (.lit 3 32 [] 1 [(0, (.tmp 23))]) none), (.mk (some 26) (.mv (.tmp 4)) none), (.mk (some 27) (.nilck (.tmp 26)) none), (.mk (some 28) (.faddr 3 (.tmp 27)) none), (.mk (some 29) (.load none (.tmp 28)) none)] [(.mk (some 25) (.append 3 32 282 (.tmp 20) (.tmp 24)) none), (.mk (some 2) (.mv (.tmp 25)) none), (.mk (some 3) (.mv (.tmp 29)) none)]) .ret)))))
def c_246 : AFunc := (.mk 1 119 [] (.seq (.draw [(.mk (some 5) (.mv (.tmp 0)) none), (.mk (some 6) (.nilck (.tmp 5)) none), (.mk (some 7) (.faddr 0 (.tmp 6)) none), (.mk (some 8) (.load none (.tmp 7)) none), (.mk (some 9) (.mv (.tmp 0)) none), (.mk (some 10) (.nilck (.tmp 9)) none), (.mk (some 11) (.faddr 1 (.tmp 10)) none), (.mk (some 12) (.load none (.tmp 11)) none), (.mk (some 13) (.idxS (.tmp 8) (.tmp 12)) none), (.mk (some 2) (.mv (.tmp 13)) none)] []) (.block 0 (.seq (.ops [(.mk (some 24) (.mv (.tmp 2)) none), (.mk (some 25) (.bin .eql (.tmp 24) (.const (.int .u8 32))) none), (.mk (some 26) (.mv (.tmp 25)) none), (.mk (some 27) (.mv (.tmp 2)) (some (26, false))), (.mk (some 28) (.bin .eql (.tmp 27) (.const (.int .u8 9))) (some (26, false))), (.mk (some 29) (.pick (.tmp 26) (.const (.bool true)) (.tmp 28)) none), (.mk (some 30) (.mv (.tmp 29)) none), (.mk (some 31) (.mv (.tmp 2)) (some (30, false))), (.mk (some 32) (.bin .eql (.tmp 31) (.const (.int .u8 10))) (some (30, false))), (.mk (some 33) (.pick (.tmp 30) (.const (.bool true)) (.tmp 32)) none), (.mk (some 34) (.mv (.tmp 33)) none), (.mk (some 35) (.mv (.tmp 2)) (some (34, false))), (.mk (some 36) (.bin .eql (.tmp 35) (.const (.int .u8 13))) (some (34, false))), (.mk (some 37) (.pick (.tmp 34) (.const (.bool true)) (.tmp 36)) none), (.mk (some 23) (.mv (.tmp 37)) none)]) (.cond (.tmp 23) (.ops [(.mk (some 38) (.mv (.tmp 0)) none), (.mk (some 39) (.nilck (.tmp 38)) none), (.mk (some 40) (.faddr 1 (.tmp 39)) none), (.mk (some 41) (.load none (.tmp 40)) none), (.mk (some 42) (.bin .add (.tmp 41) (.const (.int .i64 1))) none), (.mk (some 43) (.nilck (.tmp 38)) none), (.mk (some 44) (.faddr 1 (.tmp 43)) none), (.mk none (.store 1 (.tmp 44) (.tmp 42)) none)]) (.seq (.ops [(.mk (some 46) (.mv (.tmp 2)) none), (.mk (some 47) (.bin .eql (.tmp 46) (.const (.int .u8 35))) none), (.mk (some 45) (.mv (.tmp 47)) none)]) (.cond (.tmp 45) (.drawt [(.mk (some 48) (.mv (.tmp 0)) none), (.mk (some 49) (.nilck (.tmp 48)) none), (.mk (some 50) (.faddr 1 (.tmp 49)) none), (.mk (some 51) (.load none (.tmp 50)) none), (.mk (some 52) (.mv (.tmp 0)) none), (.mk (some 53) (.mv (.tmp 0)) none), (.mk (some 54) (.nilck (.tmp 53)) none), (.mk (some 55) (.faddr 1 (.tmp 54)) none), (.mk (some 56) (.load none (.tmp 55)) none)] (.alt (.mk (some 57) (.call 282 [(.tmp 52), (.tmp 56), (.const (.fn (.func 283) [] []))]) none) [(none, (.tmp 50))] (.alt (.mk (some 58) (.bin .add (.tmp 51) (.tmp 57)) none) [] (.alt (.mk (some 59) (.nilck (.tmp 48)) none) [] (.alt (.mk (some 60) (.faddr 1 (.tmp 59)) none) [] (.alt (.mk none (.store 1 (.tmp 60) (.tmp 58)) none) [] .done .stop) .stop) .stop) .stop) .stop)) (.seq (.ops [(.mk (some 62) (.mv (.tmp 2)) none), (.mk (some 63) (.call 284 [(.tmp 62)]) none), (.mk (some 61) (.mv (.tmp 63)) none)]) (.cond (.tmp 61) (.seq (.ops [(.mk (some 64) (.mv (.tmp 0)) none), (.mk (some 65) (.mv (.tmp 0)) none), (.mk (some 66) (.nilck (.tmp 65)) none), (.mk (some 67) (.faddr 1 (.tmp 66)) none), (.mk (some 68) (.load none (.tmp 67)) none), (.mk (some 69) (.call 282 [(.tmp 64), (.tmp 68), (.const (.fn (.func 285) [] []))]) none), (.mk (some 3) (.mv (.tmp 69)) none)]) (.seq (.ops [(.mk (some 4) (.mv (.const (.int .i64 1))) none)]) (.seq (.seq (.draw [(.mk (some 70) (.mv (.tmp 0)) none), (.mk (some 71) (.nilck (.tmp 70)) none), (.mk (some 72) (.faddr 0 (.tmp 71)) none), (.mk (some 73) (.load none (.tmp 72)) none), (.mk (some 74) (.mv (.tmp 0)) none), (.mk (some 75) (.nilck (.tmp 74)) none), (.mk (some 76) (.faddr 1 (.tmp 75)) none), (.mk (some 77) (.load none (.tmp 76)) none), (.mk (some 78) (.mv (.tmp 0)) none), (.mk (some 79) (.nilck (.tmp 78)) none), (.mk (some 80) (.faddr 1 (.tmp 79)) none), (.mk (some 81) (.load none (.tmp 80)) none), (.mk (some 82) (.mv (.tmp 3)) none), (.mk (some 83) (.bin .add (.tmp 81) (.tmp 82)) none), (.mk (some 84) (.slcS (.tmp 73) (some (.tmp 77)) (some (.tmp 83))) none)] [(.mk (some 85) (.call 286 [(.tmp 84)]) none)]) (.cond (.tmp 85) (.ops [(.mk (some 4) (.mv (.const (.int .i64 2))) none)]) .skip)) (.ops [(.mk (some 86) (.mv (.tmp 0)) none), (.mk (some 87) (.mv (.tmp 4)) none), (.mk (some 88) (.mv (.tmp 3)) none), (.mk (some 89) (.call 287 [(.tmp 86), (.tmp 87), (.tmp 88)]) none)])))) (.seq (.ops [(.mk (some 91) (.mv (.tmp 2)) none), (.mk (some 92) (.call 288 [(.tmp 91)]) none), (.mk (some 90) (.mv (.tmp 92)) none)]) (.cond (.tmp 90) (.ops [(.mk (some 93) (.mv (.tmp 0)) none), (.mk (some 94) (.call 289 [(.tmp 93)]) none)]) (.seq (.ops [(.mk (some 96) (.mv (.tmp 2)) none), (.mk (some 97) (.bin .eql (.tmp 96) (.const (.int .u8 34))) none), (.mk (some 95) (.mv (.tmp 97)) none)]) (.cond (.tmp 95) (.ops [(.mk (some 98) (.mv (.tmp 0)) none), (.mk (some 99) (.call 290 [(.tmp 98)]) none)]) (.seq (.draw [(.mk (some 101) (.mv (.tmp 0)) none), (.mk (some 102) (.nilck (.tmp 101)) none), (.mk (some 103) (.faddr 0 (.tmp 102)) none), (.mk (some 104) (.load none (.tmp 103)) none), (.mk (some 105) (.mv (.tmp 0)) none), (.mk (some 106) (.nilck (.tmp 105)) none), (.mk (some 107) (.faddr 1 (.tmp 106)) none), (.mk (some 108) (.load none (.tmp 107)) none), (.mk (some 109) (.slcS (.tmp 104) (some (.tmp 108)) none) none)] [(.mk (some 110) (.call 291 [(.tmp 109), (.const (.str [45, 62]))]) none), (.mk (some 100) (.mv (.tmp 110)) none)]) (.cond (.tmp 100) (.ops [(.mk (some 111) (.mv (.tmp 0)) none), (.mk (some 112) (.call 287 [(.tmp 111), (.const (.int .i64 5)), (.const (.int .i64 2))]) none)]) (.seq (.ops [(.mk (some 114) (.mv (.tmp 2)) none), (.mk (some 115) (.call 49 [(.const (.str [61, 58, 59, 44, 46, 40, 41, 123, 125, 124, 63])), (.tmp 114)]) none), (.mk (some 116) (.bin .geq (.tmp 115) (.const (.int .i64 0))) none), (.mk (some 113) (.mv (.tmp 116)) none)]) (.cond (.tmp 113) (.ops [(.mk (some 117) (.mv (.tmp 0)) none), (.mk (some 118) (.call 287 [(.tmp 117), (.const (.int .i64 5)), (.const (.int .i64 1))]) none)]) (.seq (.ops [(.mk (some 14) (.mv (.tmp 0)) none), (.mk (some 15) (.call 292 [(.tmp 14), (.const (.int .i64 1))]) none)]) (.ops [(.mk (some 16) (.mv (.tmp 0)) none), (.mk (some 17) (.nilck (.tmp 16)) none), (.mk (some 18) (.faddr 1 (.tmp 17)) none), (.mk (some 19) (.load none (.tmp 18)) none), (.mk (some 20) (.bin .add (.tmp 19) (.const (.int .i64 1))) none), (.mk (some 21) (.nilck (.tmp 16)) none), (.mk (some 22) (.faddr 1 (.tmp 21)) none), (.mk none (.store 1 (.tmp 22) (.tmp 20)) none)])))))))))))))))))))
def c_282 : AFunc := (.mk 3 32 [(.tmp 6)] (.seq (.ops [(.mk (some 6) (.mv (.const (.int .i64 0))) none)]) (.seq (.ops [(.mk (some 7) (.mv (.const (.int .i64 0))) none)]) (.seq (.block 0 (.loop (.seq (.seq (.ops [(.mk (some 8) (.mv (.tmp 1)) none), (.mk (some 9) (.mv (.tmp 7)) none), (.mk (some 10) (.bin .add (.tmp 8) (.tmp 9)) none), (.mk (some 11) (.mv (.tmp 0)) none), (.mk (some 12) (.nilck (.tmp 11)) none), (.mk (some 13) (.faddr 0 (.tmp 12)) none), (.mk (some 14) (.load none (.tmp 13)) none), (.mk (some 15) (.lenS (.tmp 14)) none), (.mk (some 16) (.bin .lss (.tmp 10) (.tmp 15)) none), (.mk (some 17) (.mv (.tmp 16)) none), (.mk (some 18) (.mv (.tmp 2)) (some (17, true))), (.mk (some 19) (.mv (.tmp 0)) (some (17, true))), (.mk (some 20) (.nilck (.tmp 19)) (some (17, true))), (.mk (some 21) (.faddr 0 (.tmp 20)) (some (17, true))), (.mk (some 22) (.load none (.tmp 21)) (some (17, true))), (.mk (some 23) (.mv (.tmp 1)) (some (17, true))), (.mk (some 24) (.mv (.tmp 7)) (some (17, true))), (.mk (some 25) (.bin .add (.tmp 23) (.tmp 24)) (some (17, true))), (.mk (some 26) (.idxS (.tmp 22) (.tmp 25)) (some (17, true))), (.mk (some 27) (.callv (.tmp 18) [(.tmp 26)]) (some (17, true))), (.mk (some 28) (.pick (.tmp 17) (.tmp 27) (.const (.bool false))) none)]) (.cond (.tmp 28) .skip (.exit 0))) (.block 1 (.ops [(.mk (some 29) (.mv (.tmp 7)) none), (.mk (some 30) (.bin .add (.tmp 29) (.const (.int .i64 1))) none), (.mk (some 7) (.mv (.tmp 30)) none)]))))) (.seq (.ops [(.mk (some 31) (.mv (.tmp 7)) none), (.mk (some 6) (.mv (.tmp 31)) none)]) .ret)))))
def c_283 : AFunc := (.mk 1 5 [(.tmp 2)] (.seq (.ops [(.mk (some 2) (.mv (.const (.bool false))) none)]) (.seq (.ops [(.mk (some 3) (.mv (.tmp 0)) none), (.mk (some 4) (.bin .neq (.tmp 3) (.const (.int .u8 10))) none), (.mk (some 2) (.mv (.tmp 4)) none)]) .ret)))
def c_284 : AFunc := (.mk 1 13 [(.tmp 2)] (.seq (.ops [(.mk (some 2) (.mv (.const (.bool false))) none)]) (.seq (.ops [(.mk (some 3) (.mv (.tmp 0)) none), (.mk (some 4) (.bin .geq (.tmp 3) (.const (.int .u8 97))) none), (.mk (some 5) (.mv (.tmp 4)) none), (.mk (some 6) (.mv (.tmp 0)) (some (5, true))), (.mk (some 7) (.bin .leq (.tmp 6) (.const (.int .u8 122))) (some (5, true))), (.mk (some 8) (.pick (.tmp 5) (.tmp 7) (.const (.bool false))) none), (.mk (some 9) (.mv (.tmp 8)) none), (.mk (some 10) (.mv (.tmp 0)) (some (9, false))), (.mk (some 11) (.bin .eql (.tmp 10) (.const (.int .u8 95))) (some (9, false))), (.mk (some 12) (.pick (.tmp 9) (.const (.bool true)) (.tmp 11)) none), (.mk (some 2) (.mv (.tmp 12)) none)]) .ret)))
def c_285 : AFunc := (.mk 1 9 [(.tmp 2)] (.seq (.ops [(.mk (some 2) (.mv (.const (.bool false))) none)]) (.seq (.ops [(.mk (some 3) (.mv (.tmp 0)) none), (.mk (some 4) (.call 284 [(.tmp 3)]) none), (.mk (some 5) (.mv (.tmp 4)) none), (.mk (some 6) (.mv (.tmp 0)) (some (5, false))), (.mk (some 7) (.call 288 [(.tmp 6)]) (some (5, false))), (.mk (some 8) (.pick (.tmp 5) (.const (.bool true)) (.tmp 7)) none), (.mk (some 2) (.mv (.tmp 8)) none)]) .ret)))
def c_286 : AFunc := (.mk 1 18 [(.tmp 2)] (.seq (.ops [(.mk (some 2) (.mv (.const (.bool false))) none)]) (.seq (.seq (.ops [(.mk (some 3) (.mv (.tmp 0)) none)]) (.block 0 (.seq (.seq (.ops [(.mk (some 5) (.bin .eql (.tmp 3) (.const (.str [117, 115, 101]))) none), (.mk (some 4) (.mv (.tmp 5)) none)]) (.cond (.tmp 4) .skip (.seq (.ops [(.mk (some 6) (.bin .eql (.tmp 3) (.const (.str [116, 121, 112, 101]))) none), (.mk (some 4) (.mv (.tmp 6)) none)]) (.cond (.tmp 4) .skip (.seq (.ops [(.mk (some 7) (.bin .eql (.tmp 3) (.const (.str [108, 101, 116]))) none), (.mk (some 4) (.mv (.tmp 7)) none)]) (.cond (.tmp 4) .skip (.seq (.ops [(.mk (some 8) (.bin .eql (.tmp 3) (.const (.str [105, 110]))) none), (.mk (some 4) (.mv (.tmp 8)) none)]) (.cond (.tmp 4) .skip (.seq (.ops [(.mk (some 9) (.bin .eql (.tmp 3) (.const (.str [105, 102]))) none), (.mk (some 4) (.mv (.tmp 9)) none)]) (.cond (.tmp 4) .skip (.seq (.ops [(.mk (some 10) (.bin .eql (.tmp 3) (.const (.str [116, 104, 101, 110]))) none), (.mk (some 4) (.mv (.tmp 10)) none)]) (.cond (.tmp 4) .skip (.seq (.ops [(.mk (some 11) (.bin .eql (.tmp 3) (.const (.str [101, 108, 115, 101]))) none), (.mk (some 4) (.mv (.tmp 11)) none)]) (.cond (.tmp 4) .skip (.seq (.ops [(.mk (some 12) (.bin .eql (.tmp 3) (.const (.str [102, 117, 110]))) none), (.mk (some 4) (.mv (.tmp 12)) none)]) (.cond (.tmp 4) .skip (.seq (.ops [(.mk (some 13) (.bin .eql (.tmp 3) (.const (.str [116, 114, 117, 101]))) none), (.mk (some 4) (.mv (.tmp 13)) none)]) (.cond (.tmp 4) .skip (.seq (.ops [(.mk (some 14) (.bin .eql (.tmp 3) (.const (.str [102, 97, 108, 115, 101]))) none), (.mk (some 4) (.mv (.tmp 14)) none)]) (.cond (.tmp 4) .skip (.seq (.ops [(.mk (some 15) (.bin .eql (.tmp 3) (.const (.str [105, 110, 116]))) none), (.mk (some 4) (.mv (.tmp 15)) none)]) (.cond (.tmp 4) .skip (.seq (.ops [(.mk (some 16) (.bin .eql (.tmp 3) (.const (.str [98, 111, 111, 108]))) none), (.mk (some 4) (.mv (.tmp 16)) none)]) (.cond (.tmp 4) .skip (.ops [(.mk (some 17) (.bin .eql (.tmp 3) (.const (.str [116, 101, 120, 116]))) none), (.mk (some 4) (.mv (.tmp 17)) none)]))))))))))))))))))))))))) (.cond (.tmp 4) (.seq (.ops [(.mk (some 2) (.mv (.const (.bool true))) none)]) .ret) .skip)))) (.seq (.ops [(.mk (some 2) (.mv (.const (.bool false))) none)]) .ret))))
def c_287 : AFunc := (.mk 3 44 [] (.seq (.draw [(.mk (some 6) (.mv (.tmp 0)) none), (.mk (some 7) (.mv (.tmp 0)) none), (.mk (some 8) (.nilck (.tmp 7)) none), (.mk (some 9) (.faddr 2 (.tmp 8)) none), (.mk (some 10) (.load none (.tmp 9)) none), (.mk (some 11) (.mv (.tmp 1)) none), (.mk (some 12) (.mv (.tmp 0)) none), (.mk (some 13) (.nilck (.tmp 12)) none), (.mk (some 14) (.faddr 1 (.tmp 13)) none), (.mk (some 15) (.load none (.tmp 14)) none), (.mk (some 16) (.mv (.tmp 0)) none), (.mk (some 17) (.nilck (.tmp 16)) none), (.mk (some 18) (.faddr 0 (.tmp 17)) none), (.mk (some 19) (.load none (.tmp 18)) none), (.mk (some 20) (.mv (.tmp 0)) none), (.mk (some 21) (.nilck (.tmp 20)) none), (.mk (some 22) (.faddr 1 (.tmp 21)) none), (.mk (some 23) (.load none (.tmp 22)) none), (.mk (some 24) (.mv (.tmp 0)) none), (.mk (some 25) (.nilck (.tmp 24)) none), (.mk (some 26) (.faddr 1 (.tmp 25)) none), (.mk (some 27) (.load none (.tmp 26)) none), (.mk (some 28) (.mv (.tmp 2)) none), (.mk (some 29) (.bin .add (.tmp 27) (.tmp 28)) none), (.mk (some 30) (.slcS (.tmp 19) (some (.tmp 23)) (some (.tmp 29))) none), (.mk (some 31) (.build [(.int .i64 0), (.int .i64 0), (.str [])] [(0, (1, (.tmp 11))), (1, (1, (.tmp 15))), (2, (1, (.tmp 30)))]) none), (.mk (some 32) (.lit 3 32 [] 1 [(0, (.tmp 31))]) none)] [(.mk (some 33) (.append 3 32 282 (.tmp 10) (.tmp 32)) none), (.mk (some 34) (.nilck (.tmp 6)) none), (.mk (some 35) (.faddr 2 (.tmp 34)) none), (.mk none (.store 1 (.tmp 35) (.tmp 33)) none)]) (.ops [(.mk (some 36) (.mv (.tmp 0)) none), (.mk (some 37) (.nilck (.tmp 36)) none), (.mk (some 38) (.faddr 1 (.tmp 37)) none), (.mk (some 39) (.load none (.tmp 38)) none), (.mk (some 40) (.mv (.tmp 2)) none), (.mk (some 41) (.bin .add (.tmp 39) (.tmp 40)) none), (.mk (some 42) (.nilck (.tmp 36)) none), (.mk (some 43) (.faddr 1 (.tmp 42)) none), (.mk none (.store 1 (.tmp 43) (.tmp 41)) none)])))
def c_288 : AFunc := (.mk 1 9 [(.tmp 2)] (.seq (.ops [(.mk (some 2) (.mv (.const (.bool false))) none)]) (.seq (.ops [(.mk (some 3) (.mv (.tmp 0)) none), (.mk (some 4) (.bin .geq (.tmp 3) (.const (.int .u8 48))) none), (.mk (some 5) (.mv (.tmp 4)) none), (.mk (some 6) (.mv (.tmp 0)) (some (5, true))), (.mk (some 7) (.bin .leq (.tmp 6) (.const (.int .u8 57))) (some (5, true))), (.mk (some 8) (.pick (.tmp 5) (.tmp 7) (.const (.bool false))) none), (.mk (some 2) (.mv (.tmp 8)) none)]) .ret)))
def c_289 : AFunc := (.mk 1 38 [] (.seq (.ops [(.mk (some 3) (.mv (.tmp 0)) none), (.mk (some 4) (.mv (.tmp 0)) none), (.mk (some 5) (.nilck (.tmp 4)) none), (.mk (some 6) (.faddr 1 (.tmp 5)) none), (.mk (some 7) (.load none (.tmp 6)) none), (.mk (some 8) (.call 282 [(.tmp 3), (.tmp 7), (.const (.fn (.func 288) [] []))]) none), (.mk (some 2) (.mv (.tmp 8)) none)]) (.seq (.seq (.ops [(.mk (some 9) (.mv (.tmp 2)) none), (.mk (some 10) (.bin .leq (.tmp 9) (.const (.int .i64 18))) none)]) (.cond (.tmp 10) (.seq (.ops [(.mk (some 11) (.mv (.tmp 0)) none), (.mk (some 12) (.mv (.tmp 2)) none), (.mk (some 13) (.call 287 [(.tmp 11), (.const (.int .i64 3)), (.tmp 12)]) none)]) .ret) .skip)) (.seq (.ops [(.mk (some 14) (.mv (.tmp 0)) none), (.mk (some 15) (.call 292 [(.tmp 14), (.const (.int .i64 13))]) none)]) (.seq (.draw [(.mk (some 16) (.mv (.tmp 0)) none), (.mk (some 17) (.mv (.tmp 0)) none), (.mk (some 18) (.nilck (.tmp 17)) none), (.mk (some 19) (.faddr 2 (.tmp 18)) none), (.mk (some 20) (.load none (.tmp 19)) none), (.mk (some 21) (.mv (.tmp 0)) none), (.mk (some 22) (.nilck (.tmp 21)) none), (.mk (some 23) (.faddr 1 (.tmp 22)) none), (.mk (some 24) (.load none (.tmp 23)) none), (.mk (some 25) (.build [(.int .i64 0), (.int .i64 0), (.str [])] [(0, (1, (.const (.int .i64 3)))), (1, (1, (.tmp 24))), (2, (1, (.const (.str [48]))))]) none), (.mk (some 26) (.lit 3 32 [] 1 [(0, (.tmp 25))]) none)] [(.mk (some 27) (.append 3 32 282 (.tmp 20) (.tmp 26)) none), (.mk (some 28) (.nilck (.tmp 16)) none), (.mk (some 29) (.faddr 2 (.tmp 28)) none), (.mk none (.store 1 (.tmp 29) (.tmp 27)) none)]) (.ops [(.mk (some 30) (.mv (.tmp 0)) none), (.mk (some 31) (.nilck (.tmp 30)) none), (.mk (some 32) (.faddr 1 (.tmp 31)) none), (.mk (some 33) (.load none (.tmp 32)) none), (.mk (some 34) (.mv (.tmp 2)) none), (.mk (some 35) (.bin .add (.tmp 33) (.tmp 34)) none), (.mk (some 36) (.nilck (.tmp 30)) none), (.mk (some 37) (.faddr 1 (.tmp 36)) none), (.mk none (.store 1 (.tmp 37) (.tmp 35)) none)]))))))
def c_290 : AFunc := (.mk 1 70 [] (.seq (.draw [(.mk (some 9) (.mv (.tmp 0)) none), (.mk (some 10) (.nilck (.tmp 9)) none), (.mk (some 11) (.faddr 0 (.tmp 10)) none), (.mk (some 12) (.load none (.tmp 11)) none), (.mk (some 13) (.mv (.tmp 0)) none), (.mk (some 14) (.nilck (.tmp 13)) none), (.mk (some 15) (.faddr 1 (.tmp 14)) none), (.mk (some 16) (.load none (.tmp 15)) none), (.mk (some 17) (.bin .add (.tmp 16) (.const (.int .i64 1))) none), (.mk (some 18) (.slcS (.tmp 12) (some (.tmp 17)) none) none), (.mk (some 2) (.mv (.tmp 18)) none)] []) (.seq (.ops [(.mk (some 20) (.mv (.tmp 2)) none), (.mk (some 21) (.call 22 [(.tmp 20), (.const (.str [10]))]) none), (.mk (some 19) (.mv (.tmp 21)) none), (.mk (some 22) (.ext (.tmp 19) 0) none), (.mk (some 23) (.ext (.tmp 19) 1) none), (.mk (some 24) (.ext (.tmp 19) 2) none), (.mk (some 3) (.mv (.tmp 22)) none), (.mk (some 4) (.mv (.tmp 23)) none), (.mk (some 5) (.mv (.tmp 24)) none)]) (.seq (.ops [(.mk (some 26) (.mv (.tmp 3)) none), (.mk (some 27) (.call 22 [(.tmp 26), (.const (.str [34]))]) none), (.mk (some 25) (.mv (.tmp 27)) none), (.mk (some 28) (.ext (.tmp 25) 0) none), (.mk (some 29) (.ext (.tmp 25) 1) none), (.mk (some 30) (.ext (.tmp 25) 2) none), (.mk (some 6) (.mv (.tmp 28)) none), (.mk (some 7) (.mv (.tmp 29)) none), (.mk (some 8) (.mv (.tmp 30)) none)]) (.seq (.seq (.ops [(.mk (some 31) (.mv (.tmp 8)) none), (.mk (some 32) (.un .not (.tmp 31)) none)]) (.cond (.tmp 32) (.seq (.ops [(.mk (some 33) (.mv (.tmp 0)) none), (.mk (some 34) (.call 292 [(.tmp 33), (.const (.int .i64 1))]) none)]) (.seq (.ops [(.mk (some 35) (.mv (.tmp 0)) none), (.mk (some 36) (.nilck (.tmp 35)) none), (.mk (some 37) (.faddr 1 (.tmp 36)) none), (.mk (some 38) (.load none (.tmp 37)) none), (.mk (some 39) (.mv (.tmp 3)) none), (.mk (some 40) (.lenS (.tmp 39)) none), (.mk (some 41) (.bin .add (.const (.int .i64 1)) (.tmp 40)) none), (.mk (some 42) (.bin .add (.tmp 38) (.tmp 41)) none), (.mk (some 43) (.nilck (.tmp 35)) none), (.mk (some 44) (.faddr 1 (.tmp 43)) none), (.mk none (.store 1 (.tmp 44) (.tmp 42)) none)]) .ret)) .skip)) (.seq (.draw [(.mk (some 45) (.mv (.tmp 0)) none), (.mk (some 46) (.mv (.tmp 0)) none), (.mk (some 47) (.nilck (.tmp 46)) none), (.mk (some 48) (.faddr 2 (.tmp 47)) none), (.mk (some 49) (.load none (.tmp 48)) none), (.mk (some 50) (.mv (.tmp 0)) none), (.mk (some 51) (.nilck (.tmp 50)) none), (.mk (some 52) (.faddr 1 (.tmp 51)) none), (.mk (some 53) (.load none (.tmp 52)) none), (.mk (some 54) (.mv (.tmp 6)) none), (.mk (some 55) (.build [(.int .i64 0), (.int .i64 0), (.str [])] [(0, (1, (.const (.int .i64 4)))), (1, (1, (.tmp 53))), (2, (1, (.tmp 54)))]) none), (.mk (some 56) (.lit 3 32 [] 1 [(0, (.tmp 55))]) none)] [(.mk (some 57) (.append 3 32 282 (.tmp 49) (.tmp 56)) none), (.mk (some 58) (.nilck (.tmp 45)) none), (.mk (some 59) (.faddr 2 (.tmp 58)) none), (.mk none (.store 1 (.tmp 59) (.tmp 57)) none)]) (.ops [(.mk (some 60) (.mv (.tmp 0)) none), (.mk (some 61) (.nilck (.tmp 60)) none), (.mk (some 62) (.faddr 1 (.tmp 61)) none), (.mk (some 63) (.load none (.tmp 62)) none), (.mk (some 64) (.mv (.tmp 6)) none), (.mk (some 65) (.lenS (.tmp 64)) none), (.mk (some 66) (.bin .add (.tmp 65) (.const (.int .i64 2))) none), (.mk (some 67) (.bin .add (.tmp 63) (.tmp 66)) none), (.mk (some 68) (.nilck (.tmp 60)) none), (.mk (some 69) (.faddr 1 (.tmp 68)) none), (.mk none (.store 1 (.tmp 69) (.tmp 67)) none)])))))))
def c_292 : AFunc := (.mk 2 19 [] (.draw [(.mk (some 4) (.mv (.tmp 0)) none), (.mk (some 5) (.mv (.tmp 0)) none), (.mk (some 6) (.nilck (.tmp 5)) none), (.mk (some 7) (.faddr 3 (.tmp 6)) none), (.mk (some 8) (.load none (.tmp 7)) none), (.mk (some 9) (.mv (.tmp 0)) none), (.mk (some 10) (.nilck (.tmp 9)) none), (.mk (some 11) (.faddr 1 (.tmp 10)) none), (.mk (some 12) (.load none (.tmp 11)) none), (.mk (some 13) (.mv (.tmp 1)) none), (.mk (some 14) (.build [(.int .i64 0), (.int .i64 0), (.str [])] [(0, (1, (.tmp 12))), (1, (1, (.tmp 13)))]) none), (.mk (some 15) (.lit 3 32 [] 1 [(0, (.tmp 14))]) none)] [(.mk (some 16) (.append 3 32 333 (.tmp 8) (.tmp 15)) none), (.mk (some 17) (.nilck (.tmp 4)) none), (.mk (some 18) (.faddr 3 (.tmp 17)) none), (.mk none (.store 1 (.tmp 18) (.tmp 16)) none)]))
def c_291 : AFunc := (.mk 2 8 [(.tmp 4)] (.seq (.ops [(.mk (some 4) (.mv (.const (.bool false))) none)]) (.seq (.ops [(.mk (some 5) (.mv (.tmp 0)) none), (.mk (some 6) (.mv (.tmp 1)) none), (.mk (some 7) (.call 305 [(.tmp 5), (.tmp 6)]) none), (.mk (some 4) (.mv (.tmp 7)) none)]) .ret)))
def c_305 : AFunc := (.mk 2 18 [(.tmp 4)] (.seq (.ops [(.mk (some 4) (.mv (.const (.bool false))) none)]) (.seq (.ops [(.mk (some 5) (.mv (.tmp 0)) none), (.mk (some 6) (.lenS (.tmp 5)) none), (.mk (some 7) (.mv (.tmp 1)) none), (.mk (some 8) (.lenS (.tmp 7)) none), (.mk (some 9) (.bin .geq (.tmp 6) (.tmp 8)) none), (.mk (some 10) (.mv (.tmp 9)) none), (.mk (some 11) (.mv (.tmp 0)) (some (10, true))), (.mk (some 12) (.mv (.tmp 1)) (some (10, true))), (.mk (some 13) (.lenS (.tmp 12)) (some (10, true))), (.mk (some 14) (.slcS (.tmp 11) none (some (.tmp 13))) (some (10, true))), (.mk (some 15) (.mv (.tmp 1)) (some (10, true))), (.mk (some 16) (.bin .eql (.tmp 14) (.tmp 15)) (some (10, true))), (.mk (some 17) (.pick (.tmp 10) (.tmp 16) (.const (.bool false))) none), (.mk (some 4) (.mv (.tmp 17)) none)]) .ret)))
end Go.Ag
/- Package lex: what a byte is, words, prefixes. -/
set_option linter.unusedVariables false
namespace Go.Ag
open Go

variable {T : Tab} {L : Lnk}

theorem u8_all {p : UInt8 → Bool} (h : (List.range 256).all (fun n => p (UInt8.ofNat n)) = true) (c : UInt8) : p c = true := by
  have := List.all_eq_true.1 h c.toNat (List.mem_range.2 c.toNat_lt)
  rwa [show UInt8.ofNat c.toNat = c from UInt8.ofNat_toNat] at this

def begB (n : Int) : Bool := (decide (n ≥ 97) && decide (n ≤ 122)) || (n == 95)
def digB (n : Int) : Bool := decide (n ≥ 48) && decide (n ≤ 57)
theorem beg_eq (c : UInt8) : begB c.toNat = inA c smallL := beq_iff_eq.1 (u8_all (p := fun c => begB c.toNat == inA c smallL) (by kernel_rfl) c)
theorem dig_eq (c : UInt8) : digB c.toNat = inA c digitsL := beq_iff_eq.1 (u8_all (p := fun c => digB c.toNat == inA c digitsL) (by kernel_rfl) c)
theorem alnum_eq (c : UInt8) : inA c alnumL = (inA c smallL || inA c digitsL) := by
  unfold inA
  rw [show alnumL = smallL ++ digitsL from rfl, List.any_append]

theorem low_u8 (c : UInt8) : ∀ x ∈ [AVal.int .u8 c.toNat], Low 0 x := fun x hx => by simp only [List.mem_singleton] at hx; subst hx; exact .int _ _

theorem begins_spec (h : T.has 284 c_284) (c : UInt8) : Pure T.L 284 [.int .u8 c.toNat] (.bool (inA c smallL)) := by
  refine Pure.run (low_u8 c) (.bool _) (acallsG h (by simp [c_284]) ?_)
  rw [← beg_eq]
  generalize (c.toNat : Int) = n
  unfold begB
  conv => whnf
  cases h1 : decide (n ≥ 97)
  · conv => whnf
    exact ret_weak (Weak.refl _)
  · conv => whnf
    cases h2 : decide (n ≤ 122)
    · conv => whnf
      exact ret_weak (Weak.refl _)
    · conv => whnf
      exact ret_weak (Weak.refl _)

theorem digit_spec (h : T.has 288 c_288) (c : UInt8) : Pure T.L 288 [.int .u8 c.toNat] (.bool (inA c digitsL)) := by
  refine Pure.run (low_u8 c) (.bool _) (acallsG h (by simp [c_288]) ?_)
  rw [← dig_eq]
  generalize (c.toNat : Int) = n
  unfold digB
  conv => whnf
  cases h1 : decide (n ≥ 48)
  · conv => whnf
    exact ret_weak (Weak.refl _)
  · conv => whnf
    exact ret_weak (Weak.refl _)

theorem goes_spec (h : T.has 285 c_285) (h4 : T.has 284 c_284) (h8 : T.has 288 c_288) (c : UInt8) : Pure T.L 285 [.int .u8 c.toNat] (.bool (inA c alnumL)) := by
  refine Pure.run (low_u8 c) (.bool _) (acallsG h (by simp [c_285]) ?_)
  rw [alnum_eq]
  conv => whnf
  refine (begins_spec h4 c).to ?_
  cases h1 : inA c smallL
  · conv => whnf
    refine (digit_spec h8 c).to ?_
    conv => whnf
    exact ret_weak (Weak.refl _)
  · conv => whnf
    exact ret_weak (Weak.refl _)

theorem nl_spec (h : T.has 283 c_283) (c : UInt8) : Pure T.L 283 [.int .u8 c.toNat] (.bool (!inA c [10])) := by
  refine Pure.run (low_u8 c) (.bool _) (acallsG h (by simp [c_283]) ?_)
  conv => whnf
  refine ⟨_, rfl, ?_⟩
  rw [show ((c.toNat : Int) != 10) = !inA c [10] from beq_iff_eq.1 (u8_all (p := fun c => ((c.toNat : Int) != 10) == !inA c [10]) (by kernel_rfl) c)]
  exact Weak.refl _

theorem pword_spec (h : T.has 286 c_286) (s : Bytes) : Pure T.L 286 [.str s] (.bool (wordA s)) := by
  refine Pure.run (fun x hx => by simp only [List.mem_singleton] at hx; subst hx; exact .str _) (.bool _) (acallsG h (by simp [c_286]) ?_)
  have yes : ∀ w ∈ wordsL, (s == w) = true → wordA s = true := fun w hw he => by
    unfold wordA
    exact List.any_eq_true.2 ⟨w, hw, by rw [beq_iff_eq] at he ⊢; exact he.symm⟩
  have no : (∀ w ∈ wordsL, (s == w) = false) → wordA s = false := fun h => by
    unfold wordA
    rw [List.any_eq_false]
    intro w hw he
    have := h w hw
    rw [beq_iff_eq] at he
    rw [he] at this; simp at this
  conv => whnf
  cases h0 : (s == ([117, 115, 101] : Bytes))
  rotate_left
  · conv => whnf
    rw [yes _ (by simp [wordsL]) h0]
    exact ret_weak (Weak.refl _)
  conv => whnf
  cases h1 : (s == ([116, 121, 112, 101] : Bytes))
  rotate_left
  · conv => whnf
    rw [yes _ (by simp [wordsL]) h1]
    exact ret_weak (Weak.refl _)
  conv => whnf
  cases h2 : (s == ([108, 101, 116] : Bytes))
  rotate_left
  · conv => whnf
    rw [yes _ (by simp [wordsL]) h2]
    exact ret_weak (Weak.refl _)
  conv => whnf
  cases h3 : (s == ([105, 110] : Bytes))
  rotate_left
  · conv => whnf
    rw [yes _ (by simp [wordsL]) h3]
    exact ret_weak (Weak.refl _)
  conv => whnf
  cases h4 : (s == ([105, 102] : Bytes))
  rotate_left
  · conv => whnf
    rw [yes _ (by simp [wordsL]) h4]
    exact ret_weak (Weak.refl _)
  conv => whnf
  cases h5 : (s == ([116, 104, 101, 110] : Bytes))
  rotate_left
  · conv => whnf
    rw [yes _ (by simp [wordsL]) h5]
    exact ret_weak (Weak.refl _)
  conv => whnf
  cases h6 : (s == ([101, 108, 115, 101] : Bytes))
  rotate_left
  · conv => whnf
    rw [yes _ (by simp [wordsL]) h6]
    exact ret_weak (Weak.refl _)
  conv => whnf
  cases h7 : (s == ([102, 117, 110] : Bytes))
  rotate_left
  · conv => whnf
    rw [yes _ (by simp [wordsL]) h7]
    exact ret_weak (Weak.refl _)
  conv => whnf
  cases h8 : (s == ([116, 114, 117, 101] : Bytes))
  rotate_left
  · conv => whnf
    rw [yes _ (by simp [wordsL]) h8]
    exact ret_weak (Weak.refl _)
  conv => whnf
  cases h9 : (s == ([102, 97, 108, 115, 101] : Bytes))
  rotate_left
  · conv => whnf
    rw [yes _ (by simp [wordsL]) h9]
    exact ret_weak (Weak.refl _)
  conv => whnf
  cases h10 : (s == ([105, 110, 116] : Bytes))
  rotate_left
  · conv => whnf
    rw [yes _ (by simp [wordsL]) h10]
    exact ret_weak (Weak.refl _)
  conv => whnf
  cases h11 : (s == ([98, 111, 111, 108] : Bytes))
  rotate_left
  · conv => whnf
    rw [yes _ (by simp [wordsL]) h11]
    exact ret_weak (Weak.refl _)
  conv => whnf
  cases h12 : (s == ([116, 101, 120, 116] : Bytes))
  rotate_left
  · conv => whnf
    rw [yes _ (by simp [wordsL]) h12]
    exact ret_weak (Weak.refl _)
  conv => whnf
  rw [no (by intro w hw; simp only [wordsL, List.mem_cons, List.not_mem_nil, or_false] at hw; rcases hw with rfl | rfl | rfl | rfl | rfl | rfl | rfl | rfl | rfl | rfl | rfl | rfl | rfl <;> assumption)]
  exact ret_weak (Weak.refl _)

theorem prefix5_spec (h : T.has 305 c_305) (s w : Bytes) : Pure T.L 305 [.str s, .str w] (.bool (decide (w.length ≤ s.length) && s.take w.length == w)) := by
  refine Pure.run (fun x hx => by simp only [List.mem_cons, List.not_mem_nil, or_false] at hx; rcases hx with rfl | rfl <;> constructor) (.bool _) (acallsG h (by simp [c_305]) ?_)
  conv => whnf
  rcases Nat.lt_or_ge s.length w.length with hl | hl
  · rw [show decide ((s.length : Int) ≥ (w.length : Int)) = false from by simp; omega]
    conv => whnf
    rw [show decide (w.length ≤ s.length) = false from by simp; omega]
    exact ret_weak (Weak.refl _)
  · rw [show decide ((s.length : Int) ≥ (w.length : Int)) = true from by simp; omega]
    conv => whnf
    refine ⟨Nat.zero_le _, hl, ?_⟩
    conv => whnf
    rw [show decide (w.length ≤ s.length) = true from by simp; omega]
    exact ret_weak (Weak.refl _)

theorem prefix_spec (h : T.has 291 c_291) (h5 : T.has 305 c_305) (s w : Bytes) : Pure T.L 291 [.str s, .str w] (.bool (decide (w.length ≤ s.length) && s.take w.length == w)) := by
  refine Pure.run (fun x hx => by simp only [List.mem_cons, List.not_mem_nil, or_false] at hx; rcases hx with rfl | rfl <;> constructor) (.bool _) (acallsG h (by simp [c_291]) ?_)
  conv => whnf
  refine (prefix5_spec h5 s w).to ?_
  conv => whnf
  exact ret_weak (Weak.refl _)

end Go.Ag
/- Package lex: the scanner's methods. -/
set_option linter.unusedVariables false
namespace Go.Ag
open Go

variable {T : Tab} {L : Lnk}

structure SC where
  src : Bytes
  at_ : Nat
  toks : List TokA
  diags : List DiagA
structure SC.ok (s : SC) : Prop where
  src : s.src.length ≤ 2 ^ 31
  at_ : s.at_ ≤ s.src.length
  toks : s.toks.length ≤ s.at_
  diags : s.diags.length ≤ s.at_

def tav (l : List TokA) (id : Nat) : AVal := .lst (l.map TokA.av) (dtok l.length id)
def dav (l : List DiagA) (id : Nat) : AVal := .lst (l.map DiagA.av) (dtok l.length id)
def sobj (s : SC) : AObj := .cells [.str s.src, .int .i64 s.at_, tav s.toks 0, dav s.diags 1] 299
def sheap (s : SC) : Heap := [dobj s.toks.length 282, dobj s.diags.length 333, sobj s]

theorem low_sheap (s : SC) : ∀ o ∈ sheap s, LowO 3 o := fun o ho => by
  simp only [sheap, List.mem_cons, List.not_mem_nil, or_false] at ho
  rcases ho with rfl | rfl | rfl
  · exact dobj_low _ _ _
  · exact dobj_low _ _ _
  · exact lowC ⟨.str _, .int _ _, low_toks _ _ _ (dtok_low (by decide)), low_diags _ _ _ (dtok_low (by decide)), trivial⟩

def SK (L : Lnk) (f : Nat) (args : List AVal) (s : SC) (y : AVal) (s' : SC) : Prop := CallK L f (.ptr 2 0 :: args) (sheap s) y (sheap s')

theorem WeakO.list {K H : Heap} (h : K = H) : ∀ (i : Nat) (o o' : AObj), K[i]? = some o → H[i]? = some o' → WeakO L o o' := fun i o o' h1 h2 => by
  subst h; rw [h1] at h2; cases h2; exact WeakO.refl o

theorem SK.of {f : Nat} {args : List AVal} {s s' : SC} {y : AVal} (hy : Low 3 y)
    (h : ACalls L f (.ptr 2 0 :: args) (sheap s) fun r H' => ∃ x J, r = .ret x ∧ Weak L x y ∧ H' = sheap s' ++ J) : SK L f args s y s' :=
  CallK.of 0 rfl hy (low_sheap s') (by
    rw [List.replicate_zero, List.append_nil]
    exact h.mono fun r H' ⟨x, J, e1, e2, e3⟩ => ⟨x, sheap s', J, e1, e2, e3, rfl, WeakO.list rfl⟩)

theorem SK.to {f : Nat} {args : List AVal} {s s' : SC} {y : AVal} (h : SK L f args s y s') (hargs : ∀ x ∈ args, Low 3 x) (hy : Low 3 y) {H : Heap} {K KP : AVal → Heap → Prop} (J : Heap) (hH : H = sheap s ++ J) (hk : K y (sheap s' ++ J)) :
    ACalls L f (.ptr 2 0 :: args) H (contR K KP) := by
  subst hH
  exact (CallK.at h rfl (fun x hx => by
    rcases List.mem_cons.1 hx with rfl | hx
    · exact .ptr _ _ (show 2 < 3 by decide)
    · exact hargs x hx) (low_sheap s) hy (low_sheap s') J).mono fun r H' ⟨e1, e2⟩ => by subst e1 e2; exact hk

theorem app_tok {s : SC} (hs : s.ok) (t : TokA) {y : AVal} (hy : y = t.av) {tk0 : Tok} {H : Heap} {K : AVal → Heap → Prop} (h0 : H[0]? = some (dobj s.toks.length 282))
    (h : K (tav (s.toks ++ [t]) 0) (H.set 0 (dobj (s.toks ++ [t]).length 282))) : appK 3 32 282 (.lst (s.toks.map TokA.av) (dtok s.toks.length 0)) (.lst [y] tk0) H K := by
  have hl := hs.toks
  have := hs.at_
  have := hs.src
  have e1 : s.toks.length = (s.toks.map TokA.av).length := by simp
  have := app_slot (xs := s.toks.map TokA.av) (ys := [y]) (k := 3) (bytes := 32) (t := 282) (id := 0) (tk0 := tk0) (H := H) (K := K) (sized_toks _) (sized_one (by rw [hy]; rfl)) (by simp; omega) (by simp; omega) (by simp) (by rw [← e1]; exact h0) (by
    rw [hy]
    unfold tav at h
    rw [List.map_append, List.length_append, e1] at h
    rw [List.length_append]
    exact h)
  rw [← e1] at this
  exact this
theorem app_dg {s : SC} (hs : s.ok) (t : DiagA) {y : AVal} (hy : y = t.av) {tk0 : Tok} {H : Heap} {K : AVal → Heap → Prop} (h0 : H[1]? = some (dobj s.diags.length 333))
    (h : K (dav (s.diags ++ [t]) 1) (H.set 1 (dobj (s.diags ++ [t]).length 333))) : appK 3 32 333 (.lst (s.diags.map DiagA.av) (dtok s.diags.length 1)) (.lst [y] tk0) H K := by
  have hl := hs.diags
  have := hs.at_
  have := hs.src
  have e1 : s.diags.length = (s.diags.map DiagA.av).length := by simp
  have := app_slot (xs := s.diags.map DiagA.av) (ys := [y]) (k := 3) (bytes := 32) (t := 333) (id := 1) (tk0 := tk0) (H := H) (K := K) (sized_diags _) (sized_one (by rw [hy]; rfl)) (by simp; omega) (by simp; omega) (by simp) (by rw [← e1]; exact h0) (by
    rw [hy]
    unfold dav at h
    rw [List.map_append, List.length_append, e1] at h
    rw [List.length_append]
    exact h)
  rw [← e1] at this
  exact this

theorem wrapN {n : Nat} {a b : Int} (h : a + b = n) (hn : n ≤ 2 ^ 60) : IntKind.i64.wrap (a + b) = (n : Int) := by rw [IntWalk.i64_in _ (by omega)]; exact h

theorem run_spec (h : T.has 282 c_282) {g : Nat} {p : UInt8 → Bool} (hp : ∀ c : UInt8, Pure T.L g [.int .u8 c.toNat] (.bool (p c))) (s : SC) (hs : s.src.length ≤ 2 ^ 31) (fr : Nat) (hf : fr ≤ s.src.length) :
    SK T.L 282 [.int .i64 fr, .fn (.func g) [] []] s (.int .i64 (spanA p s.src fr - fr : Nat)) s := by
  refine SK.of (.int _ _) (acallsG h (by simp [c_282]) ?_)
  conv => whnf
  intro I hI hG
  have key : ∀ (d k : Nat) (e : Env), s.src.length - (fr + k) = d → fr + k ≤ s.src.length → spanA p s.src fr = spanA p s.src (fr + k) →
      I (setL e [(0, .ptr 2 0), (1, .int .i64 fr), (2, .fn (.func g) [] []), (7, .int .i64 k)]) (sheap s) := by
    intro d
    induction d with
    | zero =>
      intro k e hd hk hv
      apply hI
      conv => whnf
      rw [wrapN (n := fr + k) (by omega) (by omega), lt_false (by omega)]
      conv => whnf
      rw [hv, span_end (by omega), Nat.add_sub_cancel_left]
      exact ⟨_, [], rfl, Weak.refl _, (List.append_nil _).symm⟩
    | succ d ih =>
      intro k e hd hk hv
      have hlt : fr + k < s.src.length := by omega
      apply hI
      conv => whnf
      rw [wrapN (n := fr + k) (by omega) (by omega), lt_true hlt]
      conv => whnf
      rw [wrapN (n := fr + k) (by omega) (by omega)]
      refine step_at hlt ?_
      conv => whnf
      refine (hp _).to ?_
      cases hc : p s.src[fr + k]
      · conv => whnf
        rw [hv, span_no hlt hc, Nat.add_sub_cancel_left]
        exact ⟨_, [], rfl, Weak.refl _, (List.append_nil _).symm⟩
      · conv => whnf
        refine inv_of [(0, .ptr 2 0), (1, .int .i64 fr), (2, .fn (.func g) [] []), (7, .int .i64 (k + 1 : Nat))] ⟨rfl, rfl, rfl, add1 (by omega), trivial⟩ (ih (k + 1) _ (by omega) (by omega) ?_)
        rw [hv, span_yes hlt hc]
        rfl
  exact inv_of [(0, .ptr 2 0), (1, .int .i64 fr), (2, .fn (.func g) [] []), (7, .int .i64 0)] ⟨rfl, rfl, rfl, rfl, trivial⟩ (key (s.src.length - fr) 0 _ rfl hf rfl)

def addS' (s : SC) (kind : Int) (n : Nat) : SC := { s with toks := s.toks ++ [⟨kind, s.at_, subA s.src s.at_ (s.at_ + n)⟩], at_ := s.at_ + n }
theorem padd_spec (h : T.has 287 c_287) (s : SC) (hs : s.ok) (kind : Int) (n : Nat) (hn : s.at_ + n ≤ s.src.length) : SK T.L 287 [.int .i64 kind, .int .i64 n] s (.tup []) (addS' s kind n) := by
  have := hs.src
  refine SK.of low_unit (acallsG h (by simp [c_287]) ?_)
  conv => whnf
  rw [wrapN (n := s.at_ + n) (by omega) (by omega)]
  refine ⟨Nat.le_add_right _ _, hn, ?_⟩
  conv => whnf
  refine app_tok hs ⟨kind, s.at_, subA s.src s.at_ (s.at_ + n)⟩ rfl rfl ?_
  conv => whnf
  rw [wrapN (n := s.at_ + n) (by omega) (by omega)]
  exact ⟨_, [], rfl, Weak.refl _, (List.append_nil _).symm⟩

def tellS (s : SC) (code : Int) : SC := { s with diags := s.diags ++ [⟨s.at_, code, []⟩] }
theorem ptell_spec (h : T.has 292 c_292) (s : SC) (hs : s.ok) (code : Int) : SK T.L 292 [.int .i64 code] s (.tup []) (tellS s code) := by
  refine SK.of low_unit (acallsG h (by simp [c_292]) ?_)
  conv => whnf
  refine app_dg hs ⟨s.at_, code, []⟩ rfl rfl ?_
  conv => whnf
  exact ⟨_, [], rfl, Weak.refl _, (List.append_nil _).symm⟩

end Go.Ag
/- Package lex: numbers, texts, the next token, Lex. -/
set_option linter.unusedVariables false
namespace Go.Ag
open Go

variable {T : Tab} {L : Lnk}

def cut2 (c : UInt8) (s : Bytes) : Bytes × Bytes × Bool := (s.takeWhile (· != c), (s.dropWhile (· != c)).drop 1, s.any (· == c))

structure LexLib (L : Lnk) : Prop where
  cut : ∀ (c : UInt8) (s : Bytes), s.length ≤ 2 ^ 31 → Pure L 22 [.str s, .str [c]] (.tup [.str (cut2 c s).1, .str (cut2 c s).2.1, .bool (cut2 c s).2.2])
  idx : ∀ c : UInt8, ∃ n : Int, decide (n ≥ 0) = inA c signsL ∧ Pure L 49 [.str signsL, .int .u8 c.toNat] (.int .i64 n)

structure LexFns (T : Tab) : Prop where
  h215 : T.has 215 c_215
  h246 : T.has 246 c_246
  h282 : T.has 282 c_282
  h283 : T.has 283 c_283
  h284 : T.has 284 c_284
  h285 : T.has 285 c_285
  h286 : T.has 286 c_286
  h287 : T.has 287 c_287
  h288 : T.has 288 c_288
  h289 : T.has 289 c_289
  h290 : T.has 290 c_290
  h291 : T.has 291 c_291
  h292 : T.has 292 c_292
  h305 : T.has 305 c_305
  lib : LexLib T.L

def stepS (s : SC) (c : UInt8) : SC := { s with at_ := (lexStep s.src s.at_ c).1, toks := s.toks ++ (lexStep s.src s.at_ c).2.1, diags := s.diags ++ (lexStep s.src s.at_ c).2.2 }

theorem low_spanArgs (a : Nat) (g : Nat) : ∀ x ∈ [AVal.int .i64 a, .fn (.func g) [] []], Low 3 x := fun x hx => by
  simp only [List.mem_cons, List.not_mem_nil, or_false] at hx
  rcases hx with rfl | rfl
  · exact .int _ _
  · exact .fn _ _ _ (fun x hx => by cases hx) (fun x hx => by cases hx)
theorem low2 {n : Nat} {x y : AVal} (hx : Low n x) (hy : Low n y) : ∀ z ∈ [x, y], Low n z := fun z hz => by
  simp only [List.mem_cons, List.not_mem_nil, or_false] at hz
  rcases hz with rfl | rfl <;> assumption

def numS (s : SC) : SC :=
  if 18 < whileA s.src s.at_ digitsL - s.at_ then { s with at_ := whileA s.src s.at_ digitsL, toks := s.toks ++ [⟨3, s.at_, [48]⟩], diags := s.diags ++ [⟨s.at_, 13, []⟩] }
  else { s with at_ := whileA s.src s.at_ digitsL, toks := s.toks ++ [⟨3, s.at_, subA s.src s.at_ (whileA s.src s.at_ digitsL)⟩] }

theorem number_specP (F : LexFns T) (s : SC) (hs : s.ok) (h1 : s.at_ < s.src.length) : SK T.L 289 [] s (.tup []) (numS s) := by
  have := hs.src
  refine SK.of low_unit (acallsG F.h289 (by simp [c_289]) ?_)
  conv => whnf
  refine (run_spec F.h282 (digit_spec F.h288) s hs.src s.at_ (by omega)).to (low_spanArgs _ _) (.int _ _) [] (List.append_nil _).symm ?_
  have hw : spanA (fun c => inA c digitsL) s.src s.at_ = whileA s.src s.at_ digitsL := rfl
  rw [hw]
  have hle := span_le (p := (inA · digitsL)) (src := s.src) (k := s.at_) (by omega)
  rw [show spanA (inA · digitsL) s.src s.at_ = whileA s.src s.at_ digitsL from rfl] at hle
  unfold numS
  generalize whileA s.src s.at_ digitsL = e at hle ⊢
  conv => whnf
  by_cases hn : 18 < e - s.at_
  · rw [if_pos hn, show decide (((e - s.at_ : Nat) : Int) ≤ 18) = false from by simp; omega]
    conv => whnf
    refine (ptell_spec F.h292 s hs 13).to (low1 (.int _ _)) low_unit [] (List.append_nil _).symm ?_
    unfold tellS
    conv => whnf
    refine app_tok hs ⟨3, s.at_, [48]⟩ rfl rfl ?_
    conv => whnf
    dsimp only
    rw [wrapN (n := e) (by omega) (by omega)]
    exact ⟨_, [], rfl, Weak.refl _, (List.append_nil _).symm⟩
  · rw [if_neg hn, show decide (((e - s.at_ : Nat) : Int) ≤ 18) = true from by simp; omega]
    conv => whnf
    refine (padd_spec F.h287 s hs 3 (e - s.at_) (by omega)).to (low2 (.int _ _) (.int _ _)) low_unit [] (List.append_nil _).symm ?_
    have e1 : s.at_ + (e - s.at_) = e := by omega
    unfold addS'
    rw [e1]
    conv => whnf
    exact ⟨_, [], rfl, Weak.refl _, (List.append_nil _).symm⟩

theorem text_lists : ∀ rest : Bytes, (rest.takeWhile (· != 10)).takeWhile (· != 34) = rest.takeWhile (fun c => !inA c [34, 10]) ∧
    (rest.takeWhile (· != 10)).any (· == 34) = (rest[(rest.takeWhile (fun c => !inA c [34, 10])).length]? == some 34) ∧
    ((rest.takeWhile (· != 10)).any (· == 34) = false → rest.takeWhile (· != 10) = rest.takeWhile (fun c => !inA c [34, 10]))
  | [] => ⟨rfl, rfl, fun _ => rfl⟩
  | c :: rest => by
    obtain ⟨i1, i2, i3⟩ := text_lists rest
    have hin : inA c [34, 10] = (c == 34 || c == 10) := by simp [inA, Bool.beq_comm]
    by_cases h10 : c = 10
    · subst h10; exact ⟨by simp [List.takeWhile, inA], by simp [List.takeWhile, inA], fun _ => by simp [List.takeWhile, inA]⟩
    · have e10 : (c != 10) = true := by simpa using h10
      rw [List.takeWhile_cons_of_pos (p := (· != 10)) e10]
      by_cases h34 : c = 34
      · subst h34
        refine ⟨by simp [List.takeWhile, inA], by simp [List.takeWhile, inA], fun h => by simp at h⟩
      · have e34 : (c != 34) = true := by simpa using h34
        have hq : (!inA c [34, 10]) = true := by rw [hin]; simp [h34, h10]
        rw [List.takeWhile_cons_of_pos (p := (· != 34)) e34, List.takeWhile_cons_of_pos (p := fun c => !inA c [34, 10]) hq, i1]
        refine ⟨rfl, ?_, fun h => ?_⟩
        · rw [List.any_cons, show (c == 34) = false from by simpa using h34, Bool.false_or, i2, List.length_cons, List.getElem?_cons_succ]
        · rw [List.any_cons, show (c == 34) = false from by simpa using h34, Bool.false_or] at h
          rw [i3 h]

def textS (s : SC) : SC :=
  if s.src[untilA s.src (s.at_ + 1) [34, 10]]? = some 34 then { s with at_ := untilA s.src (s.at_ + 1) [34, 10] + 1, toks := s.toks ++ [⟨4, s.at_, subA s.src (s.at_ + 1) (untilA s.src (s.at_ + 1) [34, 10])⟩] }
  else { s with at_ := untilA s.src (s.at_ + 1) [34, 10], diags := s.diags ++ [⟨s.at_, 1, []⟩] }

theorem text_specP (F : LexFns T) (s : SC) (hs : s.ok) (h1 : s.at_ < s.src.length) : SK T.L 290 [] s (.tup []) (textS s) := by
  have := hs.src
  refine SK.of low_unit (acallsG F.h290 (by simp [c_290]) ?_)
  obtain ⟨rest, hrest⟩ : ∃ rest, s.src.drop (s.at_ + 1) = rest := ⟨_, rfl⟩
  obtain ⟨t1, t2, t3⟩ := text_lists rest
  have hl : rest.length = s.src.length - (s.at_ + 1) := by rw [← hrest]; simp
  obtain ⟨w, hw⟩ : ∃ w, rest.takeWhile (fun c => !inA c [34, 10]) = w := ⟨_, rfl⟩
  rw [hw] at t1 t2 t3
  have hu : untilA s.src (s.at_ + 1) [34, 10] = s.at_ + 1 + w.length := by unfold untilA spanA; rw [hrest, hw]
  have hwl : w.length ≤ rest.length := by rw [← hw]; exact (List.takeWhile_sublist _).length_le
  have hline : (rest.takeWhile (· != 10)).length ≤ rest.length := (List.takeWhile_sublist _).length_le
  have hat : s.src[s.at_ + 1 + w.length]? = rest[w.length]? := by rw [← hrest, List.getElem?_drop]
  have hsub : subA s.src (s.at_ + 1) (s.at_ + 1 + w.length) = w := by
    unfold subA
    rw [List.drop_take, hrest, Nat.add_sub_cancel_left]
    rw [← hw]
    exact List.prefix_iff_eq_take.1 (List.takeWhile_prefix _) |>.symm
  unfold textS
  rw [hu, hat, hsub]
  conv => whnf
  rw [wrapN (n := s.at_ + 1) (by omega) (by omega)]
  refine ⟨h1, Nat.le_refl _, ?_⟩
  rw [List.take_length, show ((s.at_ + 1 : Nat) : Int).toNat = s.at_ + 1 from rfl, hrest]
  conv => whnf
  refine (F.lib.cut 10 rest (by omega)).to ?_
  unfold cut2
  conv => whnf
  refine (F.lib.cut 34 (rest.takeWhile (· != 10)) (by omega)).to ?_
  unfold cut2
  rw [t1]
  conv => whnf
  cases hc : (rest.takeWhile (· != 10)).any (· == 34)
  · rw [hc] at t2
    rw [if_neg (by intro e; rw [e] at t2; simp at t2)]
    conv => whnf
    refine (ptell_spec F.h292 s hs 1).to (low1 (.int _ _)) low_unit [] (List.append_nil _).symm ?_
    unfold tellS
    conv => whnf
    dsimp only
    rw [t3 hc, wrapN (a := 1) (b := (w.length : Int)) (n := 1 + w.length) (by omega) (by omega), wrapN (n := s.at_ + 1 + w.length) (by omega) (by omega)]
    exact ⟨_, [], rfl, Weak.refl _, (List.append_nil _).symm⟩
  · rw [hc] at t2
    rw [if_pos (by simpa using t2.symm)]
    conv => whnf
    refine app_tok hs ⟨4, s.at_, w⟩ rfl rfl ?_
    conv => whnf
    rw [wrapN (a := (w.length : Int)) (b := 2) (n := w.length + 2) (by omega) (by omega), wrapN (n := s.at_ + 1 + w.length + 1) (by omega) (by omega)]
    exact ⟨_, [], rfl, Weak.refl _, (List.append_nil _).symm⟩

end Go.Ag
/- Package lex: the next token, Lex. -/
set_option linter.unusedVariables false
namespace Go.Ag
open Go

variable {T : Tab} {L : Lnk}

theorem ws_eq (c : UInt8) : inA c wsL = (c == 32 || (c == 9 || (c == 10 || c == 13))) := beq_iff_eq.1 (u8_all (p := fun c => inA c wsL == (c == 32 || (c == 9 || (c == 10 || c == 13)))) (by kernel_rfl) c)

theorem next_specP (F : LexFns T) (s : SC) (hs : s.ok) (h1 : s.at_ < s.src.length) : SK T.L 246 [] s (.tup []) (stepS s s.src[s.at_]) := by
  have := hs.src
  refine SK.of low_unit (acallsG F.h246 (by simp [c_246]) ?_)
  conv => whnf
  refine step_at h1 ?_
  obtain ⟨c, hc⟩ : ∃ c, s.src[s.at_] = c := ⟨_, rfl⟩
  rw [hc]
  obtain ⟨R, hR⟩ : ∃ R, lexStep s.src s.at_ c = R := ⟨_, rfl⟩
  rw [show stepS s c = { s with at_ := R.1, toks := s.toks ++ R.2.1, diags := s.diags ++ R.2.2 } from by unfold stepS; rw [hR]]
  rw [lexStep] at hR
  have ws := ws_eq c
  conv => whnf
  rw [show ((c.toNat : Int) == 32) = (c == 32) from u8_beq c 32]
  cases h32 : (c == 32)
  · conv => whnf
    rw [show ((c.toNat : Int) == 9) = (c == 9) from u8_beq c 9]
    cases h9 : (c == 9)
    · conv => whnf
      rw [show ((c.toNat : Int) == 10) = (c == 10) from u8_beq c 10]
      cases h10 : (c == 10)
      · conv => whnf
        rw [show ((c.toNat : Int) == 13) = (c == 13) from u8_beq c 13]
        cases h13 : (c == 13)
        · rw [h32, h9, h10, h13, Bool.false_or, Bool.false_or, Bool.false_or] at ws
          rw [if_neg (by simp [ws])] at hR
          clear ws
          conv => whnf
          rw [show ((c.toNat : Int) == 35) = (c == 35) from u8_beq c 35]
          cases h35 : (c == 35)
          · rw [if_neg (by simp [h35])] at hR
            conv => whnf
            refine (begins_spec F.h284 c).to ?_
            cases hb : inA c smallL
            · rw [if_neg (by simp [hb])] at hR
              conv => whnf
              refine (digit_spec F.h288 c).to ?_
              cases hd : inA c digitsL
              · rw [if_neg (by simp [hd])] at hR
                conv => whnf
                rw [show ((c.toNat : Int) == 34) = (c == 34) from u8_beq c 34]
                cases h34 : (c == 34)
                · rw [if_neg (by simp [h34])] at hR
                  conv => whnf
                  refine ⟨Nat.le_of_lt h1, Nat.le_refl _, ?_⟩
                  rw [List.take_length, show ((s.at_ : Nat) : Int).toNat = s.at_ from rfl]
                  conv => whnf
                  refine (prefix_spec F.h291 F.h305 _ _).to ?_
                  have hpre : (decide (([45, 62] : Bytes).length ≤ (s.src.drop s.at_).length) && (s.src.drop s.at_).take ([45, 62] : Bytes).length == ([45, 62] : Bytes)) = decide ((c == 45) = true ∧ s.src[s.at_ + 1]? = some 62) := by
                    rw [Bool.eq_iff_iff]
                    rw [List.drop_eq_getElem_cons h1, hc]
                    rw [show s.src[s.at_ + 1]? = (s.src.drop (s.at_ + 1))[0]? from by rw [List.getElem?_drop]]
                    cases hq : s.src.drop (s.at_ + 1) with
                    | nil => simp
                    | cons x xs => simp
                  rw [hpre]
                  by_cases h45 : (c == 45) = true ∧ s.src[s.at_ + 1]? = some 62
                  · rw [if_pos h45] at hR
                    rw [decide_eq_true h45]
                    subst hR
                    conv => whnf
                    have hx : s.at_ + 2 ≤ s.src.length := by
                      have := (List.getElem?_eq_some_iff.1 h45.2).1
                      omega
                    refine (padd_spec F.h287 s hs 5 2 hx).to (low2 (.int _ _) (.int _ _)) low_unit [] (List.append_nil _).symm ?_
                    unfold addS'
                    conv => whnf
                    have hsub : subA s.src s.at_ (s.at_ + 2) = [45, 62] := by
                      have e1 := (List.getElem?_eq_some_iff.1 h45.2)
                      unfold subA
                      rw [List.drop_take, Nat.add_sub_cancel_left, List.drop_eq_getElem_cons h1, hc, List.drop_eq_getElem_cons e1.1, e1.2, beq_iff_eq.1 h45.1]
                      rfl
                    dsimp only
                    rw [hsub, List.append_nil s.diags]
                    exact ⟨_, [], rfl, Weak.refl _, (List.append_nil _).symm⟩
                  · rw [if_neg h45] at hR
                    rw [decide_eq_false h45]
                    conv => whnf
                    obtain ⟨n, hn, hidx⟩ := F.lib.idx c
                    refine hidx.to ?_
                    conv => whnf
                    rw [show (decide (n ≥ 0)) = inA c signsL from hn]
                    cases hs2 : inA c signsL
                    · rw [if_neg (by simp [hs2])] at hR
                      subst hR
                      conv => whnf
                      refine (ptell_spec F.h292 s hs 1).to (low1 (.int _ _)) low_unit [] (List.append_nil _).symm ?_
                      unfold tellS
                      conv => whnf
                      dsimp only
                      rw [wrapN (n := s.at_ + 1) (by omega) (by omega), List.append_nil s.toks]
                      exact ⟨_, [], rfl, Weak.refl _, (List.append_nil _).symm⟩
                    · rw [if_pos hs2] at hR
                      subst hR
                      conv => whnf
                      refine (padd_spec F.h287 s hs 5 1 h1).to (low2 (.int _ _) (.int _ _)) low_unit [] (List.append_nil _).symm ?_
                      unfold addS'
                      conv => whnf
                      dsimp only
                      rw [List.append_nil s.diags]
                      exact ⟨_, [], rfl, Weak.refl _, (List.append_nil _).symm⟩
                · rw [if_pos h34] at hR
                  conv => whnf
                  refine (text_specP F s hs h1).to (fun x hx => by cases hx) low_unit [] (List.append_nil _).symm ?_
                  unfold textS
                  conv => whnf
                  have he : ∀ b : Prop, [Decidable b] → True := fun _ _ => trivial
                  by_cases hq : s.src[untilA s.src (s.at_ + 1) [34, 10]]? = some 34
                  · rw [if_pos hq] at hR ⊢
                    subst hR
                    dsimp only
                    rw [List.append_nil s.diags]
                    exact ⟨_, [], rfl, Weak.refl _, (List.append_nil _).symm⟩
                  · rw [if_neg hq] at hR ⊢
                    subst hR
                    dsimp only
                    rw [List.append_nil s.toks]
                    exact ⟨_, [], rfl, Weak.refl _, (List.append_nil _).symm⟩
              · rw [if_pos hd] at hR
                conv => whnf
                refine (number_specP F s hs h1).to (fun x hx => by cases hx) low_unit [] (List.append_nil _).symm ?_
                unfold numS
                conv => whnf
                by_cases hq : 18 < whileA s.src s.at_ digitsL - s.at_
                · rw [if_pos hq] at hR ⊢
                  subst hR
                  exact ⟨_, [], rfl, Weak.refl _, (List.append_nil _).symm⟩
                · rw [if_neg hq] at hR ⊢
                  subst hR
                  dsimp only
                  rw [List.append_nil s.diags]
                  exact ⟨_, [], rfl, Weak.refl _, (List.append_nil _).symm⟩
            · rw [if_pos hb] at hR
              conv => whnf
              refine (run_spec F.h282 (goes_spec F.h285 F.h284 F.h288) s hs.src s.at_ (by omega)).to (low_spanArgs _ _) (.int _ _) [] (List.append_nil _).symm ?_
              rw [show spanA (fun c => inA c alnumL) s.src s.at_ = whileA s.src s.at_ alnumL from rfl]
              have hle := span_le (p := (inA · alnumL)) (src := s.src) (k := s.at_) (by omega)
              rw [show spanA (inA · alnumL) s.src s.at_ = whileA s.src s.at_ alnumL from rfl] at hle
              generalize whileA s.src s.at_ alnumL = e at hle hR ⊢
              have e1 : s.at_ + (e - s.at_) = e := by omega
              conv => whnf
              rw [wrapN (n := e) (by omega) (by omega)]
              refine ⟨hle.1, hle.2, ?_⟩
              conv => whnf
              refine (pword_spec F.h286 _).to ?_
              rw [show (s.src.take ((e : Nat) : Int).toNat).drop ((s.at_ : Nat) : Int).toNat = subA s.src s.at_ e from rfl]
              cases hw : wordA (subA s.src s.at_ e)
              · rw [if_neg (by simp [hw])] at hR
                subst hR
                conv => whnf
                refine (padd_spec F.h287 s hs 1 (e - s.at_) (by omega)).to (low2 (.int _ _) (.int _ _)) low_unit [] (List.append_nil _).symm ?_
                unfold addS'
                rw [e1]
                conv => whnf
                dsimp only
                rw [List.append_nil s.diags]
                exact ⟨_, [], rfl, Weak.refl _, (List.append_nil _).symm⟩
              · rw [if_pos hw] at hR
                subst hR
                conv => whnf
                refine (padd_spec F.h287 s hs 2 (e - s.at_) (by omega)).to (low2 (.int _ _) (.int _ _)) low_unit [] (List.append_nil _).symm ?_
                unfold addS'
                rw [e1]
                conv => whnf
                dsimp only
                rw [List.append_nil s.diags]
                exact ⟨_, [], rfl, Weak.refl _, (List.append_nil _).symm⟩
          · rw [if_pos h35] at hR
            subst hR
            conv => whnf
            refine (run_spec F.h282 (nl_spec F.h283) s hs.src s.at_ (by omega)).to (low_spanArgs _ _) (.int _ _) [] (List.append_nil _).symm ?_
            rw [show spanA (fun c => !inA c [10]) s.src s.at_ = untilA s.src s.at_ [10] from rfl]
            have hle := span_le (p := fun c => !inA c [10]) (src := s.src) (k := s.at_) (by omega)
            rw [show spanA (fun c => !inA c [10]) s.src s.at_ = untilA s.src s.at_ [10] from rfl] at hle
            generalize untilA s.src s.at_ [10] = e at hle ⊢
            conv => whnf
            refine ⟨⟨rfl, trivial⟩, ?_⟩
            conv => whnf
            dsimp only
            rw [wrapN (n := e) (by omega) (by omega), List.append_nil s.toks, List.append_nil s.diags]
            exact ⟨_, [], rfl, Weak.refl _, (List.append_nil _).symm⟩
        · rw [h32, h9, h10, h13, Bool.false_or, Bool.false_or, Bool.false_or] at ws
          rw [if_pos ws] at hR
          subst hR
          conv => whnf
          dsimp only
          rw [wrapN (n := s.at_ + 1) (by omega) (by omega), List.append_nil s.toks, List.append_nil s.diags]
          exact ⟨_, [], rfl, Weak.refl _, (List.append_nil _).symm⟩
      · rw [h32, h9, h10, Bool.false_or, Bool.false_or, Bool.true_or] at ws
        rw [if_pos ws] at hR
        subst hR
        conv => whnf
        dsimp only
        rw [wrapN (n := s.at_ + 1) (by omega) (by omega), List.append_nil s.toks, List.append_nil s.diags]
        exact ⟨_, [], rfl, Weak.refl _, (List.append_nil _).symm⟩
    · rw [h32, h9, Bool.false_or, Bool.true_or] at ws
      rw [if_pos ws] at hR
      subst hR
      conv => whnf
      dsimp only
      rw [wrapN (n := s.at_ + 1) (by omega) (by omega), List.append_nil s.toks, List.append_nil s.diags]
      exact ⟨_, [], rfl, Weak.refl _, (List.append_nil _).symm⟩
  · rw [h32, Bool.true_or] at ws
    rw [if_pos ws] at hR
    subst hR
    conv => whnf
    dsimp only
    rw [wrapN (n := s.at_ + 1) (by omega) (by omega), List.append_nil s.toks, List.append_nil s.diags]
    exact ⟨_, [], rfl, Weak.refl _, (List.append_nil _).symm⟩

end Go.Ag
/- Package cupelref05: what the reader reads of an expression, as plain functions. -/
set_option linter.unusedVariables false
namespace Go.Ag
open Go

def kFun : Bytes := [102, 117, 110]
def kLet : Bytes := [108, 101, 116]
def kIf : Bytes := [105, 102]
def kEq : Bytes := [61]
def kIn : Bytes := [105, 110]
def kThen : Bytes := [116, 104, 101, 110]
def kElse : Bytes := [101, 108, 115, 101]
def kDot : Bytes := [46]
def kTrue : Bytes := [116, 114, 117, 101]
def kFalse : Bytes := [102, 97, 108, 115, 101]
def kSemi : Bytes := [59]

def zeroE : EA := .mk 0 0 [] 0 [] [] []
def EA.names : EA → List Bytes | .mk _ _ _ _ ns _ _ => ns
def EA.at_ : EA → Int | .mk _ p _ _ _ _ _ => p
def EA.l : EA → List EA | .mk _ _ _ _ _ l _ => l

def deepR (d : Nat) (s : RS) : RS := if 64 < d then giveR s 3 else s

mutual
def exprR : Nat → Nat → RS → EA × RS
  | 0, _, s => (zeroE, s)
  | n + 1, d, s =>
    if (deepR d s).bad then (zeroE, deepR d s)
    else if isR (deepR d s) kFun then funR n d (deepR d s).tok.at_ (nameR (takeR (takeR (deepR d s) kFun) kLp))
    else if isR (deepR d s) kLet then letR n d (deepR d s).tok.at_ (nameR (takeR (deepR d s) kLet))
    else if isR (deepR d s) kIf then ifR n d (deepR d s).tok.at_ (takeR (deepR d s) kIf)
    else postR n d (basicR n d (deepR d s)).1 (basicR n d (deepR d s)).2
def funR : Nat → Nat → Int → TokA × RS → EA × RS
  | 0, _, _, p => (zeroE, p.2)
  | n + 1, d, at_, p =>
    if (takeR p.2 kColon).bad then (zeroE, takeR p.2 kColon)
    else if (takeR (typeR n (d + 1) (takeR p.2 kColon)).2 kRp).bad then (zeroE, takeR (typeR n (d + 1) (takeR p.2 kColon)).2 kRp)
    else (.mk 8 at_ p.1.text 0 [] [(exprR n (d + 1) (takeR (typeR n (d + 1) (takeR p.2 kColon)).2 kRp)).1] [(typeR n (d + 1) (takeR p.2 kColon)).1],
      (exprR n (d + 1) (takeR (typeR n (d + 1) (takeR p.2 kColon)).2 kRp)).2)
def letR : Nat → Nat → Int → TokA × RS → EA × RS
  | 0, _, _, p => (zeroE, p.2)
  | n + 1, d, at_, p =>
    (.mk 9 at_ p.1.text 0 [] [(exprR n (d + 1) (takeR p.2 kEq)).1, (exprR n (d + 1) (takeR (exprR n (d + 1) (takeR p.2 kEq)).2 kIn)).1] [],
      (exprR n (d + 1) (takeR (exprR n (d + 1) (takeR p.2 kEq)).2 kIn)).2)
def ifR : Nat → Nat → Int → RS → EA × RS
  | 0, _, _, s => (zeroE, s)
  | n + 1, d, at_, s => elseR n d at_ (exprR n (d + 1) s).1 (exprR n (d + 1) (takeR (exprR n (d + 1) s).2 kThen))
def elseR : Nat → Nat → Int → EA → EA × RS → EA × RS
  | 0, _, _, _, q => (zeroE, q.2)
  | n + 1, d, at_, a, q => (.mk 10 at_ [] 0 [] [a, q.1, (exprR n (d + 1) (takeR q.2 kElse)).1] [], (exprR n (d + 1) (takeR q.2 kElse)).2)
def postR : Nat → Nat → EA → RS → EA × RS
  | 0, _, x, s => (x, s)
  | n + 1, d, x, s =>
    if isR s kLp then postR n d (.mk 7 s.tok.at_ [] 0 [] [x, (exprR n (d + 1) (takeR s kLp)).1] []) (takeR (exprR n (d + 1) (takeR s kLp)).2 kRp)
    else if isR s kDot then postR n d (.mk 6 (nameR (takeR s kDot)).1.at_ (nameR (takeR s kDot)).1.text 0 [] [x] []) (nameR (takeR s kDot)).2
    else (x, s)
def basicR : Nat → Nat → RS → EA × RS
  | 0, _, s => (zeroE, s)
  | n + 1, d, s =>
    if s.bad then (zeroE, s)
    else if s.tok.kind = 1 then (.mk 4 s.tok.at_ s.tok.text 0 [] [] [], { s with i := s.i + 1 })
    else if s.tok.kind = 3 then (.mk 1 s.tok.at_ [] (numberR s.tok.text) [] [] [], { s with i := s.i + 1 })
    else if s.tok.kind = 4 then (.mk 2 s.tok.at_ s.tok.text 0 [] [] [], { s with i := s.i + 1 })
    else if isR s kTrue then (.mk 3 s.tok.at_ [] 1 [] [] [], takeR s kTrue)
    else if isR s kFalse then (.mk 3 s.tok.at_ [] 0 [] [] [], takeR s kFalse)
    else if isR s kLb then efieldsR n d s.tok.at_ [] [] (takeR s kLb)
    else if (takeR s kLp).bad then (zeroE, takeR s kLp)
    else asR n d s.tok.at_ (exprR n (d + 1) (takeR s kLp))
def asR : Nat → Nat → Int → EA × RS → EA × RS
  | 0, _, _, q => (zeroE, q.2)
  | n + 1, d, at_, q =>
    if isR q.2 kColon then (.mk 11 at_ [] 0 [] [q.1] [(typeR n (d + 1) (takeR q.2 kColon)).1], takeR (typeR n (d + 1) (takeR q.2 kColon)).2 kRp)
    else (q.1, takeR q.2 kRp)
def efieldsR : Nat → Nat → Int → List Bytes → List EA → RS → EA × RS
  | 0, _, _, _, _, s => (zeroE, s)
  | n + 1, d, at_, names, l, s =>
    if !s.bad && !isR s kRb then
      if (takeR (nameR s).2 kEq).bad then (zeroE, takeR (nameR s).2 kEq)
      else if hasR names (nameR s).1.text then
        efieldsR n d at_ names l (commaR (exprR n (d + 1) (twiceR (takeR (nameR s).2 kEq) (nameR s).1)).2)
      else
        efieldsR n d at_ (names ++ [(nameR s).1.text]) (l ++ [(exprR n (d + 1) (takeR (nameR s).2 kEq)).1]) (commaR (exprR n (d + 1) (takeR (nameR s).2 kEq)).2)
    else (.mk 5 at_ [] 0 names l [], takeR s kRb)
end

structure LeEx (n : Nat) : Prop where
  expr : ∀ (d : Nat) (s : RS), s.ok → s.le (exprR n d s).2
  fn : ∀ (d : Nat) (a : Int) (p : TokA × RS), p.2.ok → p.2.le (funR n d a p).2
  lt : ∀ (d : Nat) (a : Int) (p : TokA × RS), p.2.ok → p.2.le (letR n d a p).2
  ie : ∀ (d : Nat) (a : Int) (s : RS), s.ok → s.le (ifR n d a s).2
  el : ∀ (d : Nat) (a : Int) (x : EA) (q : EA × RS), q.2.ok → q.2.le (elseR n d a x q).2
  post : ∀ (d : Nat) (x : EA) (s : RS), s.ok → s.le (postR n d x s).2
  basic : ∀ (d : Nat) (s : RS), s.ok → s.le (basicR n d s).2
  as_ : ∀ (d : Nat) (a : Int) (q : EA × RS), q.2.ok → q.2.le (asR n d a q).2
  fields : ∀ (d : Nat) (a : Int) (names : List Bytes) (l : List EA) (s : RS), s.ok → s.le (efieldsR n d a names l s).2

end Go.Ag
/- Package cupelref05: basic, Expr. -/
set_option linter.unusedVariables false
namespace Go.Ag
open Go

variable {T : Tab} {L : Lnk}

structure ExSpec (T : Tab) (n : Nat) : Prop where
  expr : ∀ (d : Nat) (s : RS), s.ok → d ≤ 65 → 6 * s.rem + 8 ≤ n → RC T.L 42 [.int .i64 d] s (exprR n d s).1.av (exprR n d s).2
  basic : ∀ (d : Nat) (s : RS), s.ok → d ≤ 64 → 6 * s.rem + 7 ≤ n → RC T.L 63 [.int .i64 d] s (basicR n d s).1.av (basicR n d s).2

end Go.Ag
/- Package cupelref05: declarations, Of. -/
set_option linter.unusedVariables false
namespace Go.Ag
open Go

variable {T : Tab} {L : Lnk}

def startR (src : Bytes) : RS := ⟨(lexA src).1, 0, (lexA src).2, false⟩

def kUse : Bytes := [117, 115, 101]
def kTypeW : Bytes := [116, 121, 112, 101]
def declU (p : TokA × RS) : DeclA × RS := (⟨1, p.1.at_, p.1.text, [], []⟩, takeR p.2 kSemi)
def declT (n : Nat) (p : TokA × RS) : DeclA × RS := (⟨2, p.1.at_, p.1.text, [(typeR n 1 (takeR p.2 kEq)).1], []⟩, takeR (typeR n 1 (takeR p.2 kEq)).2 kSemi)
def declE (n : Nat) (t : TokA) (ts : List TA) (s : RS) : DeclA × RS := (⟨3, t.at_, t.text, ts, [(exprR n 1 (takeR s kEq)).1]⟩, takeR (exprR n 1 (takeR s kEq)).2 kSemi)
def declL (n : Nat) (p : TokA × RS) : DeclA × RS := if isR p.2 kColon then declE n p.1 [(typeR n 1 (takeR p.2 kColon)).1] (typeR n 1 (takeR p.2 kColon)).2 else declE n p.1 [] p.2
def declR (n : Nat) (s : RS) : DeclA × RS :=
  if isR s kUse then declU (nameR (takeR s kUse))
  else if isR s kTypeW then declT n (nameR (takeR s kTypeW))
  else if isR s kLet then declL n (nameR (takeR s kLet))
  else (⟨0, 0, [], [], []⟩, giveR s 2)

end Go.Ag
/- Package cupelref05: Parse, ExprOf. -/
set_option linter.unusedVariables false
namespace Go.Ag
open Go

variable {T : Tab} {L : Lnk}

theorem subA_len (src : Bytes) (i j : Nat) : (subA src i j).length ≤ src.length := by
  simp only [subA, List.length_drop, List.length_take]; omega
theorem lexStep_small (src : Bytes) (k : Nat) (c : UInt8) : (lexStep src k c).2.1.length ≤ 1 ∧ (lexStep src k c).2.2.length ≤ 1 ∧ ∀ t ∈ (lexStep src k c).2.1, t.text.length ≤ src.length + 2 := by
  have h := subA_len src
  unfold lexStep
  repeat' split
  all_goals
    refine ⟨by simp, by simp, fun t ht => ?_⟩
    simp only [List.mem_cons, List.not_mem_nil, or_false] at ht
  all_goals first
    | (cases ht; done)
    | (subst ht; first | (exact Nat.le_trans (h _ _) (by omega)) | simp)
theorem lexGo_small (src : Bytes) : ∀ (n k : Nat) (l : List TokA) (d : List DiagA) (b : Nat), l.length ≤ b → d.length ≤ b → (∀ t ∈ l, t.text.length ≤ src.length + 2) →
    (lexGo src n k l d).1.length ≤ b + n ∧ (lexGo src n k l d).2.length ≤ b + n ∧ ∀ t ∈ (lexGo src n k l d).1, t.text.length ≤ src.length + 2
  | 0, k, l, d, b, h1, h2, h3 => ⟨h1, h2, h3⟩
  | n + 1, k, l, d, b, h1, h2, h3 => by
    rw [lexGo]
    split
    · rename_i c hc
      obtain ⟨e1, e2, e3⟩ := lexStep_small src k c
      obtain ⟨k1, k2, k3⟩ := lexGo_small src n (lexStep src k c).1 (l ++ (lexStep src k c).2.1) (d ++ (lexStep src k c).2.2) (b + 1) (by rw [List.length_append]; omega) (by rw [List.length_append]; omega) (fun t ht => by
        rcases List.mem_append.1 ht with ht | ht
        · exact h3 t ht
        · exact e3 t ht)
      exact ⟨by omega, by omega, k3⟩
    · exact ⟨by show l.length ≤ _; omega, by show d.length ≤ _; omega, h3⟩

theorem lexStep_named {src : Bytes} {k : Nat} {c : UInt8} (h : src[k]? = some c) : ∀ t ∈ (lexStep src k c).2.1, t.kind = 1 → t.text ≠ [] := by
  obtain ⟨hlt, hc⟩ := List.getElem?_eq_some_iff.1 h
  have name : inA c smallL = true → subA src k (whileA src k alnumL) ≠ [] := fun hs h0 => by
    have h1 : whileA src k alnumL = spanA (inA · alnumL) src (k + 1) := span_yes (p := (inA · alnumL)) hlt (by show inA src[k] alnumL = true; rw [hc]; exact alnum_of hs)
    have h2 := span_le (p := (inA · alnumL)) (src := src) (k := k + 1) hlt
    have h3 := congrArg List.length h0
    simp only [subA, List.length_drop, List.length_take, List.length_nil] at h3
    rw [h1] at h3
    omega
  have no : ∀ {n : Int} {a : Int} {x : Bytes}, n ≠ 1 → ∀ t ∈ [(⟨n, a, x⟩ : TokA)], t.kind = 1 → t.text ≠ [] := fun hn t ht hk => by
    simp only [List.mem_singleton] at ht; subst ht; exact absurd hk hn
  have nil : ∀ t ∈ ([] : List TokA), t.kind = 1 → t.text ≠ [] := fun t ht => by cases ht
  unfold lexStep
  split
  · exact nil
  split
  · exact nil
  split
  · rename_i hs
    intro t ht hk
    simp only [List.mem_singleton] at ht; subst ht
    exact name hs
  split
  · split
    · exact no (by decide)
    · exact no (by decide)
  split
  · split
    · exact no (by decide)
    · exact nil
  split
  · exact no (by decide)
  split
  · exact no (by decide)
  · exact nil
theorem lexGo_named (src : Bytes) : ∀ (n k : Nat) (l : List TokA) (d : List DiagA), (∀ t ∈ l, t.kind = 1 → t.text ≠ []) → ∀ t ∈ (lexGo src n k l d).1, t.kind = 1 → t.text ≠ []
  | 0, k, l, d, h => h
  | n + 1, k, l, d, h => by
    rw [lexGo]
    split
    · rename_i c hc
      refine lexGo_named src n _ _ _ fun t ht => ?_
      rcases List.mem_append.1 ht with ht | ht
      · exact h t ht
      · exact lexStep_named hc t ht
    · exact h

theorem start_ok (src : Bytes) (hs : src.length ≤ 2 ^ 32) : (startR src).ok ∧ (startR src).toks.length ≤ src.length + 1 ∧ (startR src).diags.length ≤ src.length := by
  obtain ⟨k1, k2, k3⟩ := lexGo_small src src.length 0 [] [] 0 (by simp) (by simp) (fun t ht => by cases ht)
  have e1 : (startR src).toks = (lexGo src src.length 0 [] []).1 ++ [⟨6, src.length, []⟩] := rfl
  have e2 : (startR src).diags = (lexGo src src.length 0 [] []).2 := rfl
  have e3 : (startR src).i = 0 := rfl
  have k4 := lexGo_named src src.length 0 [] [] (fun t ht => by cases ht)
  generalize lexGo src src.length 0 [] [] = g at k1 k2 k3 k4 e1 e2
  refine ⟨⟨?_, fun j t hj hk => ?_, ?_, fun t ht => ?_, ?_, fun t ht hk => ?_⟩, ?_, ?_⟩
  · rw [e1, e3]; simp
  · rw [e1] at hj ⊢
    rw [List.length_append]
    rcases Nat.lt_or_ge j g.1.length with h | h
    · simp; omega
    · rw [List.getElem?_append_right h] at hj
      cases hjj : j - g.1.length with
      | zero => rw [hjj] at hj; simp at hj; rw [← hj] at hk; simp at hk
      | succ m => rw [hjj] at hj; simp at hj
  · rw [e1]; simp; omega
  · rw [e1] at ht
    rcases List.mem_append.1 ht with ht | ht
    · have := k3 t ht; omega
    · simp only [List.mem_singleton] at ht; subst ht; simp
  · unfold RS.pot; rw [e1, e2, e3]; simp; split <;> omega
  · rw [e1] at ht
    rcases List.mem_append.1 ht with ht | ht
    · exact k4 t ht hk
    · simp only [List.mem_singleton] at ht; subst ht; exact absurd (show (6 : Int) = 1 from hk) (by decide)
  · rw [e1]; simp; omega
  · rw [e2]; omega

def exprFuel (src : Bytes) : Nat := 6 * (startR src).rem + 8
def exprOfR (src : Bytes) : EA × Bool :=
  if (exprR (exprFuel src) 1 (startR src)).2.bad || ((exprR (exprFuel src) 1 (startR src)).2.tok.kind != 6 || decide (((exprR (exprFuel src) 1 (startR src)).2.diags.length : Int) > 0)) then (zeroE, false)
  else ((exprR (exprFuel src) 1 (startR src)).1, true)

def skipR : Nat → RS → RS
  | 0, s => s
  | n + 1, s => if (s.tok.kind != 6 && !isR s kSemi) = true then skipR n { s with i := s.i + 1 } else s
def againR (s : RS) : RS := skipR s.rem { s with bad := false }
def semiR (s : RS) : RS := if isR s kSemi then { s with i := s.i + 1 } else s
def parseGo (n : Nat) : Nat → List DeclA → RS → List DeclA × RS
  | 0, l, s => (l, s)
  | k + 1, l, s => if (s.tok.kind != 6) = true then
      (if (declR n s).2.bad = true then parseGo n k l (semiR (againR (declR n s).2)) else parseGo n k (l ++ [(declR n s).1]) (declR n s).2)
    else (l, s)
def parse05R (src : Bytes) : List DeclA × RS := parseGo (exprFuel src) (startR src).rem [] (startR src)

structure RS.okN (s : RS) (b : Nat) : Prop where
  lt : s.i < s.toks.length
  more : ∀ j t, s.toks[j]? = some t → t.kind ≠ 6 → j + 1 < s.toks.length
  len : s.toks.length ≤ 2 ^ 33
  txt : ∀ t ∈ s.toks, t.text.length ≤ 2 ^ 40
  room : s.pot + b ≤ 2 ^ 35
  named : ∀ t ∈ s.toks, t.kind = 1 → t.text ≠ []
end Go.Ag
/- Package lex: Lex. -/
set_option linter.unusedVariables false
namespace Go.Ag
open Go

variable {T : Tab} {L : Lnk}

theorem lexStep_adv {src : Bytes} {k : Nat} {c : UInt8} (h : src[k]? = some c) : k < (lexStep src k c).1 ∧ (lexStep src k c).1 ≤ src.length := by
  obtain ⟨hlt, hc⟩ := List.getElem?_eq_some_iff.1 h
  have yes : ∀ {p : UInt8 → Bool}, p c = true → k < spanA p src k ∧ spanA p src k ≤ src.length := fun {p} hp => by
    rw [span_yes hlt (by rw [hc]; exact hp)]
    exact span_le hlt
  unfold lexStep
  split
  · exact ⟨Nat.lt_succ_self _, hlt⟩
  split
  · rename_i h1
    exact yes (p := fun c => !inA c [10]) (by rw [beq_iff_eq.1 h1]; rfl)
  split
  · rename_i h1
    exact yes (p := (inA · alnumL)) (alnum_of h1)
  split
  · rename_i h1
    have := yes (p := (inA · digitsL)) h1
    split <;> exact this
  split
  · have := span_le (p := fun c => !inA c [34, 10]) (src := src) (k := k + 1) hlt
    split
    · rename_i h2
      have h3 := (List.getElem?_eq_some_iff.1 h2).1
      exact ⟨Nat.lt_succ_of_lt this.1, h3⟩
    · exact ⟨this.1, this.2⟩
  split
  · rename_i h2
    have h3 := (List.getElem?_eq_some_iff.1 h2.2).1
    exact ⟨by show k < k + 2; omega, h3⟩
  split
  · exact ⟨Nat.lt_succ_self _, hlt⟩
  · exact ⟨Nat.lt_succ_self _, hlt⟩

theorem Lex_spec (F : LexFns T) (src : Bytes) (hs : src.length ≤ 2 ^ 31) :
    CallK T.L 215 [.str src] [.dead, .dead] (.tup [.lst ((lexA src).1.map TokA.av) .none, .lst ((lexA src).2.map DiagA.av) (dtok (lexA src).2.length 1)]) [.gone, dobj (lexA src).2.length 333] := by
  refine CallK.of 0 rfl (.tup _ (LowL.at ⟨low_toks _ _ _ trivial, low_diags _ _ _ (dtok_low (by decide)), trivial⟩)) (LowHs.at ⟨trivial, dobj_low _ _ _, trivial⟩) (ACalls.mono (Q := fun r H' => ∃ x o J, r = .ret x ∧ Weak T.L x (.tup [.lst ((lexA src).1.map TokA.av) .none, .lst ((lexA src).2.map DiagA.av) (dtok (lexA src).2.length 1)]) ∧ H' = o :: dobj (lexA src).2.length 333 :: J) ?_ fun r H' ⟨x, o, J, e1, e2, e3⟩ => ⟨x, [o, dobj (lexA src).2.length 333], J, e1, e2, e3, rfl, fun i p q hp hq => ?_⟩)
  · refine acallsG F.h215 (by simp [c_215]) ?_
    conv => whnf
    intro I hI hG
    have key : ∀ (n : Nat) (s : SC) (e : Env), s.src = src → s.ok → src.length - s.at_ ≤ n → lexGo src src.length 0 [] [] = lexGo src n s.at_ s.toks s.diags →
        I (setL e [(0, .str src), (4, .ptr 2 0)]) (sheap s) := by
      intro n
      induction n with
      | zero =>
        intro s e h1 h2 h3 h4
        subst h1
        have hk : s.at_ = s.src.length := by have := h2.at_; omega
        apply hI
        conv => whnf
        rw [lt_false (by omega)]
        conv => whnf
        refine app_tok h2 ⟨6, s.src.length, []⟩ rfl rfl ?_
        conv => whnf
        have hla : lexA s.src = (s.toks ++ [⟨6, s.src.length, []⟩], s.diags) := by unfold lexA; rw [h4, lexGo]
        rw [hla]
        exact ⟨_, _, _, rfl, Weak.tup ⟨Weak.tok _ _, Weak.refl _, trivial⟩, rfl⟩
      | succ n ih =>
        intro s e h1 h2 h3 h4
        subst h1
        apply hI
        conv => whnf
        rcases Nat.lt_or_ge s.at_ s.src.length with hlt | hge
        · rw [lt_true hlt]
          conv => whnf
          refine (next_specP F s h2 hlt).to (fun x hx => by cases hx) low_unit [] (List.append_nil _).symm ?_
          have hat : s.src[s.at_]? = some s.src[s.at_] := List.getElem?_eq_getElem hlt
          have h5 := lexStep_adv hat
          obtain ⟨h6, h7, _⟩ := lexStep_small s.src s.at_ s.src[s.at_]
          rw [lexGo, hat] at h4
          have hok : (stepS s s.src[s.at_]).ok := ⟨h2.src, h5.2, by have := h2.toks; simp only [stepS, List.length_append]; omega, by have := h2.diags; simp only [stepS, List.length_append]; omega⟩
          have hI' := fun e => ih (stepS s s.src[s.at_]) e rfl hok (by show s.src.length - (lexStep s.src s.at_ s.src[s.at_]).1 ≤ n; omega) h4
          generalize stepS s s.src[s.at_] = s2 at hI' ⊢
          conv => whnf
          rw [List.append_nil]
          exact inv_of [(0, .str s.src), (4, .ptr 2 0)] ⟨rfl, rfl, trivial⟩ (hI' _)
        · rw [lt_false hge]
          conv => whnf
          refine app_tok h2 ⟨6, s.src.length, []⟩ rfl rfl ?_
          conv => whnf
          have hla : lexA s.src = (s.toks ++ [⟨6, s.src.length, []⟩], s.diags) := by unfold lexA; rw [h4, lexGo, List.getElem?_eq_none hge]
          rw [hla]
          exact ⟨_, _, _, rfl, Weak.tup ⟨Weak.tok _ _, Weak.refl _, trivial⟩, rfl⟩
    exact inv_of [(0, .str src), (4, .ptr 2 0)] ⟨rfl, rfl, trivial⟩ (key src.length ⟨src, 0, [], []⟩ _ rfl ⟨hs, Nat.zero_le _, Nat.zero_le _, Nat.zero_le _⟩ (Nat.sub_le _ _) rfl)
  · match i, hp, hq with
    | 0, hp, hq => simp at hp hq; subst hp hq; cases o <;> trivial
    | 1, hp, hq => simp at hp hq; subst hp hq; exact WeakO.refl _
    | n + 2, hp, hq => simp at hp

end Go.Ag
/- Package parse: just, Type. -/
set_option linter.unusedVariables false
namespace Go.Ag
open Go

variable {T : Tab} {L : Lnk}

theorem CallR.atL {f : Nat} {args : List AVal} {H0 H1 : Heap} {r0 : ARet} (h : CallR L f args H0 r0 H1) (hlen : H1.length = H0.length) {H : Heap} (is : List Nat) (hp : Part H is H0) :
    ACalls L f (args.map (ren (nameOf is H.length))) H fun r H' => r = renR (nameOf is H.length) r0 ∧ H' = putL H is (H1.map (renO (nameOf is H.length))) := by
  have hf := ACalls.frameL h is hp (.inr fun r H' hq => by rw [hq.2, hlen]; exact Nat.le_refl _)
  refine hf.mono fun r H' ⟨r1, H1', ⟨e1, e2⟩, _, e3, e4⟩ => ?_
  subst e1 e2
  have hl : is.length = H1'.length := hp.2.1.trans hlen.symm
  refine ⟨e3, ?_⟩
  rw [e4, hl, List.take_of_length_le (Nat.le_refl _), List.drop_of_length_le (Nat.le_refl _), List.map_nil, List.append_nil]

theorem ren_lowz {ρ : Nat → Nat} {x : AVal} (h : Low 0 x) : ren ρ x = x := ren_low (n := 0) (fun i hi => by omega) h
theorem renL_low0 {ρ : Nat → Nat} {xs : List AVal} (h : ∀ x ∈ xs, Low 0 x) : renL ρ xs = xs := by
  rw [renL_map]
  exact (List.map_congr_left (g := id) fun x hx => ren_lowz (h x hx)).trans (List.map_id xs)
theorem renO_low0 {ρ : Nat → Nat} {o : AObj} (h : LowO 0 o) : renO ρ o = o := renO_low (n := 0) (fun i hi => by omega) h
theorem renT_dtok (ρ : Nat → Nat) (n i : Nat) : renT ρ (dtok n i) = dtok n (ρ i) := by cases n <;> rfl
theorem renO_dobj (ρ : Nat → Nat) (n t : Nat) : renO ρ (dobj n t) = dobj n t := by cases n <;> rfl
theorem toks_low0 (l : List TokA) : ∀ x ∈ l.map TokA.av, Low 0 x := fun x hx => by
  obtain ⟨t, _, rfl⟩ := List.mem_map.1 hx
  exact low_tok 0 t
theorem diags_low0 (l : List DiagA) : ∀ x ∈ l.map DiagA.av, Low 0 x := fun x hx => by
  obtain ⟨t, _, rfl⟩ := List.mem_map.1 hx
  exact low_diag 0 t

def pobjAt (d : Nat) (s : RS) : AObj := .cells [.lst (s.toks.map TokA.av) .none, .int .i64 s.i, .lst (s.diags.map DiagA.av) (dtok s.diags.length d)] 280
theorem renO_pobj (ρ : Nat → Nat) (s : RS) : renO ρ (pobj s) = pobjAt (ρ 0) s := by
  unfold pobj pobjAt
  simp only [renO, renL, ren, renT_dtok, renL_low0 (toks_low0 _), renL_low0 (diags_low0 _)]
  rfl

theorem Lex_at (F : LexFns T) (src : Bytes) (hs : src.length ≤ 2 ^ 31) {H : Heap} {i j : Nat} (hi : H[i]? = some .dead) (hj : H[j]? = some .dead) (hij : i ≠ j) :
    ACalls T.L 215 [.str src] H fun r H' => r = .ret (.tup [.lst ((lexA src).1.map TokA.av) .none, .lst ((lexA src).2.map DiagA.av) (dtok (lexA src).2.length j)]) ∧ H' = (H.set i .gone).set j (dobj (lexA src).2.length 333) := by
  have hp : Part H [i, j] [.dead, .dead] := by
    refine ⟨by simp [hij], rfl, fun k q o hk ho => ?_⟩
    match k, hk, ho with
    | 0, hk, ho => simp at hk ho; subst hk ho; exact hi
    | 1, hk, ho => simp at hk ho; subst hk ho; exact hj
    | k + 2, hk, ho => simp at hk
  have h0 : CallR T.L 215 [.str src] [.dead, .dead] (.ret _) _ := Lex_spec F src hs
  have h := CallR.atL h0 rfl [i, j] hp
  refine h.mono fun r H' ⟨e1, e2⟩ => ⟨?_, ?_⟩
  · rw [e1]
    simp only [renR, ren, renL, renT_dtok, renL_low0 (toks_low0 _), renL_low0 (diags_low0 _)]
    rfl
  · rw [e2]
    simp only [List.map_cons, List.map_nil, renO_dobj, putL]
    rfl

theorem PC.at2 {f : Nat} {args : List AVal} {s s' : RS} {y : AVal} (h : PC L f args s y s') (hargs : ∀ x ∈ args, Low 0 x) (hy : Low 0 y) {H : Heap} {d p : Nat} (hd : H[d]? = some (dobj s.diags.length 333)) (hp : H[p]? = some (pobjAt d s)) (hdp : d ≠ p) :
    ACalls L f (.ptr p 0 :: args) H fun r H' => r = outP s'.bad y ∧ H' = (H.set d (dobj s'.diags.length 333)).set p (pobjAt d s') := by
  have hpt : Part H [d, p] (pheap s) := by
    refine ⟨by simp [hdp], rfl, fun k q o hk ho => ?_⟩
    match k, hk, ho with
    | 0, hk, ho => simp [pheap] at hk ho; subst hk ho; rw [renO_dobj]; exact hd
    | 1, hk, ho => simp [pheap] at hk ho; subst hk ho; rw [renO_pobj]; exact hp
    | k + 2, hk, ho => simp at hk
  have h := CallR.atL h rfl [d, p] hpt
  have ha : (AVal.ptr 1 0 :: args).map (ren (nameOf [d, p] H.length)) = .ptr p 0 :: args := by
    rw [List.map_cons, show args.map (ren (nameOf [d, p] H.length)) = args from by rw [← renL_map]; exact renL_low0 hargs]
    rfl
  rw [ha] at h
  refine h.mono fun r H' ⟨e1, e2⟩ => ⟨?_, ?_⟩
  · rw [e1]
    cases s'.bad
    · exact congrArg ARet.ret (ren_lowz hy)
    · exact congrArg ARet.pan (ren_lowz low_gup)
  · rw [e2]
    simp only [pheap, List.map_cons, List.map_nil, renO_dobj, renO_pobj, putL]
    rfl

theorem do_at {f : Nat} {s s' : RS} {o o' : AObj} (h : CallR L f [.ptr 1 0, .ptr 2 0] (pheap s ++ [o]) (outP s'.bad (.tup [])) (pheap s' ++ [o'])) (ho : LowO 0 o) (ho' : LowO 0 o') {H : Heap} {d p c : Nat}
    (hd : H[d]? = some (dobj s.diags.length 333)) (hp : H[p]? = some (pobjAt d s)) (hc : H[c]? = some o) (hn : [d, p, c].Nodup) :
    ACalls L f [.ptr p 0, .ptr c 0] H fun r H' => r = outP s'.bad (.tup []) ∧ H' = ((H.set d (dobj s'.diags.length 333)).set p (pobjAt d s')).set c o' := by
  have hpt : Part H [d, p, c] (pheap s ++ [o]) := by
    refine ⟨hn, rfl, fun k q x hk hx => ?_⟩
    match k, hk, hx with
    | 0, hk, hx => simp [pheap] at hk hx; subst hk hx; rw [renO_dobj]; exact hd
    | 1, hk, hx => simp [pheap] at hk hx; subst hk hx; rw [renO_pobj]; exact hp
    | 2, hk, hx => simp [pheap] at hk hx; subst hk hx; rw [renO_low0 ho]; exact hc
    | k + 3, hk, hx => simp at hk
  refine (CallR.atL h rfl [d, p, c] hpt).mono fun r H' ⟨e1, e2⟩ => ⟨?_, ?_⟩
  · rw [e1]
    cases s'.bad
    · exact congrArg ARet.ret (ren_lowz low_unit)
    · exact congrArg ARet.pan (ren_lowz low_gup)
  · rw [e2]
    simp only [pheap, List.cons_append, List.nil_append, List.map_cons, List.map_nil, renO_dobj, renO_pobj, renO_low0 ho', putL]
    rfl

structure CaughtLib (L : Lnk) : Prop where
  caught : ∀ (g : Nat) (free : List AVal) (H : Heap) (b : Bool) (Q : Heap → Prop), ACalls L g free H (fun r H' => r = outP b (.tup []) ∧ Q H') → ACalls L 216 [.fn (.func g) [] free] H fun r H' => r = .ret (.bool !b) ∧ Q H'

theorem ACalls.toR {f : Nat} {args : List AVal} {H H1 : Heap} {r0 : ARet} (h : ACalls L f args H fun r H' => r = r0 ∧ H' = H1) {K KP : AVal → Heap → Prop} (hk : contR K KP r0 H1) : ACalls L f args H (contR K KP) :=
  h.mono fun r H' ⟨e1, e2⟩ => by subst e1 e2; exact hk
theorem CaughtLib.to (B : CaughtLib L) {g : Nat} {free : List AVal} {H H1 : Heap} {b : Bool} (h : ACalls L g free H fun r H' => r = outP b (.tup []) ∧ H' = H1) {K KP : AVal → Heap → Prop} (hk : K (.bool !b) H1) : ACalls L 216 [.fn (.func g) [] free] H (contR K KP) :=
  (B.caught g free H b (fun H' => H' = H1) h).to1 hk

structure JustFns (T : Tab) : Prop extends TyFns T where
  lex : LexFns T
  h182 : T.has 182 c_182
  h217 : T.has 217 c_217
  cau : CaughtLib T.L

def justR (s : RS) : Bool := !s.bad && (s.tok.kind == 6 && s.diags.length == 0)

theorem just_spec (F : JustFns T) (src : Bytes) (hs : src.length ≤ 2 ^ 31) (g : Nat) (o o' : AObj) (ho : LowO 0 o) (ho' : LowO 0 o') (s' : RS) (hle : (startR src).le s')
    (hdo : CallR T.L g [.ptr 1 0, .ptr 2 0] (pheap (startR src) ++ [o]) (outP s'.bad (.tup [])) (pheap s' ++ [o'])) :
    CallK T.L 182 [.str src, .fn (.func g) [] [.ptr 0 0]] [o] (.bool (justR s')) [o'] := by
  have hok := (start_ok src (by omega)).1
  have hs' := hok.of hle
  refine CallK.of 2 rfl (.bool _) (LowHs.at ⟨lowO_mono (Nat.zero_le _) ho', trivial⟩) (ACalls.mono (Q := fun r H' => ∃ J, r = .ret (.bool (justR s')) ∧ H' = o' :: J) ?_ fun r H' ⟨J, e1, e2⟩ => ⟨_, [o'], J, e1, Weak.refl _, e2, rfl, fun i x y h1 h2 => by rw [h1] at h2; cases h2; exact WeakO.refl x⟩)
  refine acallsG F.h182 (by simp [c_182]) ?_
  conv => whnf
  refine (Lex_at F.lex src hs (i := 1) (j := 2) rfl rfl (by decide)).to1 ?_
  conv => whnf
  refine F.cau.to (b := s'.bad) (H1 := [o', .gone, dobj s'.diags.length 333, .cells [.fn (.func g) [] [.ptr 0 0]] 227, pobjAt 2 s', .cells [.ptr 4 0] 225]) ?_ ?_
  · refine acallsG F.h217 (by simp [c_217]) ?_
    conv => whnf
    refine (do_at hdo ho ho' (d := 2) (p := 4) (c := 0) rfl rfl rfl (by decide)).toR ?_
    cases s'.bad
    · conv => whnf
      exact ⟨rfl, rfl⟩
    · conv => whnf
      exact ⟨rfl, rfl⟩
  · conv => whnf
    cases hb : s'.bad
    · conv => whnf
      refine ((here_spec F.toParFns s' hs' hb).at2 (fun x hx => by cases hx) (low_tok 0 _) (d := 2) (p := 4) rfl rfl (by decide)).toR ?_
      rw [hb]
      conv => whnf
      cases hk : (s'.tok.kind == 6)
      · conv => whnf
        exact ⟨_, by rw [justR, hb, hk]; rfl, rfl⟩
      · conv => whnf
        have hj : justR s' = (((s'.diags.map DiagA.av).length : Int) == 0) := by
          rw [justR, hb, hk, List.length_map]
          rw [Bool.eq_iff_iff]
          simp
        exact ⟨_, by rw [hj]; rfl, rfl⟩
    · conv => whnf
      exact ⟨_, by rw [justR, hb]; rfl, rfl⟩

end Go.Ag
/- Package parse: Type. -/
set_option linter.unusedVariables false
namespace Go.Ag
open Go

variable {T : Tab} {L : Lnk}

theorem just_at {g : Nat} {src : Bytes} {o o' : AObj} {b : Bool} (h : CallK L 182 [.str src, .fn (.func g) [] [.ptr 0 0]] [o] (.bool b) [o']) (ho : LowO 0 o) (ho' : LowO 0 o') {H : Heap} {c : Nat} (hc : H[c]? = some o) :
    ACalls L 182 [.str src, .fn (.func g) [] [.ptr c 0]] H fun r H' => r = .ret (.bool b) ∧ H' = H.set c o' := by
  have hp : Part H [c] [o] := by
    refine ⟨by simp, rfl, fun k q x hk hx => ?_⟩
    match k, hk, hx with
    | 0, hk, hx => simp at hk hx; subst hk hx; rw [renO_low0 ho]; exact hc
    | k + 1, hk, hx => simp at hk
  have h0 : CallR L 182 [.str src, .fn (.func g) [] [.ptr 0 0]] [o] (.ret (.bool b)) [o'] := h
  refine (CallR.atL h0 rfl [c] hp).mono fun r H' ⟨e1, e2⟩ => ⟨e1, ?_⟩
  rw [e2]
  simp only [List.map_cons, List.map_nil, renO_low0 ho', putL]

structure TypeFns (T : Tab) : Prop extends JustFns T where
  h142 : T.has 142 c_142
  h183 : T.has 183 c_183

def typeFuel (src : Bytes) : Nat := 6 * (startR src).rem + 6
def typeQ (src : Bytes) : TA × RS := typeR (typeFuel src) 1 (startR src)
def typeP (src : Bytes) : TA × Bool := if justR (typeQ src).2 = true then ((typeQ src).1, true) else (zeroT, false)

def tcell : TA → AObj
  | .mk k nm ns l => .cells [.int .i64 k, .str nm, .lst (strA ns) .none, .lst (TA.avs l) .none] 175
theorem low_tcell (t : TA) : LowO 0 (tcell t) := by
  obtain ⟨k, nm, ns, l⟩ := t
  exact lowC ⟨.int _ _, .str _, low_strs' _ _ _ trivial, .lst _ _ trivial (low_tas 0 l), trivial⟩
def zcell : AObj := .cells [.int .i64 0, .str [], .lst [] .nil, .lst [] .nil] 175
theorem low_zcell : LowO 0 zcell := lowC ⟨.int _ _, .str _, .lst _ _ trivial low0, .lst _ _ trivial low0, trivial⟩

theorem type1_spec (F : TypeFns T) (s : RS) (hs : s.ok) (hb : s.bad = false) (n : Nat) (hf : 6 * s.rem + 6 ≤ n) :
    CallR T.L 183 [.ptr 1 0, .ptr 2 0] (pheap s ++ [zcell]) (outP (typeR n 1 s).2.bad (.tup [])) (pheap (typeR n 1 s).2 ++ [if (typeR n 1 s).2.bad then zcell else tcell (typeR n 1 s).1]) := by
  have ht := (pty_all F.toTyFns n).typ 1 s hs hb (by omega) hf
  generalize typeR n 1 s = q at ht ⊢
  obtain ⟨⟨k', nm', ns', l'⟩, s1⟩ := q
  dsimp only at ht ⊢
  refine CallR.of 0 rfl (low_outP low_unit) (LowHs.at ⟨dobj_low _ _ _, lowO_mono (by decide : 2 ≤ 3) (low_pobj s1), by split <;> first | exact lowO_mono (Nat.zero_le _) low_zcell | exact lowO_mono (Nat.zero_le _) (low_tcell _), trivial⟩) (ACalls.mono (Q := fun r H' => WeakR T.L r (outP s1.bad (.tup [])) ∧ ∃ J, H' = pheap s1 ++ (if s1.bad then zcell else tcell (.mk k' nm' ns' l')) :: J) ?_ fun r H' ⟨e1, J, e2⟩ => ⟨_, J, e1, by rw [e2]; exact List.append_cons _ _ _, rfl, fun i x y h1 h2 => by rw [h1] at h2; cases h2; exact WeakO.refl x⟩)
  refine acallsG F.h183 (by simp [c_183]) ?_
  conv => whnf
  refine ht.to (low1 (.int _ _)) (low_ta _ _) _ rfl (fun hb1 => ?_) fun hb1 => ?_
  · conv => whnf
    rw [hb1]
    exact ⟨Weak.refl _, _, rfl⟩
  · conv => whnf
    rw [hb1]
    exact ⟨Weak.refl _, _, rfl⟩

theorem Type_spec (F : TypeFns T) (src : Bytes) (hs : src.length ≤ 2 ^ 31) : Pure T.L 142 [.str src] (.tup [(typeP src).1.av, .bool (typeP src).2]) := by
  have hok := (start_ok src (by omega)).1
  have h1 := type1_spec F (startR src) hok rfl (typeFuel src) (Nat.le_refl _)
  have hle := (le_types (typeFuel src)).1 1 (startR src) hok
  have hj := just_spec F.toJustFns src hs 183 zcell _ low_zcell (by split <;> first | exact low_zcell | exact low_tcell _) _ hle h1
  rw [← typeQ] at hj hle
  have hP := typeP.eq_1 src
  generalize typeQ src = q at hj hle hP
  generalize typeP src = R at hP ⊢
  refine Pure.run (low1 (.str _)) (.tup _ (LowL.at ⟨low_ta _ _, .bool _, trivial⟩)) (acallsG F.h142 (by simp [c_142]) ?_)
  conv => whnf
  refine (just_at hj low_zcell (by split <;> first | exact low_zcell | exact low_tcell _) (c := 1) rfl).to1 ?_
  conv => whnf
  cases hq : justR q.2
  · rw [if_neg (by simp [hq])] at hP
    subst hP
    conv => whnf
    refine ret_weak ?_
    exact Weak.tup ⟨weak_zeroT, Weak.refl _, trivial⟩
  · rw [if_pos hq] at hP
    subst hP
    have hb : q.2.bad = false := by
      unfold justR at hq
      cases h : q.2.bad
      · rfl
      · rw [h] at hq; cases hq
    rw [hb]
    obtain ⟨⟨k, nm, ns, l⟩, s2⟩ := q
    conv => whnf
    refine ret_weak ?_
    exact Weak.tup ⟨Weak.refl _, Weak.refl _, trivial⟩

end Go.Ag
/- Package print: list, round. -/
set_option linter.unusedVariables false
namespace Go.Ag
open Go

variable {T : Tab} {L : Lnk}

def joinB (sep : Bytes) : List Bytes → Bytes
  | [] => []
  | [w] => w
  | w :: r => w ++ sep ++ joinB sep r

structure JoinLib (L : Lnk) : Prop where
  join : ∀ (l : List Bytes) (sep : Bytes), (joinB sep l).length ≤ 2 ^ 46 → l.length ≤ 2 ^ 40 → Pure L 20 [.lst (strA l) .none, .str sep] (.str (joinB sep l))

structure PriFns (T : Tab) : Prop where
  h191 : T.has 191 c_191
  h230 : T.has 230 c_230
  h262 : T.has 262 c_262
  h263 : T.has 263 c_263
  h264 : T.has 264 c_264
  h265 : T.has 265 c_265
  jlib : JoinLib T.L

def parB (s : Bytes) (must : Bool) : Bytes := match must with
  | true => [40] ++ s ++ [41]
  | false => s

theorem round_spec (F : PriFns T) (s : Bytes) (hs : s.length ≤ 2 ^ 50) (b : Bool) : Pure T.L 264 [.str s, .bool b] (.str (parB s b)) := by
  refine Pure.run (LowL.at ⟨.str _, .bool _, trivial⟩) (.str _) (acallsG F.h264 (by simp [c_264]) ?_)
  cases b
  · conv => whnf
    exact ret_weak (Weak.refl _)
  · conv => whnf
    refine step_some (add_str (by simp; omega)) ?_
    conv => whnf
    refine step_some (add_str (by simp; omega)) ?_
    conv => whnf
    exact ret_weak (Weak.refl _)

theorem CallK.to {f : Nat} {args : List AVal} {H0 H1 : Heap} {y : AVal} (h : CallK L f args H0 y H1) (hlen : H1.length = H0.length) (hargs : ∀ x ∈ args, Low H0.length x) (h0 : ∀ o ∈ H0, LowO H0.length o) (hy : Low H0.length y) (h1 : ∀ o ∈ H1, LowO H0.length o)
    {H : Heap} {K KP : AVal → Heap → Prop} (J : Heap) (hH : H = H0 ++ J) (hk : K y (H1 ++ J)) : ACalls L f args H (contR K KP) := by
  subst hH
  exact (CallK.at h hlen hargs h0 hy h1 J).to1 hk

theorem list_spec (F : PriFns T) (o : AObj) (ho : LowO 0 o) (g n : Nat) (sep : Bytes) (f : Nat → Bytes) (hn : n ≤ 2 ^ 40) (hl : (joinB sep ((List.range n).map f)).length ≤ 2 ^ 46) (hf : ∀ i, i < n → CallK T.L g [.int .i64 i, .ptr 0 0] [o] (.str (f i)) [o]) :
    CallK T.L 262 [.int .i64 n, .str sep, .fn (.func g) [] [.ptr 0 0]] [o] (.str (joinB sep ((List.range n).map f))) [o] := by
  have ho1 : ∀ x ∈ [o], LowO 1 x := LowHs.at ⟨lowO_mono (Nat.zero_le _) ho, trivial⟩
  refine CallK.of 1 rfl (.str _) ho1 (ACalls.mono (Q := fun r H' => ∃ J, r = .ret (.str (joinB sep ((List.range n).map f))) ∧ H' = o :: J) ?_ fun r H' ⟨J, e1, e2⟩ => ⟨_, [o], J, e1, Weak.refl _, e2, rfl, fun i x y h1 h2 => by rw [h1] at h2; cases h2; exact WeakO.refl x⟩)
  refine acallsG F.h262 (by simp [c_262]) ?_
  conv => whnf
  intro I hI hG
  have key : ∀ (d k : Nat) (e : Env), n - k = d → k ≤ n → I (setL e [(1, .str sep), (2, .fn (.func g) [] [.ptr 0 0]), (7, .lst (strA ((List.range k).map f)) (dtok (strA ((List.range k).map f)).length 1)), (9, .int .i64 n), (10, .int .i64 k)]) [o, dobj (strA ((List.range k).map f)).length 10] := by
    intro d
    induction d with
    | zero =>
      intro k e hd hk
      have hkn : k = n := by omega
      apply hI
      conv => whnf
      rw [lt_false (by omega)]
      conv => whnf
      rw [hkn]
      refine ((F.jlib.join ((List.range n).map f) sep hl (by simp; omega)).weak (args := [.lst (strA ((List.range n).map f)) (dtok (strA ((List.range n).map f)).length 1), .str sep]) ⟨Weak.tok _ _, Weak.refl _, trivial⟩).to ?_
      conv => whnf
      exact ⟨_, rfl, rfl⟩
    | succ d ih =>
      intro k e hd hk
      have hlt : k < n := by omega
      have hnext := fun e => ih (k + 1) e (by omega) hlt
      have e1 : strA ((List.range (k + 1)).map f) = strA ((List.range k).map f) ++ [.str (f k)] := by simp [List.range_succ, strA]
      have hsl : (strA ((List.range k).map f)).length = k := by simp [strA]
      rw [e1] at hnext
      have hsz := sized_strA ((List.range k).map f)
      generalize strA ((List.range k).map f) = XS at hnext hsl hsz ⊢
      apply hI
      conv => whnf
      rw [lt_true hlt]
      conv => whnf
      refine (hf k hlt).to rfl (LowL.at ⟨.int _ _, .ptr _ _ (by decide : 0 < 1), trivial⟩) ho1 (.str _) ho1 [dobj XS.length 10] rfl ?_
      conv => whnf
      refine app_slot (id := 1) hsz (sized_one rfl) (by simp [hsl]; omega) (by simp [hsl]; omega) (by simp) rfl ?_
      conv => whnf
      exact inv_of [(1, .str sep), (2, .fn (.func g) [] [.ptr 0 0]), (7, _), (9, .int .i64 n), (10, .int .i64 (k + 1 : Nat))] ⟨rfl, rfl, rfl, rfl, add1 (by omega), trivial⟩ (hnext _)
  exact inv_of [(1, .str sep), (2, .fn (.func g) [] [.ptr 0 0]), (7, .lst [] .nil), (9, .int .i64 n), (10, .int .i64 0)] ⟨rfl, rfl, rfl, rfl, rfl, trivial⟩ (key n 0 _ rfl (Nat.zero_le _))

end Go.Ag
/- Package print: typ. -/
set_option linter.unusedVariables false
namespace Go.Ag
open Go

variable {T : Tab} {L : Lnk}

def fldB (ns ss : List Bytes) : List Bytes := List.zipWith (fun n s => n ++ [58, 32] ++ s) ns ss

mutual
def prT : TA → Nat → Bytes
  | .mk k nm ns l, lv =>
    if k = 1 then [105, 110, 116]
    else if k = 2 then [98, 111, 111, 108]
    else if k = 3 then [116, 101, 120, 116]
    else if k = 4 then [63]
    else if k = 5 then [123] ++ joinB [44, 32] (fldB ns (prL l 0)) ++ [125]
    else if k = 6 then parB ((prL l 2).getD 0 [] ++ [32, 45, 62, 32] ++ (prL l 1).getD 1 []) (decide (2 ≤ lv))
    else if k = 7 then (if l.length = 0 then [110, 101, 118, 101, 114] else parB (joinB [32, 124, 32] (prL l 1)) (decide (1 ≤ lv)))
    else nm
def prL : List TA → Nat → List Bytes
  | [], _ => []
  | t :: l, lv => prT t lv :: prL l lv
end

theorem prL_map (l : List TA) (lv : Nat) : prL l lv = l.map (prT · lv) := by
  induction l with
  | nil => rw [prL]; rfl
  | cons t l ih => rw [prL, ih]; rfl

mutual
def wtT : TA → Nat
  | .mk k nm ns l => 16 + nm.length + (ns.map fun n => n.length + 4).sum + wtL l
def wtL : List TA → Nat
  | [] => 0
  | t :: l => wtT t + 8 + wtL l
end

mutual
def wfT : TA → Prop
  | .mk k nm ns l => (k = 5 → ns.length ≤ l.length) ∧ (k = 6 → 2 ≤ l.length) ∧ wfL l
def wfL : List TA → Prop
  | [] => True
  | t :: l => wfT t ∧ wfL l
end

theorem wfL_mem : ∀ {l : List TA} {t : TA}, wfL l → t ∈ l → wfT t
  | [], t, _, h => by cases h
  | u :: l, t, h, hm => by
    rw [wfL] at h
    rcases List.mem_cons.1 hm with rfl | hm
    · exact h.1
    · exact wfL_mem h.2 hm
theorem wtL_mem : ∀ {l : List TA} {t : TA}, t ∈ l → wtT t + 8 ≤ wtL l
  | [], t, h => by cases h
  | u :: l, t, hm => by
    rw [wtL]
    rcases List.mem_cons.1 hm with rfl | hm
    · omega
    · have := wtL_mem hm; omega

theorem joinB_len (sep : Bytes) : ∀ l : List Bytes, (joinB sep l).length ≤ (l.map fun s => s.length + sep.length).sum
  | [] => by simp [joinB]
  | [w] => by simp [joinB]
  | w :: v :: r => by
    have := joinB_len sep (v :: r)
    show (w ++ sep ++ joinB sep (v :: r)).length ≤ _
    simp only [List.length_append, List.map_cons, List.sum_cons] at this ⊢
    omega
theorem parB_len (s : Bytes) (b : Bool) : (parB s b).length ≤ s.length + 2 := by cases b <;> simp [parB]
theorem fldB_len : ∀ (ns ss : List Bytes), ((fldB ns ss).map fun s => s.length + 2).sum ≤ (ns.map fun n => n.length + 4).sum + (ss.map fun s => s.length).sum
  | [], ss => by simp [fldB]
  | n :: ns, [] => by simp [fldB]
  | n :: ns, s :: ss => by
    have := fldB_len ns ss
    simp only [fldB, List.zipWith_cons_cons, List.map_cons, List.sum_cons, List.length_append, List.length_cons, List.length_nil] at this ⊢
    omega
theorem sum_mono {α : Type} {f g : α → Nat} (h : ∀ x, f x ≤ g x) : ∀ l : List α, (l.map f).sum ≤ (l.map g).sum
  | [] => by simp
  | x :: l => by
    have := sum_mono h l
    have := h x
    simp only [List.map_cons, List.sum_cons]
    omega
theorem getD_len : ∀ (l : List Bytes) (i : Nat), (l.getD i []).length ≤ (l.map fun s => s.length).sum
  | [], i => by simp
  | s :: l, 0 => by simp
  | s :: l, i + 1 => by
    have := getD_len l i
    simp only [List.getD_cons_succ, List.map_cons, List.sum_cons]
    omega
theorem two_len : ∀ (l : List Bytes) (m : List Bytes), (l.getD 0 []).length + (m.getD 1 []).length ≤ ((l.take 1).map fun s => s.length).sum + ((m.drop 1).map fun s => s.length).sum
  | l, m => by
    have h1 := getD_len (l.take 1) 0
    have h2 := getD_len (m.drop 1) 0
    have e1 : (l.take 1).getD 0 [] = l.getD 0 [] := by cases l <;> simp
    have e2 : (m.drop 1).getD 0 [] = m.getD 1 [] := by cases m <;> simp
    rw [e1] at h1; rw [e2] at h2
    omega

mutual
theorem prT_len : ∀ (t : TA) (lv : Nat), (prT t lv).length ≤ wtT t
  | .mk k nm ns l, lv => by
    have h0 := prL_len l 0
    have h1 := prL_len l 1
    have h2 := prL_len l 2
    rw [prT, wtT]
    split
    · simp; omega
    split
    · simp; omega
    split
    · simp; omega
    split
    · simp; omega
    split
    · have a1 : (joinB [44, 32] (fldB ns (prL l 0))).length ≤ ((fldB ns (prL l 0)).map fun s => s.length + 2).sum := joinB_len _ _
      have := fldB_len ns (prL l 0)
      have := sum_mono (f := fun s : Bytes => s.length) (g := fun s => s.length + 8) (fun s => by omega) (prL l 0)
      simp only [List.length_append, List.length_cons, List.length_nil]
      omega
    split
    · have a1 := parB_len ((prL l 2).getD 0 [] ++ [32, 45, 62, 32] ++ (prL l 1).getD 1 []) (decide (2 ≤ lv))
      have a2 := two_len (prL l 2) (prL l 1)
      have a3 : ((prL l 2).take 1).map (fun s => s.length) = (l.take 1).map fun t => (prT t 2).length := by rw [prL_map, ← List.map_take, List.map_map]; rfl
      have a4 : ((prL l 1).drop 1).map (fun s => s.length) = (l.drop 1).map fun t => (prT t 1).length := by rw [prL_map, ← List.map_drop, List.map_map]; rfl
      rw [a3, a4] at a2
      have a5 : ((l.take 1).map fun t => (prT t 2).length).sum + ((l.drop 1).map fun t => (prT t 1).length).sum ≤ wtL l := by
        cases l with
        | nil => simp
        | cons t l =>
          rw [prL, List.map_cons, List.sum_cons] at h1 h2
          rw [wtL] at *
          have b1 := prT_len t 2
          have b2 := prL_len l 1
          have b3 := sum_mono (f := fun s : Bytes => s.length) (g := fun s => s.length + 8) (fun s => by omega) (prL l 1)
          rw [prL_map l 1, List.map_map] at b3
          rw [prL_map l 1] at b2
          simp only [List.take_succ_cons, List.take_zero, List.drop_succ_cons, List.drop_zero, List.map_cons, List.map_nil, List.sum_cons, List.sum_nil]
          have b4 : (l.map fun t => (prT t 1).length).sum = (l.map ((fun s : Bytes => s.length) ∘ (prT · 1))).sum := rfl
          rw [b4]
          omega
      simp only [List.length_append, List.length_cons, List.length_nil] at a1
      omega
    split
    · split
      · simp; omega
      · have a1 := parB_len (joinB [32, 124, 32] (prL l 1)) (decide (1 ≤ lv))
        have a2 := joinB_len [32, 124, 32] (prL l 1)
        have a3 := sum_mono (f := fun s : Bytes => s.length + ([32, 124, 32] : Bytes).length) (g := fun s => s.length + 8) (fun s => by simp) (prL l 1)
        omega
    · omega
theorem prL_len : ∀ (l : List TA) (lv : Nat), ((prL l lv).map fun s => s.length + 8).sum ≤ wtL l
  | [], lv => by simp [prL]
  | t :: l, lv => by
    have := prT_len t lv
    have := prL_len l lv
    rw [prL, wtL, List.map_cons, List.sum_cons]
    omega
end

end Go.Ag
/- Package print: typ, walked. -/
set_option linter.unusedVariables false
namespace Go.Ag
open Go

variable {T : Tab} {L : Lnk}

theorem map_range_getD {α : Type} (l : List α) (d : α) : (List.range l.length).map (fun i => l.getD i d) = l := by
  apply List.ext_getElem
  · simp
  · intro i h1 h2; simp [h2]

theorem fldB_length {ns ss : List Bytes} (h : ns.length ≤ ss.length) : (fldB ns ss).length = ns.length := by simp [fldB]; omega
theorem fldB_at {ns ss : List Bytes} {i : Nat} (h1 : i < ns.length) (h2 : i < ss.length) : (fldB ns ss).getD i [] = ns[i] ++ [58, 32] ++ ss[i] := by
  rw [List.getD_eq_getElem?_getD, fldB, List.getElem?_zipWith, List.getElem?_eq_getElem h1, List.getElem?_eq_getElem h2]
  rfl

theorem tas_at {l : List TA} {i : Nat} (h : i < l.length) : (TA.avs l)[i]? = some l[i].av := by
  induction l generalizing i with
  | nil => simp at h
  | cons t l ih =>
    cases i with
    | zero => rw [TA.avs]; rfl
    | succ i => rw [TA.avs, List.getElem?_cons_succ, ih (by simpa using h)]; rfl

def typIH (T : Tab) (n : Nat) : Prop := ∀ (t : TA) (lv : Nat), wtT t < n → wtT t ≤ 2 ^ 40 → wfT t → Pure T.L 230 [t.av, .int .i64 lv] (.str (prT t lv))

theorem typ1_spec (F : PriFns T) (k : Int) (nm : Bytes) (ns : List Bytes) (l : List TA) (ih : typIH T (wtT (.mk k nm ns l))) (hw : wtT (.mk k nm ns l) ≤ 2 ^ 40) (hf : wfT (.mk k nm ns l)) (i : Nat) (h1 : i < ns.length) (h2 : i < l.length) :
    CallK T.L 263 [.int .i64 i, .ptr 0 0] [tcell (.mk k nm ns l)] (.str (ns[i] ++ [58, 32] ++ prT l[i] 0)) [tcell (.mk k nm ns l)] := by
  have hmem : l[i] ∈ l := List.getElem_mem h2
  have hwt := wtL_mem hmem
  rw [wtT] at hw
  rw [wfT] at hf
  have hne := wfL_mem hf.2.2 hmem
  have hc := ih l[i] 0 (by rw [wtT]; omega) (by omega) hne
  have hpl := prT_len l[i] 0
  have hat := tas_at h2
  generalize l[i] = u at hc hpl hwt hat
  obtain ⟨uk, un, us, ul⟩ := u
  have hnl : ns[i].length ≤ 2 ^ 41 := by
    have : ∀ (m : List Bytes) (x : Bytes), x ∈ m → x.length ≤ (m.map fun n => n.length + 4).sum := fun m => by
      induction m with
      | nil => intro x hx; cases hx
      | cons y m ihm =>
        intro x hx
        rw [List.map_cons, List.sum_cons]
        rcases List.mem_cons.1 hx with rfl | hx
        · omega
        · have := ihm x hx; omega
    have := this ns ns[i] (List.getElem_mem h1)
    omega
  refine CallK.of 0 rfl (.str _) (LowHs.at ⟨lowO_mono (Nat.zero_le _) (low_tcell _), trivial⟩) (ACalls.mono (Q := fun r H' => ∃ J, r = .ret (.str (ns[i] ++ [58, 32] ++ prT (.mk uk un us ul) 0)) ∧ H' = tcell (.mk k nm ns l) :: J) ?_ fun r H' ⟨J, e1, e2⟩ => ⟨_, [tcell (.mk k nm ns l)], J, e1, Weak.refl _, e2, rfl, fun i x y h1 h2 => by rw [h1] at h2; cases h2; exact WeakO.refl x⟩)
  refine acallsG F.h263 (by simp [c_263]) ?_
  conv => whnf
  refine step_strA h1 ?_
  conv => whnf
  refine step_some (add_str (by simp; omega)) ?_
  conv => whnf
  refine step_elem (Int.natCast_nonneg _) hat rfl ?_
  conv => whnf
  refine hc.to ?_
  conv => whnf
  refine ⟨⟨rfl, rfl, trivial⟩, ?_⟩
  conv => whnf
  refine step_some (add_str (by simp; omega)) ?_
  conv => whnf
  exact ⟨_, rfl, rfl⟩

theorem typ2_spec (F : PriFns T) (k : Int) (nm : Bytes) (ns : List Bytes) (l : List TA) (ih : typIH T (wtT (.mk k nm ns l))) (hw : wtT (.mk k nm ns l) ≤ 2 ^ 40) (hf : wfT (.mk k nm ns l)) (i : Nat) (h2 : i < l.length) :
    CallK T.L 265 [.int .i64 i, .ptr 0 0] [tcell (.mk k nm ns l)] (.str (prT l[i] 1)) [tcell (.mk k nm ns l)] := by
  have hmem : l[i] ∈ l := List.getElem_mem h2
  have hwt := wtL_mem hmem
  rw [wtT] at hw
  rw [wfT] at hf
  have hne := wfL_mem hf.2.2 hmem
  have hc := ih l[i] 1 (by rw [wtT]; omega) (by omega) hne
  have hat := tas_at h2
  generalize l[i] = u at hc hwt hat
  obtain ⟨uk, un, us, ul⟩ := u
  refine CallK.of 0 rfl (.str _) (LowHs.at ⟨lowO_mono (Nat.zero_le _) (low_tcell _), trivial⟩) (ACalls.mono (Q := fun r H' => ∃ J, r = .ret (.str (prT (.mk uk un us ul) 1)) ∧ H' = tcell (.mk k nm ns l) :: J) ?_ fun r H' ⟨J, e1, e2⟩ => ⟨_, [tcell (.mk k nm ns l)], J, e1, Weak.refl _, e2, rfl, fun i x y h1 h2 => by rw [h1] at h2; cases h2; exact WeakO.refl x⟩)
  refine acallsG F.h265 (by simp [c_265]) ?_
  conv => whnf
  refine step_elem (Int.natCast_nonneg _) hat rfl ?_
  conv => whnf
  refine hc.to ?_
  conv => whnf
  exact ⟨_, rfl, rfl⟩

theorem typ_spec (F : PriFns T) : ∀ n : Nat, typIH T n
  | 0 => fun t lv h => by omega
  | n + 1 => fun t lv hlt hw hf => by
    have ih := typ_spec F n
    obtain ⟨k, nm, ns, l⟩ := t
    have ih' : typIH T (wtT (.mk k nm ns l)) := fun u lv hu h1 h2 => ih u lv (by omega) h1 h2
    clear ih
    have hpl := prT_len (.mk k nm ns l) lv
    refine Pure.run (LowL.at ⟨low_ta _ _, .int _ _, trivial⟩) (.str _) (acallsG F.h230 (by simp [c_230]) ?_)
    have low1c : ∀ x ∈ [tcell (.mk k nm ns l)], LowO 1 x := LowHs.at ⟨lowO_mono (Nat.zero_le _) (low_tcell _), trivial⟩
    have hwf := hf
    rw [wfT] at hwf
    have hwt := hw
    rw [wtT] at hwt
    obtain ⟨R, hR⟩ : ∃ R, prT (.mk k nm ns l) lv = R := ⟨_, rfl⟩
    rw [hR] at hpl ⊢
    rw [prT] at hR
    conv => whnf
    cases h1 : (k == 1)
    · rw [if_neg (by simpa using h1)] at hR
      conv => whnf
      cases h2 : (k == 2)
      · rw [if_neg (by simpa using h2)] at hR
        conv => whnf
        cases h3 : (k == 3)
        · rw [if_neg (by simpa using h3)] at hR
          conv => whnf
          cases h4 : (k == 4)
          · rw [if_neg (by simpa using h4)] at hR
            conv => whnf
            cases h5 : (k == 5)
            · rw [if_neg (by simpa using h5)] at hR
              conv => whnf
              cases h6 : (k == 6)
              · rw [if_neg (by simpa using h6)] at hR
                conv => whnf
                cases h7 : (k == 7)
                · rw [if_neg (by simpa using h7)] at hR
                  subst hR
                  conv => whnf
                  exact ret_weak (Weak.refl _)
                · rw [if_pos (by simpa using h7)] at hR
                  conv => whnf
                  rw [tas_len]
                  cases h8 : ((l.length : Int) == 0)
                  · rw [if_neg (by simpa using h8)] at hR
                    conv => whnf
                    rw [tas_len]
                    have hjl := joinB_len [32, 124, 32] (prL l 1)
                    have hsum := sum_mono (f := fun s : Bytes => s.length + ([32, 124, 32] : Bytes).length) (g := fun s => s.length + 8) (fun s => by simp) (prL l 1)
                    have hpll := prL_len l 1
                    have hmap : (List.range l.length).map (fun i => (prL l 1).getD i []) = prL l 1 := by
                      have := map_range_getD (prL l 1) []
                      rwa [show (prL l 1).length = l.length from by rw [prL_map]; simp] at this
                    have hlen : l.length ≤ wtL l := by
                      have : ∀ m : List TA, m.length ≤ wtL m := fun m => by
                        induction m with
                        | nil => simp
                        | cons t m ihm => rw [wtL, List.length_cons]; omega
                      exact this l
                    have hls := list_spec F (tcell (.mk k nm ns l)) (low_tcell _) 265 l.length [32, 124, 32] (fun i => (prL l 1).getD i []) (by omega) (by rw [hmap]; omega) fun i hi => by
                      have := typ2_spec F k nm ns l ih' hw hf i hi
                      rwa [show (prL l 1).getD i [] = prT l[i] 1 from by rw [prL_map]; simp [hi]]
                    rw [hmap] at hls
                    refine hls.to rfl (LowL.at ⟨.int _ _, .str _, .fn _ _ _ low0 (LowL.at ⟨.ptr _ _ (by decide : 0 < 1), trivial⟩), trivial⟩) low1c (.str _) low1c [] rfl ?_
                    conv => whnf
                    refine (round_spec F _ (by omega) _).to ?_
                    conv => whnf
                    have hge : decide (((lv : Nat) : Int) ≥ 1) = decide (1 ≤ lv) := by
                      by_cases h : 1 ≤ lv <;> simp [h] <;> omega
                    rw [hge]
                    subst hR
                    exact ret_weak (Weak.refl _)
                  · rw [if_pos (by simpa using h8)] at hR
                    subst hR
                    conv => whnf
                    exact ret_weak (Weak.refl _)
              · rw [if_pos (by simpa using h6)] at hR
                obtain ⟨t0, t1, l', rfl⟩ : ∃ t0 t1 l', l = t0 :: t1 :: l' := by
                  have := hwf.2.1 (by simpa using h6)
                  match l, this with
                  | t0 :: t1 :: l', _ => exact ⟨t0, t1, l', rfl⟩
                rw [wtL, wtL] at hwt
                have hw0 : wtT t0 < wtT (.mk k nm ns (t0 :: t1 :: l')) := by rw [wtT, wtL]; omega
                have hw1 : wtT t1 < wtT (.mk k nm ns (t0 :: t1 :: l')) := by rw [wtT, wtL, wtL]; omega
                have hwfl := hwf.2.2
                rw [wfL, wfL] at hwfl
                have c0 := ih' t0 2 hw0 (by omega) hwfl.1
                have c1 := ih' t1 1 hw1 (by omega) hwfl.2.1
                have n0 := prT_len t0 2
                have n1 := prT_len t1 1
                rw [show (prL (t0 :: t1 :: l') 2).getD 0 [] = prT t0 2 from by rw [prL]; rfl, show (prL (t0 :: t1 :: l') 1).getD 1 [] = prT t1 1 from by rw [prL, prL]; rfl] at hR
                generalize prT t0 2 = s0 at c0 n0 hR
                generalize prT t1 1 = s1 at c1 n1 hR
                obtain ⟨k0, nm0, ns0, l0⟩ := t0
                obtain ⟨k1, nm1, ns1, l1⟩ := t1
                conv => whnf
                refine ⟨Int.le_refl _, rfl, ?_⟩
                conv => whnf
                refine c0.soft ?_
                conv => whnf
                refine step_some (add_str (by simp; omega)) ?_
                conv => whnf
                refine ⟨by decide, rfl, ?_⟩
                conv => whnf
                refine c1.soft ?_
                conv => whnf
                refine step_some (add_str (by simp; omega)) ?_
                conv => whnf
                refine (round_spec F _ (by simp; omega) _).soft ?_
                conv => whnf
                have hge : decide (((lv : Nat) : Int) ≥ 2) = decide (2 ≤ lv) := by
                  by_cases h : 2 ≤ lv <;> simp [h] <;> omega
                rw [hge]
                subst hR
                exact ret_weak (Weak.refl _)
            · rw [if_pos (by simpa using h5)] at hR
              have hk5 : k = 5 := by simpa using h5
              have hnl := hwf.1 hk5
              conv => whnf
              rw [strA_len]
              have hpl0 : (prL l 0).length = l.length := by rw [prL_map]; simp
              have hfl : (fldB ns (prL l 0)).length = ns.length := fldB_length (by omega)
              have hjl : (joinB [44, 32] (fldB ns (prL l 0))).length ≤ ((fldB ns (prL l 0)).map fun s => s.length + 2).sum := joinB_len _ _
              have hfs := fldB_len ns (prL l 0)
              have hsum := sum_mono (f := fun s : Bytes => s.length) (g := fun s => s.length + 8) (fun s => by omega) (prL l 0)
              have hpll := prL_len l 0
              have hmap : (List.range ns.length).map (fun i => (fldB ns (prL l 0)).getD i []) = fldB ns (prL l 0) := by
                have := map_range_getD (fldB ns (prL l 0)) []
                rwa [hfl] at this
              have hlen : ns.length ≤ (ns.map fun n => n.length + 4).sum := by
                have : ∀ m : List Bytes, m.length ≤ (m.map fun n => n.length + 4).sum := fun m => by
                  induction m with
                  | nil => simp
                  | cons t m ihm => rw [List.map_cons, List.sum_cons, List.length_cons]; omega
                exact this ns
              have hls := list_spec F (tcell (.mk k nm ns l)) (low_tcell _) 263 ns.length [44, 32] (fun i => (fldB ns (prL l 0)).getD i []) (by omega) (by rw [hmap]; omega) fun i hi => by
                have hi2 : i < l.length := by omega
                have := typ1_spec F k nm ns l ih' hw hf i hi hi2
                rwa [show (fldB ns (prL l 0)).getD i [] = ns[i] ++ [58, 32] ++ prT l[i] 0 from by rw [fldB_at hi (by omega)]; simp [prL_map]]
              rw [hmap] at hls
              refine hls.to rfl (LowL.at ⟨.int _ _, .str _, .fn _ _ _ low0 (LowL.at ⟨.ptr _ _ (by decide : 0 < 1), trivial⟩), trivial⟩) low1c (.str _) low1c [] rfl ?_
              conv => whnf
              refine step_some (add_str (by simp; omega)) ?_
              conv => whnf
              refine step_some (add_str (by simp; omega)) ?_
              subst hR
              conv => whnf
              exact ret_weak (Weak.refl _)
          · rw [if_pos (by simpa using h4)] at hR
            subst hR
            conv => whnf
            exact ret_weak (Weak.refl _)
        · rw [if_pos (by simpa using h3)] at hR
          subst hR
          conv => whnf
          exact ret_weak (Weak.refl _)
      · rw [if_pos (by simpa using h2)] at hR
        subst hR
        conv => whnf
        exact ret_weak (Weak.refl _)
    · rw [if_pos (by simpa using h1)] at hR
      subst hR
      conv => whnf
      exact ret_weak (Weak.refl _)

theorem Type_prT (F : PriFns T) (t : TA) (hw : wtT t ≤ 2 ^ 40) (hf : wfT t) : Pure T.L 191 [t.av] (.str (prT t 0)) := by
  have h := typ_spec F (wtT t + 1) t 0 (Nat.lt_succ_self _) hw hf
  obtain ⟨k, nm, ns, l⟩ := t
  refine Pure.run (low1 (low_ta _ _)) (.str _) (acallsG F.h191 (by simp [c_191]) ?_)
  conv => whnf
  refine h.to ?_
  conv => whnf
  exact ret_weak (Weak.refl _)

end Go.Ag
/- Package types: flat, walked by whoever takes its parts. -/
set_option linter.unusedVariables false
namespace Go.Ag
open Go

variable {T : Tab} {L : Lnk}

def TA.kind : TA → Int | .mk k _ _ _ => k
def partsT (t : TA) : List TA := if t.kind = 7 then t.l else [t]
def flatT (l : List TA) : List TA := l.flatMap partsT

theorem flat_spec (h251 : T.has 251 c_251) (xs : List AVal) (tk : Tok) (H : Heap) :
    ACalls T.L 251 [.lst xs tk] H fun r H' => r = .ret (.fn (.func 294) [] [.ptr H.length 0]) ∧ H' = H ++ [.cells [.lst xs tk] 173] := by
  refine acallsG h251 (by simp [c_251]) ?_
  conv => whnf
  exact ⟨rfl, rfl⟩

theorem tas_at' {l : List TA} {i : Nat} (h : i < l.length) : (TA.avs l)[((i : Nat) : Int).toNat]? = some l[i].av := tas_at h

theorem flatT_snoc (l : List TA) (j : Nat) (h : j < l.length) : flatT (l.take (j + 1)) = flatT (l.take j) ++ partsT l[j] := by
  rw [List.take_succ_eq_append_getElem h]
  simp only [flatT, List.flatMap_append, List.flatMap_cons, List.flatMap_nil, List.append_nil]

theorem flatT_at (l : List TA) (j q : Nat) (h : j < l.length) (hq : q < (partsT l[j]).length) : (flatT l)[(flatT (l.take j)).length + q]? = some (partsT l[j])[q] := by
  have h1 : flatT l = flatT (l.take j) ++ (partsT l[j] ++ flatT (l.drop (j + 1))) := by
    conv => lhs; rw [← List.take_append_drop j l, List.drop_eq_getElem_cons h]
    simp only [flatT, List.flatMap_append, List.flatMap_cons]
  rw [h1, List.getElem?_append_right (Nat.le_add_right _ _), Nat.add_sub_cancel_left, List.getElem?_append_left hq, List.getElem?_eq_getElem hq]

theorem flat1_spec (h294 : T.has 294 c_294) (l : List TA) (hl : l.length ≤ 2 ^ 40) (hpl : ∀ t ∈ l, t.l.length ≤ 2 ^ 40) (p : Nat → Nat → AObj) (hlow : ∀ i k, k < 4 → LowO 6 (p i k)) (r : LRec) (hr : ∀ i, Low 6 (r.e i)) (Bf : Heap) (hBf : Bf.length = 6) (hBl : ∀ o ∈ Bf, LowO 6 o) (stop : Nat)
    (B : Nat → Heap) (hB : ∀ i, B i = [p i 0, p i 1, p i 2, p i 3, .cells [.lst (TA.avs l) .none] 173, .loop r .ready])
    (hy : ∀ i t, (flatT l)[i]? = some t → i < stop → YieldR T.L 5 [t.av] (B i) (.ret (.bool true)) (B (i + 1)))
    (hs : ∀ t, (flatT l)[stop]? = some t → YieldR T.L 5 [t.av] (B stop) (.ret (.bool false)) Bf) :
    ACalls T.L 294 [.yld 5, .ptr 4 0] (B 0) fun r' H' => r' = .ret (.tup []) ∧ ∃ J, H' = (if stop < (flatT l).length then Bf else B (flatT l).length) ++ J := by
  have hBlow : ∀ i, ∀ o ∈ B i, LowO 6 o := fun i => by
    rw [hB]
    exact LowHs.at ⟨hlow i 0 (by decide), hlow i 1 (by decide), hlow i 2 (by decide), hlow i 3 (by decide), lowC ⟨.lst _ _ trivial (low_tas 6 l), trivial⟩, hr, trivial⟩
  have hBlen : ∀ i, (B i).length = 6 := fun i => by rw [hB]; rfl
  obtain ⟨fin, hfin⟩ : ∃ fin, (if stop < (flatT l).length then Bf else B (flatT l).length) = fin := ⟨_, rfl⟩
  rw [hfin]
  refine acallsG h294 (by simp [c_294]) ?_
  rw [hB 0]
  conv => whnf
  intro I hI hG
  have key : ∀ (d j : Nat) (e : Env), l.length - j = d → j ≤ l.length → (flatT (l.take j)).length ≤ stop → I (setL e [(0, .yld 5), (8, .lst (TA.avs l) .none), (9, .int .i64 l.length), (10, .int .i64 j)]) (B (flatT (l.take j)).length) := by
    intro d
    induction d with
    | zero =>
      intro j e hd hj hst
      have hjl : j = l.length := by omega
      rw [hjl, List.take_length] at hst ⊢
      rw [if_neg (by omega)] at hfin
      rw [hfin]
      apply hI
      conv => whnf
      rw [lt_false (Nat.le_refl _)]
      conv => whnf
      exact ⟨rfl, [], (List.append_nil _).symm⟩
    | succ d ih =>
      intro j e hd hj hst
      have hlt : j < l.length := by omega
      have hnext := fun e h => ih (j + 1) e (by omega) hlt h
      rw [flatT_snoc l j hlt, List.length_append] at hnext
      have hat := flatT_at l j
      obtain ⟨i0, hi0⟩ : ∃ i0, (flatT (l.take j)).length = i0 := ⟨_, rfl⟩
      rw [hi0] at hst hnext hat ⊢
      have hpj := hpl _ (List.getElem_mem hlt)
      have hget := tas_at' hlt
      have hpt : ∀ q (h : q < (partsT l[j]).length), (flatT l)[i0 + q]? = some (partsT l[j])[q] := fun q h => hat q hlt h
      clear hat
      generalize l[j] = u at hnext hpj hget hpt
      obtain ⟨uk, un, us, ul⟩ := u
      apply hI
      rw [hB]
      conv => whnf
      rw [lt_true hlt]
      conv => whnf
      refine step_elem (Int.natCast_nonneg _) hget rfl ?_
      conv => whnf
      obtain ⟨P, hP⟩ : ∃ P, partsT (.mk uk un us ul) = P := ⟨_, rfl⟩
      rw [hP] at hnext
      have hpt : ∀ q (h : q < P.length), (flatT l)[i0 + q]? = some P[q] := fun q h => by subst hP; exact hpt q h
      have hPl : P.length ≤ 2 ^ 40 := by
        rw [← hP]
        unfold partsT
        split
        · exact hpj
        · simp
      cases hk : (uk == 7)
      case' false =>
        have hav : TA.avs P = [.agg [.int .i64 uk, .str un, .lst (strA us) .none, .lst (TA.avs ul) .none]] := by
          rw [← hP, partsT, if_neg (by simpa [TA.kind] using hk)]; rfl
      case' true =>
        have hav : TA.avs P = TA.avs ul := by
          rw [← hP, partsT, if_pos (by simpa [TA.kind] using hk)]; rfl
      all_goals
        clear hP
        conv => whnf
        intro I2 hI2 hG2
        have key2 : ∀ (d2 q : Nat) (e2 : Env), P.length - q = d2 → q ≤ P.length → i0 + q ≤ stop → I2 (setL e2 [(0, .yld 5), (8, .lst (TA.avs l) .none), (9, .int .i64 l.length), (10, .int .i64 j), (21, .lst (TA.avs P) .none), (22, .int .i64 P.length), (23, .int .i64 q)]) (B (i0 + q) ++ [tcell (.mk uk un us ul)]) := by
          intro d2
          induction d2 with
          | zero =>
            intro q e2 hd2 hq hqs
            have hqe : q = P.length := by omega
            subst hqe
            apply hI2
            rw [hB]
            conv => whnf
            rw [lt_false (Nat.le_refl _)]
            conv => whnf
            refine hG.keep [(0, .yld 5), (8, .lst (TA.avs l) .none), (9, .int .i64 l.length), (10, .int .i64 (j + 1 : Nat))] (B (i0 + P.length)) (by rw [hBlen]; exact Nat.le_refl _) (by rw [hB]; rfl) ⟨rfl, rfl, rfl, add1 (by omega), trivial⟩
              (by rw [hBlen]; exact ⟨.yld _ (by decide), .lst _ _ trivial (low_tas 6 l), .int _ _, .int _ _, trivial⟩) (by rw [hBlen, hB]; exact ⟨hlow _ 0 (by decide), hlow _ 1 (by decide), hlow _ 2 (by decide), hlow _ 3 (by decide), lowC ⟨.lst _ _ trivial (low_tas 6 l), trivial⟩, hr, trivial⟩) (hnext _ hqs)
          | succ d2 ih2 =>
            intro q e2 hd2 hq hqs
            have hql : q < P.length := by omega
            have hPq := hpt q hql
            have hget2 := tas_at' hql
            have hin : i0 + q < (flatT l).length := (List.getElem?_eq_some_iff.1 hPq).1
            have hn2 := fun e h => ih2 (q + 1) e (by omega) (by omega) h
            generalize P[q] = v at hPq hget2
            have hlv : ∀ x ∈ [v.av], Low (B (i0 + q)).length x := low1 (low_ta _ _)
            apply hI2
            rcases Nat.lt_or_ge (i0 + q) stop with hlt2 | hge2
            · have hyy := hy (i0 + q) v hPq hlt2
              obtain ⟨vk, vn, vs, vl⟩ := v
              rw [hB]
              conv => whnf
              rw [lt_true hql]
              conv => whnf
              refine step_elem (Int.natCast_nonneg _) hget2 rfl ?_
              conv => whnf
              refine hyy.to (by rw [hBlen]; decide) (by rw [hBlen, hBlen]) hlv (by rw [hBlen]; exact hBlow _) (.bool _) (by rw [hBlen]; exact hBlow _) _ (by rw [hB]; rfl) ?_
              conv => whnf
              have : i0 + q + 1 = i0 + (q + 1) := by omega
              rw [this]
              rw [hB]
              refine hG2.keep [(0, .yld 5), (8, .lst (TA.avs l) .none), (9, .int .i64 l.length), (10, .int .i64 j), (21, .lst (TA.avs P) .none), (22, .int .i64 P.length), (23, .int .i64 (q + 1 : Nat))] (B (i0 + (q + 1)) ++ [tcell (.mk uk un us ul)]) (by rw [List.length_append, hBlen]; exact Nat.le_refl _) (by rw [hB]; rfl) ⟨rfl, rfl, rfl, rfl, rfl, rfl, add1 (by omega), trivial⟩
                (by rw [List.length_append, hBlen]; exact ⟨.yld _ (by decide : 5 < 7), .lst _ _ trivial (low_tas _ l), .int _ _, .int _ _, .lst _ _ trivial (low_tas _ P), .int _ _, .int _ _, trivial⟩)
                (by rw [List.length_append, hBlen, hB]; exact ⟨lowO_mono (by decide : 6 ≤ 7) (hlow _ 0 (by decide)), lowO_mono (by decide : 6 ≤ 7) (hlow _ 1 (by decide)), lowO_mono (by decide : 6 ≤ 7) (hlow _ 2 (by decide)), lowO_mono (by decide : 6 ≤ 7) (hlow _ 3 (by decide)), lowC ⟨.lst _ _ trivial (low_tas 7 l), trivial⟩, lowO_mono (by decide : 6 ≤ 7) (o := .loop r .ready) hr, lowO_mono (Nat.zero_le _) (low_tcell _), trivial⟩) (hn2 _ (by omega))
            · have hqe : i0 + q = stop := by omega
              rw [hqe] at hPq hin
              have hyy := hs v hPq
              rw [if_pos hin] at hfin
              obtain ⟨vk, vn, vs, vl⟩ := v
              rw [hqe, hB]
              conv => whnf
              rw [lt_true hql]
              conv => whnf
              refine step_elem (Int.natCast_nonneg _) hget2 rfl ?_
              conv => whnf
              refine hyy.to (by rw [hBlen]; decide) (by rw [hBlen, hBf]) (by rw [hqe] at hlv; exact hlv) (by rw [hBlen]; exact hBlow _) (.bool _) (by rw [hBlen]; exact hBl) _ (by rw [hB]; rfl) ?_
              conv => whnf
              rw [hfin]
              exact ⟨rfl, _, rfl⟩
        have h2 := key2 P.length 0 (fun _ => .undef) rfl (Nat.zero_le _) hst
        have hPlen : (P.length : Int) = ((TA.avs P).length : Nat) := by rw [tas_len]
        rw [hPlen, hav] at h2
        refine hG2.nextS [(0, .yld 5), (8, .lst (TA.avs l) .none), (9, .int .i64 l.length), (10, .int .i64 j), (21, _), (22, _), (23, .int .i64 (0 : Nat))] (B (i0 + 0) ++ [tcell (.mk uk un us ul)]) (B (i0 + 0) ++ [tcell (.mk uk un us ul)]) [] (by rw [hB]; rfl) (by rw [List.length_append, hBlen]; exact Nat.le_refl _) (WeakHs.refl _)
          (by rw [List.length_append, hBlen]; exact ⟨⟨Weak.refl _, .yld _ (by decide : 5 < 7)⟩, ⟨Weak.refl _, .lst _ _ trivial (low_tas _ l)⟩, ⟨Weak.refl _, .int _ _⟩, ⟨Weak.refl _, .int _ _⟩, ⟨Weak.tok _ _, by rw [← hav]; exact .lst _ _ trivial (low_tas _ P)⟩, ⟨Weak.refl _, .int _ _⟩, ⟨Weak.refl _, .int _ _⟩, trivial⟩)
          (by rw [List.length_append, hBlen, hB]; exact ⟨lowO_mono (by decide : 6 ≤ 7) (hlow _ 0 (by decide)), lowO_mono (by decide : 6 ≤ 7) (hlow _ 1 (by decide)), lowO_mono (by decide : 6 ≤ 7) (hlow _ 2 (by decide)), lowO_mono (by decide : 6 ≤ 7) (hlow _ 3 (by decide)), lowC ⟨.lst _ _ trivial (low_tas 7 l), trivial⟩, lowO_mono (by decide : 6 ≤ 7) (o := .loop r .ready) hr, lowO_mono (Nat.zero_le _) (low_tcell _), trivial⟩)
          h2
  have h0 := key l.length 0
  rw [hB] at h0
  exact inv_of [(0, .yld 5), (8, .lst (TA.avs l) .none), (9, .int .i64 l.length), (10, .int .i64 0)] ⟨rfl, rfl, by show AVal.int .i64 ((TA.avs l).length : Nat) = _; rw [tas_len], rfl, trivial⟩ (h0 _ rfl (Nat.zero_le _) (Nat.zero_le _))

end Go.Ag
/- Package types: the library's CompactFunc of keyed types. -/
set_option linter.unusedVariables false
namespace Go.Ag
open Go

variable {T : Tab} {L : Lnk}

def kcell : TA × Bytes → List AVal
  | (.mk k nm ns l, s) => [.int .i64 k, .str nm, .lst (strA ns) .none, .lst (TA.avs l) .none, .str s]
def kv (p : TA × Bytes) : AVal := .agg (kcell p)
def kvs (l : List (TA × Bytes)) : List AVal := l.map kv

theorem kcell_len (p : TA × Bytes) : (kcell p).length = 5 := by obtain ⟨⟨k, nm, ns, l⟩, s⟩ := p; rfl
theorem kvs_len5 (l : List (TA × Bytes)) : ∀ x ∈ kvs l, x.cells.length = 5 := fun x hx => by
  obtain ⟨p, _, rfl⟩ := List.mem_map.1 hx
  exact kcell_len p
theorem kvs_length (l : List (TA × Bytes)) : (kvs l).length = l.length := by simp [kvs]
theorem low_kv (n : Nat) (p : TA × Bytes) : Low n (kv p) := by
  obtain ⟨⟨k, nm, ns, l⟩, s⟩ := p
  exact .agg _ (LowL.at ⟨.int _ _, .str _, low_strs' _ _ _ trivial, .lst _ _ trivial (low_tas n l), .str _, trivial⟩)
theorem low_kvs (n : Nat) (l : List (TA × Bytes)) : ∀ x ∈ kvs l, Low n x := fun x hx => by
  obtain ⟨p, _, rfl⟩ := List.mem_map.1 hx
  exact low_kv n p
theorem ok_kv (p : TA × Bytes) : okCells 5 (kv p) := by obtain ⟨⟨k, nm, ns, l⟩, s⟩ := p; exact ⟨rfl, rfl⟩
theorem sized_kvs (l : List (TA × Bytes)) : Sized 5 (kvs l) := fun x hx => by
  obtain ⟨p, _, rfl⟩ := List.mem_map.1 hx
  exact ok_kv p

theorem load_kv {H : Heap} {id n t i : Nat} {l : List AVal} {x : AVal} (h : H[id]? = some (.arr n l t)) (h5 : ∀ x ∈ l, x.cells.length = 5) (hi : l[i]? = some x) : loadAt H (some 5) (.eptr id n (i * 5)) = some (.agg x.cells) := by
  obtain ⟨hlt, rfl⟩ := List.getElem?_eq_some_iff.1 hi
  have hl := flat_length h5
  simp only [loadAt, cellsAt, h]
  rw [if_pos ⟨trivial, by rw [hl]; omega⟩, flat_drop i h5, List.drop_eq_getElem_cons hlt, flat_cons, List.take_append, h5 _ (List.getElem_mem hlt)]
  have h6 := h5 _ (List.getElem_mem hlt)
  rw [Nat.sub_self, List.take_zero, List.append_nil, List.take_of_length_le (by omega)]
  rfl
theorem store_kv {H : Heap} {id n t i : Nat} {l : List AVal} {x : AVal} (h : H[id]? = some (.arr n l t)) (h5 : ∀ x ∈ l, x.cells.length = 5) (hx : x.cells.length = 5) (hi : i < l.length) : storeAt H 5 (.eptr id n (i * 5)) x = some (H.set id (.arr n (l.take i ++ [x] ++ l.drop (i + 1)) t)) := by
  simp only [storeAt, h]
  rw [if_pos ⟨trivial, hx, by rw [Nat.mul_div_cancel _ (by decide : 0 < 5)], by rw [Nat.mul_div_cancel _ (by decide : 0 < 5)]; exact hi, by rw [List.all_eq_true]; exact fun y hy => by simpa using h5 y hy⟩, Nat.mul_div_cancel _ (by decide : 0 < 5)]

def dedGo {α : Type} : Bytes → List (α × Bytes) → List (α × Bytes)
  | _, [] => []
  | p, y :: l => if (y.2 == p) = true then dedGo y.2 l else y :: dedGo y.2 l
def dedK {α : Type} : List (α × Bytes) → List (α × Bytes)
  | [] => []
  | x :: l => x :: dedGo x.2 l

theorem dedGo_snoc {α : Type} : ∀ (l : List (α × Bytes)) (p : Bytes) (y : α × Bytes), dedGo p (l ++ [y]) = dedGo p l ++ (if (y.2 == (l.map (·.2)).getLastD p) = true then [] else [y])
  | [], p, y => by
    rw [List.nil_append, dedGo, dedGo]
    show _ = [] ++ (if (y.2 == p) = true then [] else [y])
    split <;> simp [dedGo]
  | x :: l, p, y => by
    rw [List.cons_append, dedGo, dedGo_snoc l x.2 y, dedGo]
    have : ((x :: l).map (·.2)).getLastD p = (l.map (·.2)).getLastD x.2 := by rw [List.map_cons, List.getLastD_cons]
    rw [this]
    split
    · rfl
    · rw [List.cons_append]
theorem dedK_snoc {α : Type} (xs : List (α × Bytes)) (i : Nat) (h1 : 1 ≤ i) (hi : i < xs.length) : dedK (xs.take (i + 1)) = dedK (xs.take i) ++ (if (xs[i].2 == (xs[i - 1]'(by omega)).2) = true then [] else [xs[i]]) := by
  rw [List.take_succ_eq_append_getElem hi]
  cases xs with
  | nil => simp at hi
  | cons x l =>
    obtain ⟨m, rfl⟩ : ∃ m, i = m + 1 := ⟨i - 1, by omega⟩
    rw [List.take_succ_cons, List.cons_append, dedK, dedK, dedGo_snoc, List.cons_append]
    have hm : m < l.length := by simpa using hi
    have hlast : ((l.take m).map (·.2)).getLastD x.2 = ((x :: l)[m + 1 - 1]'(by simp; omega)).2 := by
      cases m with
      | zero => rfl
      | succ m =>
        have hm' : m < l.length := by omega
        rw [List.take_succ_eq_append_getElem hm', List.map_append, List.map_cons, List.map_nil, List.getLastD_concat]
        simp
    rw [hlast]

structure CompFns (T : Tab) : Prop where
  h255 : T.has 255 c_255
  h256 : T.has 256 c_256

theorem eqk_spec (h256 : T.has 256 c_256) (a b : TA × Bytes) : Pure T.L 256 [kv a, kv b] (.bool (a.2 == b.2)) := by
  refine Pure.run (LowL.at ⟨low_kv _ _, low_kv _ _, trivial⟩) (.bool _) (acallsG h256 (by simp [c_256]) ?_)
  obtain ⟨⟨ak, an, as, al⟩, sa⟩ := a
  obtain ⟨⟨bk, bn, bs, bl⟩, sb⟩ := b
  conv => whnf
  exact ret_weak (Weak.refl _)

end Go.Ag
/- Package types: CompactFunc, walked. -/
set_option linter.unusedVariables false
namespace Go.Ag
open Go

variable {T : Tab} {L : Lnk}

structure TypLib (L : Lnk) : Prop where
  clone : ∀ ns : List Bytes, ns.length ≤ 2 ^ 40 → Pure L 208 [.lst (strA ns) .none] (.lst (strA ns) .none)
  sort : ∀ (xs : List (TA × Bytes)) (n id t : Nat) (H : Heap), H[id]? = some (.arr n (kvs xs) t) → n = xs.length → xs ≠ [] → n ≤ 2 ^ 40 →
    ACalls L 252 [.vec id n 5 0 n, .fn (.func 253) [] []] H fun r H' => r = .ret (.tup []) ∧ ∃ ys : List (TA × Bytes), ys.Perm xs ∧ ys.Pairwise (fun a b => a.2 ≤ b.2) ∧ H' = H.set id (.arr n (kvs ys) t)
  sort0 : ∀ H : Heap, ACalls L 252 [.lst [] .nil, .fn (.func 253) [] []] H fun r H' => r = .ret (.tup []) ∧ H' = H
  compact : ∀ (xs : List (TA × Bytes)) (n id t : Nat) (H : Heap), H[id]? = some (.arr n (kvs xs) t) → n = xs.length → xs ≠ [] → n ≤ 2 ^ 40 →
    ACalls L 255 [.vec id n 5 0 n, .fn (.func 256) [] []] H fun r H' => r = .ret (.vec id n 5 0 (dedK xs).length) ∧ ∃ rest : List AVal, (∀ x ∈ rest, Low 0 x ∧ x.cells.length = 5) ∧ (dedK xs).length + rest.length = n ∧ H' = H.set id (.arr n (kvs (dedK xs) ++ rest) t)
  compact0 : ∀ H : Heap, ACalls L 255 [.lst [] .nil, .fn (.func 256) [] []] H fun r H' => r = .ret (.lst [] .nil) ∧ H' = H

end Go.Ag
/- Package types: union. -/
set_option linter.unusedVariables false
namespace Go.Ag
open Go

variable {T : Tab} {L : Lnk}

def keyT (l : List TA) : List (TA × Bytes) := l.map fun t => (t, prT t 0)
def sortP (xs : List (TA × Bytes)) : List (TA × Bytes) := xs.mergeSort fun a b => decide (a.2 ≤ b.2)
theorem sortP_perm (xs : List (TA × Bytes)) : (sortP xs).Perm xs := List.mergeSort_perm xs _
theorem sortP_sorted (xs : List (TA × Bytes)) : (sortP xs).Pairwise fun a b => a.2 ≤ b.2 :=
  (List.pairwise_mergeSort (le := fun a b : TA × Bytes => decide (a.2 ≤ b.2)) (fun a b c h1 h2 => by simp at *; exact List.le_trans h1 h2) (fun a b => by simp; exact List.le_total a.2 b.2) xs).imp (by simp)
theorem sortP_unique {xs ys : List (TA × Bytes)} (hp : ys.Perm xs) (hs : ys.Pairwise fun a b => a.2 ≤ b.2) (hi : ∀ a ∈ xs, ∀ b ∈ xs, a.2 = b.2 → a = b) : ys = sortP xs :=
  List.Perm.eq_of_pairwise (le := fun a b : TA × Bytes => a.2 ≤ b.2) (fun a b ha hb h1 h2 => hi a (hp.mem_iff.1 ha) b ((sortP_perm xs).mem_iff.1 hb) (List.le_antisymm h1 h2)) hs (sortP_sorted xs) (hp.trans (sortP_perm xs).symm)

def unionT (l : List TA) : TA := match (flatT l).find? (fun t => t.kind == 4) with
  | some t => t
  | none => match dedK (sortP (keyT (flatT l))) with
    | [p] => p.1
    | ps => .mk 7 [] [] (ps.map (·.1))

structure TypFns (T : Tab) : Prop extends PriFns T where
  h251 : T.has 251 c_251
  h294 : T.has 294 c_294
  h224 : T.has 224 c_224
  h253 : T.has 253 c_253
  h256 : T.has 256 c_256
  h186 : T.has 186 c_186
  h150 : T.has 150 c_150
  h151 : T.has 151 c_151
  tlib : TypLib T.L

structure PartsOK (l : List TA) : Prop where
  len : l.length ≤ 2 ^ 30
  parts : ∀ t ∈ l, t.l.length ≤ 2 ^ 30
  all : (flatT l).length ≤ 2 ^ 30
  wt : ∀ t ∈ flatT l, wtT t ≤ 2 ^ 40
  wf : ∀ t ∈ flatT l, wfT t
  inj : ∀ a ∈ flatT l, ∀ b ∈ flatT l, prT a 0 = prT b 0 → a = b

def uB (l : List TA) (r : LRec) (i : Nat) : Nat → AObj
  | 0 => vobj (kvs (keyT ((flatT l).take i))) 306
  | 1 => .dead
  | 2 => zcell
  | 3 => .cells [vval (kvs (keyT ((flatT l).take i))) 5 0] 303
  | _ => .dead

theorem load_kv4 {H : Heap} {id n t i : Nat} {l : List AVal} {x : AVal} (h : H[id]? = some (.arr n l t)) (h5 : ∀ x ∈ l, x.cells.length = 5) (hi : l[i]? = some x) : loadAt H (some 4) (.eptr id n (i * 5)) = some (.agg (x.cells.take 4)) := by
  obtain ⟨hlt, rfl⟩ := List.getElem?_eq_some_iff.1 hi
  have hl := flat_length h5
  have h6 := h5 _ (List.getElem_mem hlt)
  simp only [loadAt, cellsAt, h]
  rw [if_pos ⟨trivial, by rw [hl]; omega⟩, flat_drop i h5, List.drop_eq_getElem_cons hlt, flat_cons, List.take_append, h6]
  rw [show 4 - 5 = 0 from rfl, List.take_zero, List.append_nil]
  rfl

theorem union_spec (F : TypFns T) (l : List TA) (h : PartsOK l) : Pure T.L 224 [.lst (TA.avs l) .none] (unionT l).av := by
  refine Pure.runD 2 (low1 (.lst _ _ trivial (low_tas 0 l))) (low_ta _ _) (acallsG F.h224 (by simp [c_224]) ?_)
  conv => whnf
  refine (flat_spec F.h251 (TA.avs l) .none _).to1 ?_
  conv => whnf
  intro r hr hyp
  have hlr : ∀ i, Low 6 (r.e i) := fun i => by
    rw [hr]
    unfold putA
    simp only [upd]
    split
    · exact .fn _ _ _ low0 (low1 (.ptr _ _ (by decide : 4 < 6)))
    split
    · exact .lst _ _ trivial (low_tas 6 l)
    split
    · exact .ptr _ _ (by decide : 3 < 6)
    split
    · exact .ptr _ _ (by decide : 2 < 6)
    · match i with
      | 0 => exact .lst _ _ trivial (low_tas 6 l)
      | i + 1 => exact .undef
  obtain ⟨B, hB⟩ : ∃ B : Nat → Heap, B = fun i => [uB l r i 0, uB l r i 1, uB l r i 2, uB l r i 3, .cells [.lst (TA.avs l) .none] 173, .loop r .ready] := ⟨_, rfl⟩
  have hyes : ∀ i t, (flatT l)[i]? = some t → (t.kind == 4) = false → YieldR T.L 5 [t.av] (B i) (.ret (.bool true)) (B (i + 1)) := fun i t hit hk => by
    have hmem := List.mem_of_getElem? hit
    have hlt := (List.getElem?_eq_some_iff.1 hit).1
    have hty := Type_prT F.toPriFns t (h.wt t hmem) (h.wf t hmem)
    have e1 : kvs (keyT ((flatT l).take (i + 1))) = kvs (keyT ((flatT l).take i)) ++ [kv (t, prT t 0)] := by
      rw [List.take_succ_eq_append_getElem hlt, (List.getElem?_eq_some_iff.1 hit).2]
      simp [kvs, keyT]
    have hlen : (kvs (keyT ((flatT l).take i))).length = i := by simp [kvs, keyT]; omega
    have hall := h.all
    have hsz := sized_kvs (keyT ((flatT l).take i))
    have hB1 : B (i + 1) = [.arr (kvs (keyT ((flatT l).take i)) ++ [kv (t, prT t 0)]).length (kvs (keyT ((flatT l).take i)) ++ [kv (t, prT t 0)]) 306, .dead, zcell, .cells [.vec 0 (kvs (keyT ((flatT l).take i)) ++ [kv (t, prT t 0)]).length 5 0 (kvs (keyT ((flatT l).take i)) ++ [kv (t, prT t 0)]).length] 303, .cells [.lst (TA.avs l) .none] 173, .loop r .ready] := by
      have hn : kvs (keyT ((flatT l).take i)) ++ [kv (t, prT t 0)] ≠ [] := by simp
      rw [← vval_ne hn, ← vobj_ne hn, ← e1, hB]; rfl
    have hlx := low_kvs 6 (keyT ((flatT l).take i))
    rw [hB1]
    rw [hB]
    refine YieldR.of rfl (.bool _) (LowHs.at ⟨fun z hz => ?_, trivial, lowO_mono (Nat.zero_le _) low_zcell, lowC ⟨.vec _ _ _ _ _ (by decide : 0 < 6), trivial⟩, lowC ⟨.lst _ _ trivial (low_tas 6 l), trivial⟩, hlr, trivial⟩) ((hyp [t.av] [uB l r i 0, uB l r i 1, uB l r i 2, uB l r i 3, .cells [.lst (TA.avs l) .none] 173, .loop r .ready] (fun r' H' => r' = .ret (.bool true) ∧ ∃ J, H' = [.arr (kvs (keyT ((flatT l).take i)) ++ [kv (t, prT t 0)]).length (kvs (keyT ((flatT l).take i)) ++ [kv (t, prT t 0)]) 306, .dead, zcell, .cells [.vec 0 (kvs (keyT ((flatT l).take i)) ++ [kv (t, prT t 0)]).length 5 0 (kvs (keyT ((flatT l).take i)) ++ [kv (t, prT t 0)]).length] 303, .cells [.lst (TA.avs l) .none] 173, .loop r .ready] ++ J) rfl rfl ?_).mono fun r' H' ⟨e2, J, e3⟩ => ⟨_, J, by rw [e2]; exact Weak.refl _, e3, rfl, fun i x y h1 h2 => by rw [h1] at h2; cases h2; exact WeakO.refl x⟩)
    · rcases List.mem_append.1 hz with hz | hz
      · exact hlx z hz
      · simp only [List.mem_singleton] at hz; subst hz; exact low_kv _ _
    have happ : ∀ {tk0 : Tok} {H : Heap} {K : AVal → Heap → Prop}, H[0]? = some (vobj (kvs (keyT ((flatT l).take i))) 306) → K (.vec 0 (kvs (keyT ((flatT l).take i)) ++ [kv (t, prT t 0)]).length 5 0 (kvs (keyT ((flatT l).take i)) ++ [kv (t, prT t 0)]).length) (H.set 0 (.arr (kvs (keyT ((flatT l).take i)) ++ [kv (t, prT t 0)]).length (kvs (keyT ((flatT l).take i)) ++ [kv (t, prT t 0)]) 306)) → appK 5 88 306 (vval (kvs (keyT ((flatT l).take i))) 5 0) (.lst [kv (t, prT t 0)] tk0) H K :=
      fun h1 h2 => app_vec hsz (sized_kvs [(t, prT t 0)]) (by rw [hlen]; simp; omega) (by rw [hlen]; simp; omega) (by simp) h1 h2
    rw [show uB l r i 0 = vobj (kvs (keyT ((flatT l).take i))) 306 from rfl, show uB l r i 3 = .cells [vval (kvs (keyT ((flatT l).take i))) 5 0] 303 from rfl]
    generalize kvs (keyT ((flatT l).take i)) = XS at happ ⊢
    generalize prT t 0 = st at happ hty ⊢
    obtain ⟨tk, tn, ts, tl⟩ := t
    conv => whnf
    refine ⟨rfl, ?_⟩
    conv => whnf
    rw [show (tk == 4) = false from hk]
    cases XS
    all_goals
      conv => whnf
      refine hty.to ?_
      conv => whnf
      refine ⟨⟨rfl, rfl, trivial⟩, ?_⟩
      conv => whnf
      refine happ rfl ?_
      conv => whnf
      refine ⟨rfl, ?_⟩
      exact ⟨rfl, _, rfl⟩
  have hno : ∀ i t, (flatT l)[i]? = some t → (t.kind == 4) = true → YieldR T.L 5 [t.av] (B i) (.ret (.bool false)) [uB l r i 0, .dead, tcell t, uB l r i 3, .cells [.lst (TA.avs l) .none] 173, .loop r .ret] := fun i t hit hk => by
    rw [hB]
    have hl0 : LowO 6 (uB l r i 0) := low_vobj (low_kvs 6 _)
    have hl3 : LowO 6 (uB l r i 3) := lowC ⟨low_vval (by decide : 0 < 6), trivial⟩
    refine YieldR.of rfl (.bool _) (LowHs.at ⟨hl0, trivial, lowO_mono (Nat.zero_le _) (low_tcell _), hl3, lowC ⟨.lst _ _ trivial (low_tas 6 l), trivial⟩, hlr, trivial⟩) ((hyp [t.av] [uB l r i 0, uB l r i 1, uB l r i 2, uB l r i 3, .cells [.lst (TA.avs l) .none] 173, .loop r .ready] (fun r' H' => r' = .ret (.bool false) ∧ ∃ J, H' = [uB l r i 0, .dead, tcell t, uB l r i 3, .cells [.lst (TA.avs l) .none] 173, .loop r .ret] ++ J) rfl rfl ?_).mono fun r' H' ⟨e2, J, e3⟩ => ⟨_, J, by rw [e2]; exact Weak.refl _, e3, rfl, fun i x y h1 h2 => by rw [h1] at h2; cases h2; exact WeakO.refl x⟩)
    generalize uB l r i 0 = o0
    generalize uB l r i 3 = o3
    obtain ⟨tk, tn, ts, tl⟩ := t
    conv => whnf
    refine ⟨rfl, ?_⟩
    conv => whnf
    rw [show (tk == 4) = true from hk]
    conv => whnf
    refine ⟨rfl, ?_⟩
    exact ⟨rfl, _, rfl⟩
  clear hyp
  obtain ⟨stop, hstop⟩ : ∃ stop, (flatT l).findIdx (fun t => t.kind == 4) = stop := ⟨_, rfl⟩
  obtain ⟨Bf, hBf⟩ : ∃ Bf : Heap, Bf = match (flatT l)[stop]? with
    | some t => [uB l r stop 0, .dead, tcell t, uB l r stop 3, .cells [.lst (TA.avs l) .none] 173, .loop r .ret]
    | none => [.dead, .dead, .dead, .dead, .dead, .dead] := ⟨_, rfl⟩
  have hwalk := flat1_spec F.h294 l (by have := h.len; omega) (fun t ht => by have := h.parts t ht; omega) (uB l r) (fun i k hk => by
      match k, hk with
      | 0, _ => exact low_vobj (low_kvs 6 _)
      | 1, _ => exact trivial
      | 2, _ => exact lowO_mono (Nat.zero_le _) low_zcell
      | 3, _ => exact lowC ⟨low_vval (by decide : 0 < 6), trivial⟩
      | k + 4, h => omega) r hlr Bf (by rw [hBf]; split <;> rfl) (by
      rw [hBf]
      split
      · exact LowHs.at ⟨low_vobj (low_kvs 6 _), trivial, lowO_mono (Nat.zero_le _) (low_tcell _), lowC ⟨low_vval (by decide : 0 < 6), trivial⟩, lowC ⟨.lst _ _ trivial (low_tas 6 l), trivial⟩, hlr, trivial⟩
      · exact LowHs.at ⟨trivial, trivial, trivial, trivial, trivial, trivial, trivial⟩) stop B (fun i => by rw [hB]) (fun i t hit hlt => hyes i t hit (by
        rw [← hstop] at hlt
        have h1 := List.not_of_lt_findIdx hlt
        have h2 := (List.getElem?_eq_some_iff.1 hit).2
        rw [h2] at h1
        simpa using h1)) (fun t hit => by
        have h3 := hno stop t hit (by
          have h1 := (List.getElem?_eq_some_iff.1 hit)
          have h2 : (flatT l).findIdx (fun t => t.kind == 4) < (flatT l).length := by rw [hstop]; exact h1.1
          have h3 := List.findIdx_getElem (w := h2)
          simp only [hstop, h1.2] at h3
          exact h3)
        rw [hBf, hit]
        exact h3)
  have hB0 : B 0 = [.dead, .dead, zcell, .cells [.lst [] .nil] 303, .cells [.lst (TA.avs l) .none] 173, .loop r .ready] := by rw [hB]; rfl
  rw [hB0] at hwalk
  have hfl : (if stop < (flatT l).length then Bf else B (flatT l).length).length = 6 ∧ ∀ o ∈ (if stop < (flatT l).length then Bf else B (flatT l).length), LowO 6 o := by
    split
    · rw [hBf]
      split
      · exact ⟨rfl, LowHs.at ⟨low_vobj (low_kvs 6 _), trivial, lowO_mono (Nat.zero_le _) (low_tcell _), lowC ⟨low_vval (by decide : 0 < 6), trivial⟩, lowC ⟨.lst _ _ trivial (low_tas 6 l), trivial⟩, hlr, trivial⟩⟩
      · exact ⟨rfl, LowHs.at ⟨trivial, trivial, trivial, trivial, trivial, trivial, trivial⟩⟩
    · rw [hB]
      exact ⟨rfl, LowHs.at ⟨low_vobj (low_kvs 6 _), trivial, lowO_mono (Nat.zero_le _) low_zcell, lowC ⟨low_vval (by decide : 0 < 6), trivial⟩, lowC ⟨.lst _ _ trivial (low_tas 6 l), trivial⟩, hlr, trivial⟩⟩
  have hexact := ACalls.gcR (Q := fun z H' => z = .ret (.tup []) ∧ H' = (if stop < (flatT l).length then Bf else B (flatT l).length)) (hwalk.mono fun r' H' ⟨e1, J, e2⟩ => ⟨.ret (.tup []), _, _, J, e2, by rw [e1]; exact Weak.refl _, low_unit, hfl.1, rfl, fun i o o' h1 h2 => by rw [h1] at h2; cases h2; exact WeakO.refl o, hfl.2, rfl, rfl⟩)
  refine hexact.mono fun r' H' ⟨_, e1, e2⟩ => ?_
  clear hwalk hexact hyes hno hfl
  subst e1 e2
  cases hfd : (flatT l).find? (fun t => t.kind == 4) with
  | some t =>
    have hR : unionT l = t := by unfold unionT; rw [hfd]
    have hlt : stop < (flatT l).length := by
      rw [← hstop, List.findIdx_lt_length]
      exact ⟨t, List.mem_of_find?_eq_some hfd, List.find?_some (p := fun t : TA => t.kind == 4) hfd⟩
    have hgt : (flatT l)[stop]? = some t := by
      have := List.find?_eq_getElem?_findIdx (p := fun t : TA => t.kind == 4) (xs := flatT l)
      rw [hfd, hstop] at this
      exact this.symm
    rw [if_pos hlt, hBf, hgt, hR]
    obtain ⟨tk, tn, ts, tl⟩ := t
    conv => whnf
    refine ⟨rfl, ?_⟩
    exact ret_weak (Weak.refl _)
  | none =>
    have hge : ¬ stop < (flatT l).length := fun hlt => by
      rw [← hstop, List.findIdx_lt_length] at hlt
      obtain ⟨t, ht, hk⟩ := hlt
      have := List.find?_eq_none.1 hfd t ht
      exact this hk
    rw [if_neg hge, hB]
    have htake : (flatT l).take (flatT l).length = flatT l := List.take_length
    have hR : unionT l = match dedK (sortP (keyT (flatT l))) with
      | [p] => p.1
      | ps => .mk 7 [] [] (ps.map (·.1)) := by unfold unionT; rw [hfd]
    obtain ⟨X, hX⟩ : ∃ X, keyT (flatT l) = X := ⟨_, rfl⟩
    have hXl : X.length ≤ 2 ^ 30 := by rw [← hX]; have := h.all; simp [keyT]; omega
    have hinj : ∀ a ∈ X, ∀ b ∈ X, a.2 = b.2 → a = b := fun a ha b hb e => by
      rw [← hX] at ha hb
      obtain ⟨t, ht, rfl⟩ := List.mem_map.1 ha
      obtain ⟨u, hu, rfl⟩ := List.mem_map.1 hb
      have := h.inj t ht u hu e
      rw [this]
    dsimp only
    rw [show uB l r (flatT l).length 0 = vobj (kvs X) 306 from by unfold uB; rw [htake, hX]; rfl, show uB l r (flatT l).length 3 = .cells [vval (kvs X) 5 0] 303 from by unfold uB; rw [htake, hX]; rfl]
    rw [hX] at hR
    cases X with
    | nil =>
      conv => whnf
      refine ⟨rfl, ?_⟩
      conv => whnf
      refine (F.tlib.sort0 _).to1 ?_
      conv => whnf
      refine (F.tlib.compact0 _).to1 ?_
      conv => whnf
      intro I hI hG
      apply hI
      conv => whnf
      rw [hR, show dedK (sortP []) = [] from by simp [sortP, dedK]]
      exact ret_weak (weak_mk 7 [])
    | cons p0 X0 =>
      obtain ⟨X, hX1⟩ : ∃ X, p0 :: X0 = X := ⟨_, rfl⟩
      have hXne : X ≠ [] := by rw [← hX1]; simp
      rw [hX1] at hR hinj hXl ⊢
      have hkne : kvs X ≠ [] := by unfold kvs; simpa using hXne
      rw [vval_ne hkne, vobj_ne hkne, kvs_length]
      obtain ⟨n, hn⟩ : ∃ n, n = X.length := ⟨_, rfl⟩
      rw [← hn] at hXl ⊢
      conv => whnf
      refine ⟨rfl, ?_⟩
      conv => whnf
      refine (F.tlib.sort X n 0 306 _ rfl hn hXne (by omega)).mono fun r1 H1 ⟨e1, ys, hp, hsorted, e2⟩ => ?_
      subst e1 e2
      have hys := sortP_unique hp hsorted hinj
      rw [← hys] at hR
      have hyl : ys.length = n := by rw [hp.length_eq, hn]
      have hyne : ys ≠ [] := by rintro rfl; simp at hyl; rw [hn] at hyl; exact hXne (List.eq_nil_of_length_eq_zero hyl.symm)
      conv => whnf
      refine (F.tlib.compact ys n 0 306 _ rfl hyl.symm hyne (by omega)).mono fun r1 H1 ⟨e1, rest, hrest, hlen, e2⟩ => ?_
      subst e1 e2
      generalize dedK ys = Z at hR hlen ⊢
      have h5 : ∀ x ∈ kvs Z ++ rest, x.cells.length = 5 := fun x hx => by
        rcases List.mem_append.1 hx with hx | hx
        · exact kvs_len5 Z x hx
        · exact (hrest x hx).2
      conv => whnf
      cases hZ : ((Z.length : Int) == 1)
      · conv => whnf
        have hR : unionT l = .mk 7 [] [] (Z.map (·.1)) := by
          rw [hR]
          match Z, hZ with
          | [], _ => rfl
          | [z], hZ => exact absurd hZ (by simp)
          | z :: z' :: Z', _ => rfl
        rw [hR]
        intro I hI hG
        obtain ⟨m, hm⟩ : ∃ m, Z.length = m := ⟨_, rfl⟩
        have hlow7 : LowO 7 (.arr n (kvs Z ++ rest) 306) := fun x hx => by
          rcases List.mem_append.1 hx with hx | hx
          · exact low_kvs 7 Z x hx
          · exact (hrest x hx).1.mono (Nat.zero_le _)
        have key : ∀ (d k : Nat) (e : Env), m - k = d → k ≤ m → I (setL e [(2, .ptr 2 0), (5, .ptr 6 0), (34, .vec 0 n 5 0 m), (35, .int .i64 m), (36, .int .i64 k)])
            [.arr n (kvs Z ++ rest) 306, dobj (TA.avs ((Z.map (·.1)).take k)).length 175, zcell, .cells [.vec 0 n 5 0 m] 303, .cells [.lst (TA.avs l) .none] 173, .gone, .cells [.int .i64 7, .str [], .lst [] .nil, .lst (TA.avs ((Z.map (·.1)).take k)) (dtok (TA.avs ((Z.map (·.1)).take k)).length 1)] 175] := by
          intro d
          induction d with
          | zero =>
            intro k e hd hk
            have hkm : k = m := by omega
            apply hI
            conv => whnf
            rw [lt_false (by omega)]
            conv => whnf
            rw [show (Z.map (·.1)).take k = Z.map (·.1) from List.take_of_length_le (by rw [List.length_map]; omega)]
            refine ret_weak ?_
            show Weak T.L _ (TA.mk 7 [] [] (Z.map (·.1))).av
            rw [TA.av]
            exact Weak.agg ⟨Weak.refl _, Weak.refl _, Weak.tok _ _, Weak.tok _ _, trivial⟩
          | succ d ih =>
            intro k e hd hk
            have hlt : k < m := by omega
            have hkZ : k < Z.length := by omega
            have hnext := fun e => ih (k + 1) e (by omega) hlt
            have hget : (kvs Z ++ rest)[k]? = some (kv Z[k]) := by
              rw [List.getElem?_append_left (by rw [kvs_length]; exact hkZ), kvs, List.getElem?_map, List.getElem?_eq_getElem hkZ]; rfl
            have htk : TA.avs ((Z.map (·.1)).take (k + 1)) = TA.avs ((Z.map (·.1)).take k) ++ [Z[k].1.av] := by
              have hk1 : k < (Z.map (·.1)).length := by simpa using hkZ
              rw [List.take_succ_eq_append_getElem hk1, tas_append, List.getElem_map]; rfl
            have hlk : (TA.avs ((Z.map (·.1)).take k)).length = k := by rw [tas_len]; simp; omega
            have hsz := sized_tas ((Z.map (·.1)).take k)
            rw [htk] at hnext
            generalize TA.avs ((Z.map (·.1)).take k) = YS at htk hnext hlk hsz ⊢
            generalize Z[k] = z at hget htk hnext
            obtain ⟨⟨zk, zn, zs, zl⟩, zt⟩ := z
            apply hI
            conv => whnf
            rw [lt_true hlt]
            conv => whnf
            refine ⟨⟨Int.natCast_nonneg _, by omega, rfl⟩, ?_⟩
            conv => whnf
            rw [show (0 + ((k : Nat) : Int).toNat) * 5 = k * 5 from by simp, load_kv (t := 306) (i := k) (x := kv (.mk zk zn zs zl, zt)) ?_ h5 hget]
            · conv => whnf
              refine app_slot (id := 1) hsz (sized_one rfl) (by simp [hlk]; omega) (by simp [hlk]; omega) (by simp) rfl ?_
              conv => whnf
              refine hG.keep [(2, .ptr 2 0), (5, .ptr 6 0), (34, .vec 0 n 5 0 m), (35, .int .i64 m), (36, .int .i64 (k + 1 : Nat))] [.arr n (kvs Z ++ rest) 306, dobj (YS ++ [AVal.agg [.int .i64 zk, .str zn, .lst (strA zs) .none, .lst (TA.avs zl) .none]]).length 175, zcell, .cells [.vec 0 n 5 0 m] 303, .cells [.lst (TA.avs l) .none] 173, .gone, .cells [.int .i64 7, .str [], .lst [] .nil, .lst (YS ++ [AVal.agg [.int .i64 zk, .str zn, .lst (strA zs) .none, .lst (TA.avs zl) .none]]) (dtok (YS ++ [AVal.agg [.int .i64 zk, .str zn, .lst (strA zs) .none, .lst (TA.avs zl) .none]]).length 1)] 175]
                (Nat.le_refl 7) rfl ⟨rfl, rfl, rfl, rfl, add1 (by omega), trivial⟩ ⟨.ptr _ _ (by decide : 2 < 7), .ptr _ _ (by decide : 6 < 7), .vec _ _ _ _ _ (by decide : 0 < 7), .int _ _, .int _ _, trivial⟩ ?_ (hnext _)
              refine ⟨hlow7, dobj_low _ _ _, lowO_mono (Nat.zero_le _) low_zcell, lowC ⟨.vec _ _ _ _ _ (by decide : 0 < 7), trivial⟩, lowC ⟨.lst _ _ trivial (low_tas 7 l), trivial⟩, trivial, lowC ⟨.int _ _, .str _, .lst _ _ trivial low0, .lst _ _ (dtok_low (by decide : 1 < 7)) ?_, trivial⟩, trivial⟩
              intro x hx
              have : x ∈ TA.avs ((Z.map (·.1)).take (k + 1)) := by rw [htk]; exact hx
              exact low_tas 7 _ x this
            · rfl
        subst hm
        exact inv_of [(2, .ptr 2 0), (5, .ptr 6 0), (34, .vec 0 n 5 0 Z.length), (35, .int .i64 Z.length), (36, .int .i64 0)] ⟨rfl, rfl, rfl, rfl, rfl, trivial⟩ (key Z.length 0 _ rfl (Nat.zero_le _))
      · obtain ⟨z, rfl⟩ := List.length_eq_one_iff.1 (show Z.length = 1 by simp at hZ; omega)
        have hR : unionT l = z.1 := hR
        rw [hR]
        conv => whnf
        refine ⟨⟨Int.le_refl _, by simp, rfl⟩, ?_⟩
        conv => whnf
        obtain ⟨⟨zk, zn, zs, zl⟩, zt⟩ := z
        rw [show (0 + (0 : Int).toNat) * 5 + 0 = 0 * 5 from rfl, load_kv4 (t := 306) (i := 0) (x := kv (.mk zk zn zs zl, zt)) ?_ h5 rfl]
        · conv => whnf
          exact ret_weak (Weak.refl _)
        · rfl

end Go.Ag
/- Package types: Norm, Text, Join. -/
set_option linter.unusedVariables false
namespace Go.Ag
open Go

variable {T : Tab} {L : Lnk}

mutual
def normT : TA → TA
  | .mk k nm ns l => if k = 7 then unionT (normL l) else .mk k nm ns (normL l)
def normL : List TA → List TA
  | [] => []
  | t :: l => normT t :: normL l
end
theorem normL_map (l : List TA) : normL l = l.map normT := by
  induction l with
  | nil => rw [normL]; rfl
  | cons t l ih => rw [normL, ih]; rfl

mutual
def okN : TA → Prop
  | .mk k nm ns l => l.length ≤ 2 ^ 30 ∧ ns.length ≤ 2 ^ 40 ∧ okNL l ∧ (k = 7 → PartsOK (normL l))
def okNL : List TA → Prop
  | [] => True
  | t :: l => okN t ∧ okNL l
end
theorem okNL_mem : ∀ {l : List TA} {t : TA}, okNL l → t ∈ l → okN t
  | [], t, _, h => by cases h
  | u :: l, t, h, hm => by
    rw [okNL] at h
    rcases List.mem_cons.1 hm with rfl | hm
    · exact h.1
    · exact okNL_mem h.2 hm

theorem norm_spec (F : TypFns T) : ∀ (n : Nat) (t : TA), wtT t < n → okN t → Pure T.L 186 [t.av] (normT t).av
  | 0 => fun t h => by omega
  | n + 1 => fun t hlt hok => by
    have ih := norm_spec F n
    obtain ⟨k, nm, ns, l⟩ := t
    rw [okN] at hok
    have hlen := hok.1
    refine Pure.runD 1 (low1 (low_ta _ _)) (low_ta _ _) (acallsG F.h186 (by simp [c_186]) ?_)
    obtain ⟨R, hR⟩ : ∃ R, normT (.mk k nm ns l) = R := ⟨_, rfl⟩
    rw [hR]
    rw [normT] at hR
    conv => whnf
    intro I hI hG
    have key : ∀ (d j : Nat) (e : Env), l.length - j = d → j ≤ l.length → I (setL e [(1, .ptr 1 0), (2, .ptr 2 0), (3, .lst (TA.avs ((normL l).take j)) (dtok (TA.avs ((normL l).take j)).length 0)), (7, .lst (TA.avs l) .none), (8, .int .i64 l.length), (9, .int .i64 j)])
        [dobj (TA.avs ((normL l).take j)).length 175, tcell (.mk k nm ns l), zcell] := by
      intro d
      induction d with
      | zero =>
        intro j e hd hj
        have hjl : j = l.length := by omega
        have hnl : (normL l).length = l.length := by rw [normL_map]; simp
        apply hI
        conv => whnf
        rw [lt_false (by omega)]
        conv => whnf
        rw [show (normL l).take j = normL l from List.take_of_length_le (by omega)]
        cases hk : (k == 7)
        · rw [if_neg (by simpa using hk)] at hR
          subst hR
          conv => whnf
          refine (F.tlib.clone ns hok.2.1).to ?_
          conv => whnf
          refine ⟨⟨rfl, rfl, trivial⟩, ?_⟩
          conv => whnf
          refine ret_weak ?_
          rw [TA.av]
          exact Weak.agg ⟨Weak.refl _, Weak.refl _, Weak.refl _, Weak.tok _ _, trivial⟩
        · rw [if_pos (by simpa using hk)] at hR
          subst hR
          have hu := union_spec F (normL l) (hok.2.2.2 (by simpa using hk))
          obtain ⟨⟨uk, un, us, ul⟩, hU⟩ : ∃ U, unionT (normL l) = U := ⟨_, rfl⟩
          rw [hU] at hu ⊢
          conv => whnf
          refine (hu.weak (args := [.lst (TA.avs (normL l)) (dtok (TA.avs (normL l)).length 0)]) ⟨Weak.tok _ _, trivial⟩).to ?_
          conv => whnf
          exact ret_weak (Weak.refl _)
      | succ d ihd =>
        intro j e hd hj
        have hjl : j < l.length := by omega
        have hnext := fun e => ihd (j + 1) e (by omega) hjl
        have hmem := List.getElem_mem hjl
        have hwt := wtL_mem hmem
        have hnj : (normL l).take (j + 1) = (normL l).take j ++ [normT l[j]] := by
          rw [normL_map, List.take_succ_eq_append_getElem (by simpa using hjl), List.getElem_map]
        have hcall := ih l[j] (by rw [wtT] at hlt; omega) (okNL_mem hok.2.2.1 hmem)
        have hget := tas_at' hjl
        rw [hnj, tas_append] at hnext
        have hlk : (TA.avs ((normL l).take j)).length = j := by rw [tas_len, normL_map]; simp; omega
        have hsz := sized_tas ((normL l).take j)
        have hlY := low_tas 3 ((normL l).take j)
        generalize TA.avs ((normL l).take j) = YS at hnext hlk hsz hlY ⊢
        generalize normT l[j] = u at hcall hnext
        generalize l[j] = v at hcall hget
        obtain ⟨uk, un, us, ul⟩ := u
        obtain ⟨vk, vn, vs, vl⟩ := v
        apply hI
        conv => whnf
        rw [lt_true hjl]
        conv => whnf
        refine step_elem (Int.natCast_nonneg _) hget rfl ?_
        conv => whnf
        refine hcall.to ?_
        conv => whnf
        refine app_slot (id := 0) hsz (sized_one rfl) (by simp [hlk]; omega) (by simp [hlk]; omega) (by simp) rfl ?_
        conv => whnf
        have hlU : ∀ x ∈ YS ++ TA.avs [.mk uk un us ul], Low 3 x := fun x hx => by
          rcases List.mem_append.1 hx with hx | hx
          · exact hlY x hx
          · exact low_tas 3 _ x hx
        exact hG.keep [(1, .ptr 1 0), (2, .ptr 2 0), (3, .lst (YS ++ TA.avs [.mk uk un us ul]) (dtok (YS ++ TA.avs [.mk uk un us ul]).length 0)), (7, .lst (TA.avs l) .none), (8, .int .i64 l.length), (9, .int .i64 (j + 1 : Nat))]
          [dobj (YS ++ TA.avs [.mk uk un us ul]).length 175, tcell (.mk k nm ns l), zcell] (Nat.le_refl 3) rfl ⟨rfl, rfl, rfl, rfl, rfl, add1 (by omega), trivial⟩
          ⟨.ptr _ _ (by decide : 1 < 3), .ptr _ _ (by decide : 2 < 3), .lst _ _ (dtok_low (by decide : 0 < 3)) hlU, .lst _ _ trivial (low_tas 3 l), .int _ _, .int _ _, trivial⟩
          ⟨dobj_low _ _ _, lowO_mono (Nat.zero_le _) (low_tcell _), lowO_mono (Nat.zero_le _) low_zcell, trivial⟩ (hnext _)
    exact inv_of [(1, .ptr 1 0), (2, .ptr 2 0), (3, .lst [] .nil), (7, .lst (TA.avs l) .none), (8, .int .i64 l.length), (9, .int .i64 0)] ⟨rfl, rfl, rfl, rfl, by show AVal.int .i64 ((TA.avs l).length : Nat) = _; rw [tas_len], rfl, trivial⟩ (key l.length 0 _ rfl (Nat.zero_le _))

theorem Norm_spec (F : TypFns T) (t : TA) (h : okN t) : Pure T.L 186 [t.av] (normT t).av := norm_spec F (wtT t + 1) t (Nat.lt_succ_self _) h

theorem Text_spec (F : TypFns T) (t : TA) (h : okN t) (hw : wtT (normT t) ≤ 2 ^ 40) (hf : wfT (normT t)) : Pure T.L 150 [t.av] (.str (prT (normT t) 0)) := by
  have h1 := Norm_spec F t h
  have h2 := Type_prT F.toPriFns (normT t) hw hf
  generalize normT t = u at h1 h2 ⊢
  obtain ⟨uk, un, us, ul⟩ := u
  obtain ⟨k, nm, ns, l⟩ := t
  refine Pure.run (low1 (low_ta _ _)) (.str _) (acallsG F.h150 (by simp [c_150]) ?_)
  conv => whnf
  refine h1.to ?_
  conv => whnf
  refine h2.to ?_
  conv => whnf
  exact ret_weak (Weak.refl _)

def joinT (l : List TA) : TA := normT (.mk 7 [] [] l)
theorem Join_spec (F : TypFns T) (l : List TA) (h : okN (.mk 7 [] [] l)) : Pure T.L 151 [.lst (TA.avs l) .none] (joinT l).av := by
  have h1 := (Norm_spec F _ h).weak (args := [.agg [.int .i64 7, .str [], .lst [] .nil, .lst (TA.avs l) .none]]) ⟨Weak.agg ⟨Weak.refl _, Weak.refl _, Weak.tok _ _, Weak.refl _, trivial⟩, trivial⟩
  unfold joinT
  generalize normT (.mk 7 [] [] l) = u at h1 ⊢
  obtain ⟨uk, un, us, ul⟩ := u
  refine Pure.run (low1 (.lst _ _ trivial (low_tas 0 l))) (low_ta _ _) (acallsG F.h151 (by simp [c_151]) ?_)
  conv => whnf
  refine h1.to ?_
  conv => whnf
  exact ret_weak (Weak.refl _)

end Go.Ag
