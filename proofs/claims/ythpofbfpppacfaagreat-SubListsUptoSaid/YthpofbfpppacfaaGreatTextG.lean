/- Our texts, joined by a program of ours (join.py): part 7 of 8. -/
import Derived.Test.YthpofbfpppacfaaGreatTextF
import Derived.KernelRfl
/- How much good types are; that they can be made normal. -/
set_option linter.unusedVariables false
namespace Go.Ag
open Go

theorem wtL_sum (l : List TA) : wtL l = (l.map fun t => wtT t + 8).sum := by
  induction l with
  | nil => rfl
  | cons t l ih => rw [wtL, List.map_cons, List.sum_cons, ih]
theorem wtL_append (l m : List TA) : wtL (l ++ m) = wtL l + wtL m := by simp [wtL_sum]
theorem wt_l (t : TA) : wtL t.l + 16 ≤ wtT t := by obtain ⟨k, nm, ns, l⟩ := t; rw [wtT]; simp only [TA.l]; omega
theorem wt_parts (t : TA) : wtL (partsT t) ≤ wtT t + 8 := by
  unfold partsT
  have := wt_l t
  split
  · omega
  · rw [wtL, wtL]; omega
theorem wt_flat (l : List TA) : wtL (flatT l) ≤ wtL l := by
  induction l with
  | nil => exact Nat.le_refl _
  | cons t l ih =>
    have h1 : flatT (t :: l) = partsT t ++ flatT l := by unfold flatT; rw [List.flatMap_cons]
    rw [h1, wtL_append, wtL]
    have := wt_parts t
    omega
theorem dedGo_sub {α : Type} : ∀ (l : List (α × Bytes)) (p : Bytes), (dedGo p l).Sublist l
  | [], p => by simp [dedGo]
  | x :: l, p => by
    rw [dedGo]
    have := dedGo_sub l x.2
    split
    · exact this.cons _
    · exact this.cons_cons _
theorem dedK_sub {α : Type} (l : List (α × Bytes)) : (dedK l).Sublist l := by
  cases l with
  | nil => simp [dedK]
  | cons x l => exact (dedGo_sub l x.2).cons_cons _
theorem sum_sublist {α : Type} (f : α → Nat) {l m : List α} (h : l.Sublist m) : (l.map f).sum ≤ (m.map f).sum := by
  induction h with
  | slnil => exact Nat.le_refl _
  | cons x h ih => rw [List.map_cons, List.sum_cons]; omega
  | cons_cons x h ih => rw [List.map_cons, List.map_cons, List.sum_cons, List.sum_cons]; omega
theorem wt_partsU (l : List TA) : wtL (partsU l) ≤ wtL l := by
  unfold partsU
  rw [wtL_sum, List.map_map]
  have h1 := sum_sublist (fun p : TA × Bytes => wtT p.1 + 8) (dedK_sub (sortP (keyT l)))
  have h2 := ((sortP_perm (keyT l)).map fun p : TA × Bytes => wtT p.1 + 8).sum_nat
  have h3 : ((keyT l).map fun p : TA × Bytes => wtT p.1 + 8).sum = wtL l := by
    unfold keyT
    rw [List.map_map, wtL_sum]; rfl
  have h4 : ((dedK (sortP (keyT l))).map ((fun t => wtT t + 8) ∘ fun x => x.1)).sum = ((dedK (sortP (keyT l))).map fun p : TA × Bytes => wtT p.1 + 8).sum := rfl
  omega
theorem wt_unionT (l : List TA) : wtT (unionT l) ≤ 16 + wtL l := by
  rw [unionT_eq]
  have hf := wt_flat l
  split
  · rename_i t h
    have := wtL_mem (List.mem_of_find?_eq_some h)
    omega
  · have hp := wt_partsU (flatT l)
    generalize partsU (flatT l) = m at hp
    match m with
    | [] => simp only [unionP]; rw [wtT]; simp [wtL]
    | [t] => simp only [unionP]; rw [wtL, wtL] at hp; omega
    | t :: u :: m => simp only [unionP]; rw [wtT]; simp only [List.length_nil, List.map_nil, List.sum_nil]; omega
theorem wt_norm : ∀ (n : Nat) (t : TA), wtT t ≤ n → wtT (normT t) ≤ wtT t
  | 0, t, h => by have := wt_l t; omega
  | n + 1, t, h => by
    have ih := wt_norm n
    obtain ⟨k, nm, ns, l⟩ := t
    rw [wtT] at h
    have hl : wtL (normL l) ≤ wtL l := by
      have hm : ∀ t ∈ l, wtT t ≤ n := fun t ht => by have := wtL_mem ht; omega
      clear h
      induction l with
      | nil => rw [normL]; exact Nat.le_refl _
      | cons t l ihl =>
        rw [normL, wtL, wtL]
        have h1 := ih t (hm t (by simp))
        have h2 := ihl fun x hx => hm x (by simp [hx])
        omega
    rw [normT]
    split
    · have := wt_unionT (normL l)
      rw [wtT]; omega
    · rw [wtT, wtT]; omega
theorem wt_normT (t : TA) : wtT (normT t) ≤ wtT t := wt_norm _ t (Nat.le_refl _)
theorem wt_normL (l : List TA) : wtL (normL l) ≤ wtL l := by
  induction l with
  | nil => rw [normL]; exact Nat.le_refl _
  | cons t l ih => rw [normL, wtL, wtL]; have := wt_normT t; omega

theorem ns_le (ns : List Bytes) : ns.length ≤ (ns.map fun n => n.length + 4).sum := by
  induction ns with
  | nil => exact Nat.le_refl _
  | cons n ns ih => rw [List.map_cons, List.sum_cons, List.length_cons]; omega

theorem parts_ok {l : List TA} (h : ∀ t ∈ l, NT t) (hl : l.length ≤ 2 ^ 30) (hp : ∀ t ∈ l, wtT t ≤ 2 ^ 30) (ha : (flatT l).length ≤ 2 ^ 30) : PartsOK l := by
  have hm : ∀ t ∈ flatT l, ∃ u ∈ l, wtT t ≤ wtT u + 8 := fun t ht => by
    obtain ⟨u, hu, hx⟩ := flatT_mem.1 ht
    have h1 := wtL_mem hx
    have h2 := wt_parts u
    exact ⟨u, hu, by omega⟩
  refine ⟨hl, fun t ht => ?_, ha, fun t ht => ?_, fun t ht => (flatT_nt h t ht).1.wf, fun a ha b hb e => (flatT_nt h a ha).1.inj (flatT_nt h b hb).1 e⟩
  · have h1 := hp t ht
    have h2 := wt_l t
    have h3 := len_wtL t.l
    omega
  · obtain ⟨u, hu, h1⟩ := hm t ht
    have := hp u hu
    omega

theorem okN_gt {t : TA} (h : GT t) : wtT t ≤ 2 ^ 30 → okN t := by
  have hL : ∀ {l : List TA}, (∀ t ∈ l, okN t) → okNL l := fun {l} hl => by
    induction l with
    | nil => trivial
    | cons x l ih => exact ⟨hl x (by simp), ih fun t ht => hl t (by simp [ht])⟩
  have hlt : ∀ {l : List TA} {t : TA} {n : Nat}, t ∈ l → wtL l ≤ n → wtT t ≤ n := fun ht hn => by have := wtL_mem ht; omega
  induction h with
  | int => intro _; exact ⟨by simp, by simp, trivial, fun h => by cases h⟩
  | bool => intro _; exact ⟨by simp, by simp, trivial, fun h => by cases h⟩
  | text => intro _; exact ⟨by simp, by simp, trivial, fun h => by cases h⟩
  | dyn => intro _; exact ⟨by simp, by simp, trivial, fun h => by cases h⟩
  | ref nm hn => intro _; exact ⟨by simp, by simp, trivial, fun h => by cases h⟩
  | rcd ns l hs hl hn h ih =>
    intro hw
    rw [wtT] at hw
    have h1 := len_wtL l
    have h2 := ns_le ns
    exact ⟨by omega, by omega, hL fun t ht => ih t ht (hlt ht (by omega)), fun h => by cases h⟩
  | fn a b ha hb iha ihb =>
    intro hw
    rw [wtT, wtL, wtL, wtL] at hw
    exact ⟨by simp, by simp, ⟨iha (by omega), ihb (by omega), trivial⟩, fun h => by cases h⟩
  | uni l h0 h ih =>
    intro hw
    rw [wtT] at hw
    have h1 := len_wtL l
    have h3 := wt_normL l
    have h4 := wt_flat (normL l)
    have h5 := len_wtL (flatT (normL l))
    refine ⟨by omega, by simp, hL fun t ht => ih t ht (hlt ht (by omega)), fun _ => parts_ok (fun t ht => ?_) (by rw [normL_map, List.length_map]; omega) (fun t ht => hlt ht (by omega)) (by omega)⟩
    rw [normL_map] at ht
    obtain ⟨u, hu, rfl⟩ := List.mem_map.1 ht
    exact normT_nt (h u hu)
theorem okN_many {l : List TA} (h : ∀ t ∈ l, NT t) (hl : l.length ≤ 2 ^ 30) (hw : ∀ t ∈ l, wtT t ≤ 2 ^ 30) (ha : (flatT l).length ≤ 2 ^ 30) : okN (.mk 7 [] [] l) := by
  have hL : ∀ {l : List TA}, (∀ t ∈ l, okN t) → okNL l := fun {l} hl => by
    induction l with
    | nil => trivial
    | cons x l ih => exact ⟨hl x (by simp), ih fun t ht => hl t (by simp [ht])⟩
  have e1 : normL l = l := by rw [normL_map]; exact (List.map_congr_left (g := id) fun t ht => normT_id (h t ht)).trans (List.map_id l)
  exact ⟨hl, by simp, hL fun t ht => okN_gt (h t ht).gt (hw t ht), fun _ => by rw [e1]; exact parts_ok h hl hw ha⟩

theorem join_heads {l : List TA} (h : ∀ t ∈ l, NT t ∧ t.kind ≠ 7) (h0 : l ≠ []) :
    joinT l = (match l.find? (fun t => t.kind == 4) with
      | some t => t
      | none => unionP (partsU l)) := by
  unfold joinT
  have e1 : normL l = l := by rw [normL_map]; exact (List.map_congr_left (g := id) fun t ht => normT_id (h t ht).1).trans (List.map_id l)
  rw [normT, if_pos rfl, e1, unionT_eq, flatT_id fun t ht => (h t ht).2]
  rfl

def headsOf (l : List TA) : List TA := if l.any (fun t => t.kind == 4) then [dynT] else partsU l
theorem heads_join {l : List TA} (h : ∀ t ∈ l, NT t ∧ t.kind ≠ 7) (h0 : l ≠ []) : headsT (joinT l) = headsOf l := by
  have hj := join_heads h h0
  unfold headsOf
  cases hd : l.find? (fun t => t.kind == 4) with
  | some t =>
    rw [hd] at hj
    have h4 : t.kind = 4 := by simpa using List.find?_some (p := fun t : TA => t.kind == 4) hd
    have hm := List.mem_of_find?_eq_some hd
    have := (h t hm).1.dyn_eq h4
    subst this
    rw [if_pos (List.any_eq_true.2 ⟨dynT, hm, rfl⟩), hj]
    rfl
  | none =>
    rw [hd] at hj
    have hj : joinT l = unionP (partsU l) := hj
    have hn : l.any (fun t => t.kind == 4) = false := by
      rw [List.any_eq_false]
      exact List.find?_eq_none.1 hd
    rw [hn, if_neg (by simp), hj]
    have hmem : ∀ t ∈ partsU l, t.kind ≠ 7 := fun t ht => (h t (partsU_mem ht)).2
    have hne := partsU_ne h0
    generalize partsU l = m at hmem hne
    unfold headsT
    match m, hne with
    | [t], _ => exact if_neg (hmem t (by simp))
    | t :: u :: m, _ => rfl
theorem headsOf_mem {l : List TA} {t : TA} (h : t ∈ headsOf l) : t = dynT ∨ t ∈ l := by
  unfold headsOf at h
  split at h
  · rw [List.mem_singleton] at h; exact .inl h
  · exact .inr (partsU_mem h)

end Go.Ag
/- The judge's answer, in plain Lean: it holds just if some sound relation holds. -/
set_option linter.unusedVariables false
namespace Go.Ag
open Go

section
variable (G : TA → Prop) (hd : TA → List TA) (tx : TA → Bytes) (loose : Bool)

def BodyR (R : TA → TA → Prop) (x y : TA) : Prop :=
  if x.kind = 5 then ∀ p ∈ y.names.zip y.l, p.1 ∈ x.names ∧ R (x.l[lowI x.names p.1]?.getD default) p.2
  else ∃ x0 x1 y0 y1, x.l = [x0, x1] ∧ y.l = [y0, y1] ∧ R y0 x0 ∧ R x1 y1
def UndR (B : TA → TA → Prop) (x y : TA) : Prop :=
  ((x.kind = 4 ∨ y.kind = 4) ∧ (loose || x.kind == y.kind) = true) ∨ (¬ (x.kind = 4 ∨ y.kind = 4) ∧ x.kind = y.kind ∧ ((x.kind ≠ 5 ∧ x.kind ≠ 6) ∨ B x y))
def HeadsR (B : TA → TA → Prop) (a b : TA) : Prop := ∀ x ∈ hd a, ∃ y ∈ hd b, UndR loose B x y

def SoundR (R : TA → TA → Prop) : Prop := ∀ a b, R a b → G a ∧ G b ∧ HeadsR hd loose (BodyR R) a b
def LE (a b : TA) : Prop := ∃ R, SoundR G hd loose R ∧ R a b

def onP (P : List (Bytes × Bytes)) (x y : TA) : Prop := (tx x, tx y) ∈ P
def JustP (P : List (Bytes × Bytes)) (π : Bytes × Bytes) : Prop :=
  ∃ a b x y, G a ∧ G b ∧ x ∈ hd a ∧ y ∈ hd b ∧ π = (tx x, tx y) ∧ BodyR (HeadsR hd loose (onP tx P)) x y
end

theorem BodyR.mono {R R' : TA → TA → Prop} (h : ∀ a b, R a b → R' a b) {x y : TA} (hb : BodyR R x y) : BodyR R' x y := by
  unfold BodyR at hb ⊢
  split at hb
  · rename_i h5
    rw [if_pos h5]
    exact fun p hp => ⟨(hb p hp).1, h _ _ (hb p hp).2⟩
  · rename_i h5
    rw [if_neg h5]
    obtain ⟨x0, x1, y0, y1, e1, e2, h1, h2⟩ := hb
    exact ⟨x0, x1, y0, y1, e1, e2, h _ _ h1, h _ _ h2⟩
theorem UndR.mono {loose : Bool} {B B' : TA → TA → Prop} {x y : TA} (h : B x y → B' x y) (hu : UndR loose B x y) : UndR loose B' x y := by
  rcases hu with h1 | ⟨h1, h2, h3⟩
  · exact .inl h1
  · exact .inr ⟨h1, h2, h3.imp id h⟩
theorem HeadsR.mono {hd : TA → List TA} {loose : Bool} {B B' : TA → TA → Prop} (h : ∀ x y, B x y → B' x y) {a b : TA} (hh : HeadsR hd loose B a b) : HeadsR hd loose B' a b := fun x hx =>
  let ⟨y, hy, hu⟩ := hh x hx
  ⟨y, hy, hu.mono (h x y)⟩

variable {G : TA → Prop} {hd : TA → List TA} {tx : TA → Bytes} {loose : Bool}

theorem JustP.mono {P P' : List (Bytes × Bytes)} (h : ∀ π ∈ P, π ∈ P') {π : Bytes × Bytes} (hj : JustP G hd tx loose P π) : JustP G hd tx loose P' π := by
  obtain ⟨a, b, x, y, h1, h2, h3, h4, h5, h6⟩ := hj
  exact ⟨a, b, x, y, h1, h2, h3, h4, h5, h6.mono fun _ _ hh => hh.mono fun x y hp => h _ hp⟩

def Grows (G : TA → Prop) (hd : TA → List TA) (tx : TA → Bytes) (loose : Bool) (S S' : TrS) : Prop :=
  S'.ok ∧ ∃ z, S'.cur = S.cur ++ z ∧ ∀ π ∈ z, JustP G hd tx loose S'.cur π
theorem Grows.refl {S : TrS} (h : S.ok) : Grows G hd tx loose S S := ⟨h, [], by simp, fun π hp => by cases hp⟩
theorem Grows.sub {S S' : TrS} (h : Grows G hd tx loose S S') : ∀ π ∈ S.cur, π ∈ S'.cur := fun π hp => by
  obtain ⟨_, z, e, _⟩ := h
  rw [e]; exact List.mem_append_left _ hp
theorem Grows.trans {S S' S'' : TrS} (h : Grows G hd tx loose S S') (h' : Grows G hd tx loose S' S'') : Grows G hd tx loose S S'' := by
  have hs := h'.sub
  obtain ⟨o1, z, e1, j1⟩ := h
  obtain ⟨o2, z', e2, j2⟩ := h'
  refine ⟨o2, z ++ z', by rw [e2, e1, List.append_assoc], fun π hp => ?_⟩
  rcases List.mem_append.1 hp with hp | hp
  · exact (j1 π hp).mono hs
  · exact j2 π hp

theorem cur_len {S : TrS} (h : S.ok) : S.cur.length = S.len := by unfold TrS.cur; rw [List.length_take]; have := h.1; omega
theorem push_cur {S : TrS} (h : S.ok) (p : Bytes × Bytes) : (S.push p).cur = S.cur ++ [p] := by
  obtain ⟨v, xs, len⟩ := S
  obtain ⟨h1, h2⟩ := h
  cases v with
  | zero =>
    have : len = 0 := h2 rfl
    subst this
    rfl
  | succ v =>
    show (xs.take len ++ [p]).take (len + 1) = xs.take len ++ [p]
    have h1 : len ≤ xs.length := h1
    rw [List.take_of_length_le]
    simp; omega
theorem cut_cur {S S' : TrS} (h : S.ok) {z : List (Bytes × Bytes)} (e : S'.cur = S.cur ++ z) (hok : S'.ok) : S.len ≤ S'.len ∧ (S'.cut S.len).cur = S.cur := by
  have l1 := cur_len h
  have l2 := cur_len hok
  rw [e, List.length_append, l1] at l2
  refine ⟨by omega, ?_⟩
  show S'.xs.take S.len = S.cur
  have : S'.cur.take S.len = S.cur := by rw [e, ← l1, List.take_left]
  rw [← this]
  unfold TrS.cur
  rw [List.take_take]
  congr 1; omega

structure AskedOK (G : TA → Prop) (hd : TA → List TA) (tx : TA → Bytes) (loose : Bool) (rel : TrS → TA → TA → Option (Bool × TrS)) : Prop where
  grows : ∀ S a b r S', S.ok → G a → G b → rel S a b = some (r, S') → Grows G hd tx loose S S'
  yes : ∀ S a b S', S.ok → G a → G b → rel S a b = some (true, S') → HeadsR hd loose (onP tx S'.cur) a b
  no : ∀ S a b S', S.ok → G a → G b → rel S a b = some (false, S') → ¬ LE G hd loose a b

theorem foldO_run {σ α : Type} {st : σ → α → Option (Bool × σ)} {I : σ → Prop} {Gr : σ → σ → Prop} (hr : ∀ s, I s → Gr s s) (ht : ∀ a b c, Gr a b → Gr b c → Gr a c) : ∀ (l : List α), (∀ s x b s', x ∈ l → I s → st s x = some (b, s') → I s' ∧ Gr s s') → ∀ s b s', I s → foldO st s l = some (b, s') →
    I s' ∧ Gr s s' ∧ (b = true → ∀ x ∈ l, ∃ s1 s2, I s1 ∧ st s1 x = some (true, s2) ∧ Gr s2 s') ∧ (b = false → ∃ x ∈ l, ∃ s1, I s1 ∧ st s1 x = some (false, s'))
  | [], _, s, b, s', h, e => by cases e; exact ⟨h, hr _ h, fun _ x hx => (by cases hx), fun h => (by cases h)⟩
  | x :: l, hs, s, b, s', h, e => by
    rw [foldO] at e
    cases hq : st s x with
    | none => rw [hq] at e; cases e
    | some q =>
      obtain ⟨c, s2⟩ := q
      rw [hq] at e
      obtain ⟨i2, g2⟩ := hs s x c s2 (by simp) h hq
      cases c
      · cases e
        exact ⟨i2, g2, fun h => (by cases h), fun _ => ⟨x, by simp, s, h, hq⟩⟩
      · obtain ⟨i3, g3, y3, n3⟩ := foldO_run hr ht l (fun s x b s' hx => hs s x b s' (by simp [hx])) s2 b s' i2 e
        refine ⟨i3, ht _ _ _ g2 g3, fun hb z hz => ?_, fun hb => ?_⟩
        · rcases List.mem_cons.1 hz with rfl | hz
          · exact ⟨s, s2, h, hq, g3⟩
          · exact y3 hb z hz
        · obtain ⟨z, hz, rest⟩ := n3 hb
          exact ⟨z, by simp [hz], rest⟩
theorem anyO_run {σ α : Type} {st : σ → α → Option (Bool × σ)} {I : σ → Prop} {Gr : σ → σ → Prop} (hr : ∀ s, I s → Gr s s) (ht : ∀ a b c, Gr a b → Gr b c → Gr a c) : ∀ (l : List α), (∀ s x b s', x ∈ l → I s → st s x = some (b, s') → I s' ∧ Gr s s') → ∀ s b s', I s → anyO st s l = some (b, s') →
    I s' ∧ Gr s s' ∧ (b = true → ∃ x ∈ l, ∃ s1, I s1 ∧ st s1 x = some (true, s')) ∧ (b = false → ∀ x ∈ l, ∃ s1 s2, I s1 ∧ st s1 x = some (false, s2))
  | [], _, s, b, s', h, e => by cases e; exact ⟨h, hr _ h, fun h => (by cases h), fun _ x hx => by cases hx⟩
  | x :: l, hs, s, b, s', h, e => by
    rw [anyO] at e
    cases hq : st s x with
    | none => rw [hq] at e; cases e
    | some q =>
      obtain ⟨c, s2⟩ := q
      rw [hq] at e
      obtain ⟨i2, g2⟩ := hs s x c s2 (by simp) h hq
      cases c
      · obtain ⟨i3, g3, y3, n3⟩ := anyO_run hr ht l (fun s x b s' hx => hs s x b s' (by simp [hx])) s2 b s' i2 e
        refine ⟨i3, ht _ _ _ g2 g3, fun hb => ?_, fun hb z hz => ?_⟩
        · obtain ⟨z, hz, rest⟩ := y3 hb
          exact ⟨z, by simp [hz], rest⟩
        · rcases List.mem_cons.1 hz with rfl | hz
          · exact ⟨s, s2, h, hq⟩
          · exact n3 hb z hz
      · cases e
        exact ⟨i2, g2, fun _ => ⟨x, by simp, s, h, hq⟩, fun h => by cases h⟩

structure HeadsOK (G : TA → Prop) (hd : TA → List TA) : Prop where
  sub : ∀ t, G t → ∀ h ∈ hd t, ∀ x ∈ h.l, G x
  fn : ∀ t, G t → ∀ h ∈ hd t, h.kind = 6 → ∃ a b, h.l = [a, b]
  rcd : ∀ t, G t → ∀ h ∈ hd t, h.kind = 5 → h.names.length = h.l.length ∧ h.names.Pairwise (· < ·)

theorem HeadsOK.at {G : TA → Prop} {hd : TA → List TA} (H : HeadsOK G hd) {t h : TA} (ht : G t) (hh : h ∈ hd t) (h5 : h.kind = 5) {nm : Bytes} (hm : nm ∈ h.names) : G (h.l[lowI h.names nm]?.getD default) := by
  obtain ⟨h1, h2⟩ := H.rcd t ht h hh h5
  have h3 := (lowI_has h2).2 hm
  have h4 := (List.getElem?_eq_some_iff.1 h3).1
  have h6 : lowI h.names nm < h.l.length := by omega
  rw [List.getElem?_eq_getElem h6]
  exact H.sub t ht h hh _ (List.getElem_mem h6)

theorem recG_run {rel : TrS → TA → TA → Option (Bool × TrS)} (A : AskedOK G hd tx loose rel) (H : HeadsOK G hd) {a b x y : TA} (ha : G a) (hb : G b) (hx : x ∈ hd a) (hy : y ∈ hd b) (h5 : x.kind = 5) {S : TrS} {r : Bool} {S' : TrS} (hS : S.ok) (h : recG rel S x y = some (r, S')) :
    Grows G hd tx loose S S' ∧ (r = true → BodyR (HeadsR hd loose (onP tx S'.cur)) x y) ∧ (r = false → ¬ BodyR (LE G hd loose) x y) := by
  have hstep : ∀ s p b' s', p ∈ y.names.zip y.l → TrS.ok s → (if p.1 ∈ x.names then rel s (x.l[lowI x.names p.1]?.getD default) p.2 else some (false, s)) = some (b', s') → TrS.ok s' ∧ Grows G hd tx loose s s' := fun s p b' s' hp hs he => by
    split at he
    · rename_i hm
      have hg := A.grows _ _ _ _ _ hs (H.at ha hx h5 hm) (H.sub b hb y hy _ (List.of_mem_zip hp).2) he
      exact ⟨hg.1, hg⟩
    · cases he; exact ⟨hs, Grows.refl hs⟩
  obtain ⟨_, hg, hyes, hno⟩ := foldO_run (I := TrS.ok) (Gr := Grows G hd tx loose) (fun s hs => Grows.refl hs) (fun _ _ _ h h' => h.trans h') _ hstep _ _ _ hS h
  refine ⟨hg, fun hr => ?_, fun hr hbody => ?_⟩
  · unfold BodyR
    rw [if_pos h5]
    intro p hp
    obtain ⟨s1, s2, i1, e1, g1⟩ := hyes hr p hp
    split at e1
    · rename_i hm
      exact ⟨hm, (A.yes _ _ _ _ i1 (H.at ha hx h5 hm) (H.sub b hb y hy _ (List.of_mem_zip hp).2) e1).mono fun x y hp => g1.sub _ hp⟩
    · cases e1
  · unfold BodyR at hbody
    rw [if_pos h5] at hbody
    obtain ⟨p, hp, s1, i1, e1⟩ := hno hr
    obtain ⟨hm, hle⟩ := hbody p hp
    rw [if_pos hm] at e1
    exact A.no _ _ _ _ i1 (H.at ha hx h5 hm) (H.sub b hb y hy _ (List.of_mem_zip hp).2) e1 hle

theorem funG_run {rel : TrS → TA → TA → Option (Bool × TrS)} (A : AskedOK G hd tx loose rel) (H : HeadsOK G hd) {a b x y : TA} (ha : G a) (hb : G b) (hx : x ∈ hd a) (hy : y ∈ hd b) (h5 : ¬ x.kind = 5) {S : TrS} {r : Bool} {S' : TrS} (hS : S.ok) (h : funG rel S x y = some (r, S')) :
    Grows G hd tx loose S S' ∧ (r = true → BodyR (HeadsR hd loose (onP tx S'.cur)) x y) ∧ (r = false → ¬ BodyR (LE G hd loose) x y) := by
  unfold funG at h
  split at h
  · rename_i y0 y1 x0 x1 ey ex
    have g0 : G x0 := H.sub a ha x hx _ (by rw [ex]; simp)
    have g1 : G x1 := H.sub a ha x hx _ (by rw [ex]; simp)
    have k0 : G y0 := H.sub b hb y hy _ (by rw [ey]; simp)
    have k1 : G y1 := H.sub b hb y hy _ (by rw [ey]; simp)
    have hno : ¬ (LE G hd loose y0 x0 ∧ LE G hd loose x1 y1) → ¬ BodyR (LE G hd loose) x y := fun hn hbody => by
      unfold BodyR at hbody
      rw [if_neg h5] at hbody
      obtain ⟨_, _, _, _, e1, e2, h1, h2⟩ := hbody
      rw [ex] at e1
      rw [ey] at e2
      cases e1; cases e2
      exact hn ⟨h1, h2⟩
    split at h
    · cases h
    · rename_i hq
      cases h
      exact ⟨A.grows _ _ _ _ _ hS k0 g0 hq, fun h => (by cases h), fun _ => hno fun hh => A.no _ _ _ _ hS k0 g0 hq hh.1⟩
    · rename_i S2 hq
      have hg := A.grows _ _ _ _ _ hS k0 g0 hq
      have hg2 := A.grows _ _ _ _ _ hg.1 g1 k1 h
      refine ⟨hg.trans hg2, fun hr => ?_, fun hr => hno fun hh => ?_⟩
      · subst hr
        unfold BodyR
        rw [if_neg h5]
        exact ⟨x0, x1, y0, y1, ex, ey, (A.yes _ _ _ _ hS k0 g0 hq).mono fun x y hp => hg2.sub _ hp, A.yes _ _ _ _ hg.1 g1 k1 h⟩
      · subst hr
        exact A.no _ _ _ _ hg.1 g1 k1 h hh.2
  · cases h

theorem undG_run {rel : TrS → TA → TA → Option (Bool × TrS)} (A : AskedOK G hd tx loose rel) (H : HeadsOK G hd) {a b x y : TA} (ha : G a) (hb : G b) (hx : x ∈ hd a) (hy : y ∈ hd b) {S : TrS} {r : Bool} {S' : TrS} (hS : S.ok) (h : undG tx loose rel S x y = some (r, S')) :
    Grows G hd tx loose S S' ∧ (r = true → UndR loose (onP tx S'.cur) x y) ∧ (r = false → ¬ UndR loose (BodyR (LE G hd loose)) x y) := by
  unfold undG at h
  split at h
  · rename_i h4
    cases h
    refine ⟨Grows.refl hS, fun hr => .inl ⟨h4, hr⟩, fun hr hu => ?_⟩
    rcases hu with hu | hu
    · rw [hr] at hu; exact absurd hu.2 (by simp)
    · exact hu.1 h4
  rename_i h4
  split at h
  · rename_i hk
    cases h
    refine ⟨Grows.refl hS, fun hr => (by cases hr), fun _ hu => ?_⟩
    rcases hu with hu | hu
    · exact h4 hu.1
    · exact hk hu.2.1
  rename_i hk
  have hk : x.kind = y.kind := Decidable.not_not.1 hk
  split at h
  · rename_i h7
    cases h
    exact ⟨Grows.refl hS, fun _ => .inr ⟨h4, hk, .inl h7⟩, fun hr => by cases hr⟩
  rename_i h7
  split at h
  · cases h
  split at h
  · rename_i hc
    cases h
    exact ⟨Grows.refl hS, fun _ => .inr ⟨h4, hk, .inr (by simpa [onP] using hc)⟩, fun hr => by cases hr⟩
  rename_i hc
  have hpok := TrS.push_ok hS (tx x, tx y)
  have hpc := push_cur hS (tx x, tx y)
  have hrun : ∀ r S', (if x.kind = 5 then recG rel (S.push (tx x, tx y)) x y else funG rel (S.push (tx x, tx y)) x y) = some (r, S') →
      Grows G hd tx loose (S.push (tx x, tx y)) S' ∧ (r = true → BodyR (HeadsR hd loose (onP tx S'.cur)) x y) ∧ (r = false → ¬ BodyR (LE G hd loose) x y) := fun r S' h => by
    split at h
    · rename_i h5
      exact recG_run A H ha hb hx hy h5 hpok h
    · rename_i h5
      exact funG_run A H ha hb hx hy h5 hpok h
  split at h
  · cases h
  · rename_i S2 hq
    cases h
    obtain ⟨⟨ok2, z, e2, j2⟩, hyes, _⟩ := hrun _ _ hq
    rw [hpc, List.append_assoc] at e2
    refine ⟨⟨ok2, _, e2, fun π hp => ?_⟩, fun _ => .inr ⟨h4, hk, .inr ?_⟩, fun hr => by cases hr⟩
    · rcases List.mem_append.1 hp with hp | hp
      · rw [List.mem_singleton] at hp
        subst hp
        exact ⟨a, b, x, y, ha, hb, hx, hy, rfl, hyes rfl⟩
      · exact j2 π hp
    · show (tx x, tx y) ∈ S'.cur
      rw [e2]; simp
  · rename_i S2 hq
    obtain ⟨⟨ok2, z, e2, j2⟩, _, hno⟩ := hrun _ _ hq
    rw [hpc, List.append_assoc] at e2
    split at h
    · rename_i hle
      cases h
      obtain ⟨_, hcut⟩ := cut_cur hS e2 ok2
      refine ⟨⟨TrS.cut_ok ok2 hle, [], by rw [hcut, List.append_nil], fun π hp => by cases hp⟩, fun hr => (by cases hr), fun _ hu => ?_⟩
      rcases hu with hu | hu
      · exact h4 hu.1
      · rcases hu.2.2 with hu | hu
        · exact h7 hu
        · exact hno rfl hu
    · cases h

theorem relF_run (H : HeadsOK G hd) : ∀ n, AskedOK G hd tx loose (relF hd tx loose n)
  | 0 => ⟨fun _ _ _ _ _ _ _ _ h => (by rw [relF] at h; cases h), fun _ _ _ _ _ _ _ h => (by rw [relF] at h; cases h), fun _ _ _ _ _ _ _ h => (by rw [relF] at h; cases h)⟩
  | n + 1 => by
    have A := relF_run H n
    have key : ∀ S a b r S', S.ok → G a → G b → relF hd tx loose (n + 1) S a b = some (r, S') → Grows G hd tx loose S S' ∧ (r = true → HeadsR hd loose (onP tx S'.cur) a b) ∧ (r = false → ¬ LE G hd loose a b) := by
      intro S a b r S' hS ha hb h
      rw [relF] at h
      have hany : ∀ x ∈ hd a, ∀ s b' s', TrS.ok s → anyO (fun S y => undG tx loose (relF hd tx loose n) S x y) s (hd b) = some (b', s') → _ := fun x hx s b' s' hs he =>
        anyO_run (I := TrS.ok) (Gr := Grows G hd tx loose) (fun s hs => Grows.refl hs) (fun _ _ _ h h' => h.trans h') (hd b) (fun s y b' s' hy hs he => by
          have := undG_run A H ha hb hx hy hs he
          exact ⟨this.1.1, this.1⟩) s b' s' hs he
      obtain ⟨_, hg, hyes, hno⟩ := foldO_run (I := TrS.ok) (Gr := Grows G hd tx loose) (fun s hs => Grows.refl hs) (fun _ _ _ h h' => h.trans h') (hd a) (fun s x b' s' hx hs he => by
        have := hany x hx s b' s' hs he
        exact ⟨this.1, this.2.1⟩) S r S' hS h
      refine ⟨hg, fun hr x hx => ?_, fun hr hle => ?_⟩
      · obtain ⟨s1, s2, i1, e1, g1⟩ := hyes hr x hx
        obtain ⟨_, _, hy, _⟩ := hany x hx s1 true s2 i1 e1
        obtain ⟨y, hym, s3, i3, e3⟩ := hy rfl
        have := (undG_run A H ha hb hx hym i3 e3).2.1 rfl
        exact ⟨y, hym, this.mono fun hp => g1.sub _ hp⟩
      · obtain ⟨x, hx, s1, i1, e1⟩ := hno hr
        obtain ⟨_, _, _, hn⟩ := hany x hx s1 false S' i1 e1
        obtain ⟨R, hs, hab⟩ := hle
        obtain ⟨_, _, hh⟩ := hs a b hab
        obtain ⟨y, hy, hu⟩ := hh x hx
        obtain ⟨s2, s3, i2, e2⟩ := hn rfl y hy
        exact (undG_run A H ha hb hx hy i2 e2).2.2 rfl (hu.mono fun hb => hb.mono fun a b hr => ⟨R, hs, hr⟩)
    exact ⟨fun S a b r S' hS ha hb h => (key S a b r S' hS ha hb h).1, fun S a b S' hS ha hb h => (key S a b true S' hS ha hb h).2.1 rfl, fun S a b S' hS ha hb h => (key S a b false S' hS ha hb h).2.2 rfl⟩

theorem judge_right (H : HeadsOK G hd) (hinj : ∀ a b x y, G a → G b → x ∈ hd a → y ∈ hd b → tx x = tx y → x = y) {n : Nat} {a b : TA} {r : Bool} {S' : TrS} (ha : G a) (hb : G b) (h : relF hd tx loose n ⟨0, [], 0⟩ a b = some (r, S')) : r = true ↔ LE G hd loose a b := by
  have A := relF_run (tx := tx) (loose := loose) H n
  have h0 : TrS.ok ⟨0, [], 0⟩ := ⟨Nat.le_refl _, fun _ => rfl⟩
  refine ⟨fun hr => ?_, fun hle => ?_⟩
  · subst hr
    obtain ⟨ok', z, e, j⟩ := A.grows _ _ _ _ _ h0 ha hb h
    have e : S'.cur = z := e
    have hall := A.yes _ _ _ _ h0 ha hb h
    refine ⟨fun a b => G a ∧ G b ∧ HeadsR hd loose (onP tx S'.cur) a b, fun a b ⟨ga, gb, hh⟩ => ⟨ga, gb, fun x hx => ?_⟩, ha, hb, hall⟩
    obtain ⟨y, hy, hu⟩ := hh x hx
    refine ⟨y, hy, hu.mono fun hp => ?_⟩
    have hp : (tx x, tx y) ∈ S'.cur := hp
    rw [e] at hp
    obtain ⟨a', b', x', y', ga', gb', hx', hy', e', hbody⟩ := j _ hp
    have ex := hinj a a' x x' ga ga' hx hx' (congrArg Prod.fst e')
    have ey := hinj b b' y y' gb gb' hy hy' (congrArg Prod.snd e')
    subst ex ey
    unfold BodyR at hbody ⊢
    split at hbody
    · rename_i h5
      rw [if_pos h5]
      exact fun p hp => ⟨(hbody p hp).1, H.at ga hx h5 (hbody p hp).1, H.sub b gb y hy _ (List.of_mem_zip hp).2, (hbody p hp).2⟩
    · rename_i h5
      rw [if_neg h5]
      obtain ⟨x0, x1, y0, y1, e1, e2, h1, h2⟩ := hbody
      exact ⟨x0, x1, y0, y1, e1, e2, ⟨H.sub b gb y hy _ (by rw [e2]; simp), H.sub a ga x hx _ (by rw [e1]; simp), h1⟩, ⟨H.sub a ga x hx _ (by rw [e1]; simp), H.sub b gb y hy _ (by rw [e2]; simp), h2⟩⟩
  · cases r
    · exact absurd hle (A.no _ _ _ _ h0 ha hb h)
    · rfl

end Go.Ag
/- The judge comes to an end: each step of its recursion puts another pair on the trail. -/
set_option linter.unusedVariables false
namespace Go.Ag
open Go

variable {G : TA → Prop} {hd : TA → List TA} {tx : TA → Bytes} {loose : Bool}

theorem foldO_total {σ α : Type} {st : σ → α → Option (Bool × σ)} {I : σ → Prop} : ∀ (l : List α), (∀ s x, x ∈ l → I s → ∃ b s', st s x = some (b, s') ∧ I s') → ∀ s, I s → ∃ b s', foldO st s l = some (b, s') ∧ I s'
  | [], _, s, h => ⟨true, s, rfl, h⟩
  | x :: l, hs, s, h => by
    obtain ⟨b, s2, e, h2⟩ := hs s x (by simp) h
    rw [foldO, e]
    cases b
    · exact ⟨false, s2, rfl, h2⟩
    · exact foldO_total l (fun s x hx => hs s x (by simp [hx])) s2 h2
theorem anyO_total {σ α : Type} {st : σ → α → Option (Bool × σ)} {I : σ → Prop} : ∀ (l : List α), (∀ s x, x ∈ l → I s → ∃ b s', st s x = some (b, s') ∧ I s') → ∀ s, I s → ∃ b s', anyO st s l = some (b, s') ∧ I s'
  | [], _, s, h => ⟨false, s, rfl, h⟩
  | x :: l, hs, s, h => by
    obtain ⟨b, s2, e, h2⟩ := hs s x (by simp) h
    rw [anyO, e]
    cases b
    · exact anyO_total l (fun s x hx => hs s x (by simp [hx])) s2 h2
    · exact ⟨true, s2, rfl, h2⟩

def muP (PP : List (Bytes × Bytes)) (S : TrS) : Nat := (PP.filter fun π => !S.cur.contains π).length
theorem muP_le {PP : List (Bytes × Bytes)} {S S' : TrS} (h : ∀ π ∈ S.cur, π ∈ S'.cur) : muP PP S' ≤ muP PP S := by
  unfold muP
  induction PP with
  | nil => exact Nat.le_refl _
  | cons p PP ih =>
    rw [List.filter_cons, List.filter_cons]
    by_cases h1 : p ∈ S.cur
    · have h2 := h p h1
      simp only [List.contains_eq_mem, h1, h2, decide_true, Bool.not_true, Bool.false_eq_true, if_false]
      simpa only [List.contains_eq_mem] using ih
    · by_cases h2 : p ∈ S'.cur
      · simp only [List.contains_eq_mem, h1, h2, decide_true, decide_false, Bool.not_true, Bool.not_false, Bool.false_eq_true, if_false, if_true, List.length_cons]
        simp only [List.contains_eq_mem] at ih
        omega
      · simp only [List.contains_eq_mem, h1, h2, decide_false, Bool.not_false, if_true, List.length_cons]
        simp only [List.contains_eq_mem] at ih
        omega
theorem muP_lt {PP : List (Bytes × Bytes)} {S S' : TrS} (h : ∀ π ∈ S.cur, π ∈ S'.cur) {p : Bytes × Bytes} (hp : p ∈ PP) (h1 : p ∉ S.cur) (h2 : p ∈ S'.cur) : muP PP S' < muP PP S := by
  induction PP with
  | nil => cases hp
  | cons q PP ih =>
    have hle := muP_le (PP := PP) h
    unfold muP at hle ih ⊢
    rw [List.filter_cons, List.filter_cons]
    simp only [List.contains_eq_mem] at hle ih ⊢
    rcases List.mem_cons.1 hp with rfl | hp
    · simp only [h1, h2, decide_true, decide_false, Bool.not_true, Bool.not_false, Bool.false_eq_true, if_false, if_true, List.length_cons]
      omega
    · have := ih hp
      by_cases k1 : q ∈ S.cur
      · have k2 := h q k1
        simp only [k1, k2, decide_true, Bool.not_true, Bool.false_eq_true, if_false]
        exact this
      · by_cases k2 : q ∈ S'.cur
        · simp only [k1, k2, decide_true, decide_false, Bool.not_true, Bool.not_false, Bool.false_eq_true, if_false, if_true, List.length_cons]
          omega
        · simp only [k1, k2, decide_false, Bool.not_false, if_true, List.length_cons]
          omega

structure TrailOK (PP : List (Bytes × Bytes)) (S : TrS) : Prop where
  ok : S.ok
  nodup : S.cur.Nodup
  sub : ∀ π ∈ S.cur, π ∈ PP

theorem TrailOK.len {PP : List (Bytes × Bytes)} {S : TrS} (h : TrailOK PP S) : S.len ≤ PP.length := by
  rw [← cur_len h.ok]
  exact h.nodup.length_le_of_subset h.sub

def Fin2 (G : TA → Prop) (hd : TA → List TA) (tx : TA → Bytes) (PP : List (Bytes × Bytes)) : Prop := ∀ a b x y, G a → G b → x ∈ hd a → y ∈ hd b → (tx x, tx y) ∈ PP

theorem undG_total {PP : List (Bytes × Bytes)} (hP : Fin2 G hd tx PP) (hl : PP.length < 2 ^ 40) (H : HeadsOK G hd) {rel : TrS → TA → TA → Option (Bool × TrS)} (A : AskedOK G hd tx loose rel) {n : Nat}
    (ih : ∀ S a b, TrailOK PP S → muP PP S < n → G a → G b → ∃ r S', rel S a b = some (r, S') ∧ TrailOK PP S') {a b x y : TA} (ha : G a) (hb : G b) (hx : x ∈ hd a) (hy : y ∈ hd b) {S : TrS} (hS : TrailOK PP S) (hmu : muP PP S ≤ n) :
    ∃ r S', undG tx loose rel S x y = some (r, S') ∧ TrailOK PP S' ∧ muP PP S' ≤ n := by
  unfold undG
  split
  · exact ⟨_, _, rfl, hS, hmu⟩
  split
  · exact ⟨_, _, rfl, hS, hmu⟩
  rename_i hk
  have hk : x.kind = y.kind := Decidable.not_not.1 hk
  split
  · exact ⟨_, _, rfl, hS, hmu⟩
  rename_i h7
  rw [if_neg (by have := hS.len; omega)]
  split
  · exact ⟨_, _, rfl, hS, hmu⟩
  rename_i hc
  have hc : (tx x, tx y) ∉ S.cur := by simpa using hc
  have hpp := hP a b x y ha hb hx hy
  have hpc := push_cur hS.ok (tx x, tx y)
  have hpush : TrailOK PP (S.push (tx x, tx y)) := by
    refine ⟨TrS.push_ok hS.ok _, ?_, fun π hπ => ?_⟩
    · rw [hpc, List.nodup_append]
      exact ⟨hS.nodup, by simp, fun p hp q hq => by rw [List.mem_singleton] at hq; subst hq; rintro rfl; exact hc hp⟩
    · rw [hpc] at hπ
      rcases List.mem_append.1 hπ with hπ | hπ
      · exact hS.sub π hπ
      · rw [List.mem_singleton] at hπ; subst hπ; exact hpp
  have hsub : ∀ π ∈ S.cur, π ∈ (S.push (tx x, tx y)).cur := fun π hπ => by rw [hpc]; exact List.mem_append_left _ hπ
  have hlt : muP PP (S.push (tx x, tx y)) < n := Nat.lt_of_lt_of_le (muP_lt hsub hpp hc (by rw [hpc]; simp)) hmu
  have h56 : x.kind = 5 ∨ x.kind = 6 := by omega
  -- what the parts come to
  have hin : ∃ r S', (if x.kind = 5 then recG rel (S.push (tx x, tx y)) x y else funG rel (S.push (tx x, tx y)) x y) = some (r, S') ∧ TrailOK PP S' ∧ Grows G hd tx loose (S.push (tx x, tx y)) S' := by
    by_cases h5 : x.kind = 5
    · rw [if_pos h5]
      have hfold := foldO_total (st := fun S p => if p.1 ∈ x.names then rel S (x.l[lowI x.names p.1]?.getD default) p.2 else some (false, S)) (I := fun s => TrailOK PP s ∧ muP PP s < n) (y.names.zip y.l) (fun s p hp hs => by
        by_cases hm : p.1 ∈ x.names
        · have g1 := H.at ha hx h5 hm
          have g2 := H.sub b hb y hy _ (List.of_mem_zip hp).2
          obtain ⟨r, S', e, k⟩ := ih s _ _ hs.1 hs.2 g1 g2
          have hgr := A.grows _ _ _ _ _ hs.1.ok g1 g2 e
          exact ⟨r, S', by rw [if_pos hm]; exact e, k, Nat.lt_of_le_of_lt (muP_le hgr.sub) hs.2⟩
        · exact ⟨false, s, by rw [if_neg hm], hs⟩) _ ⟨hpush, hlt⟩
      obtain ⟨r, S', e, k⟩ := hfold
      exact ⟨r, S', e, k.1, (recG_run A H ha hb hx hy h5 hpush.ok e).1⟩
    · rw [if_neg h5]
      have h6 : x.kind = 6 := by omega
      obtain ⟨x0, x1, ex⟩ := H.fn a ha x hx h6
      obtain ⟨y0, y1, ey⟩ := H.fn b hb y hy (by rw [← hk]; exact h6)
      have g0 : G x0 := H.sub a ha x hx _ (by rw [ex]; simp)
      have g1 : G x1 := H.sub a ha x hx _ (by rw [ex]; simp)
      have k0 : G y0 := H.sub b hb y hy _ (by rw [ey]; simp)
      have k1 : G y1 := H.sub b hb y hy _ (by rw [ey]; simp)
      obtain ⟨r, S2, e, t2⟩ := ih _ _ _ hpush hlt k0 g0
      have hgr := A.grows _ _ _ _ _ hpush.ok k0 g0 e
      cases r
      · have he : funG rel (S.push (tx x, tx y)) x y = some (false, S2) := by unfold funG; rw [ex, ey]; simp only [e]
        exact ⟨false, S2, he, t2, hgr⟩
      · obtain ⟨r', S3, e3, t3⟩ := ih _ _ _ t2 (Nat.lt_of_le_of_lt (muP_le hgr.sub) hlt) g1 k1
        have he : funG rel (S.push (tx x, tx y)) x y = some (r', S3) := by unfold funG; rw [ex, ey]; simp only [e]; exact e3
        exact ⟨r', S3, he, t3, hgr.trans (A.grows _ _ _ _ _ t2.ok g1 k1 e3)⟩
  obtain ⟨r, S', e, t', hgr⟩ := hin
  rw [e]
  have hle := hgr.sub
  cases r
  · obtain ⟨ok2, z, e2, _⟩ := hgr
    rw [hpc, List.append_assoc] at e2
    obtain ⟨hlen, hcut⟩ := cut_cur hS.ok e2 ok2
    refine ⟨false, S'.cut S.len, by simp only [if_pos hlen], ⟨TrS.cut_ok ok2 hlen, by rw [hcut]; exact hS.nodup, by rw [hcut]; exact hS.sub⟩, ?_⟩
    have : muP PP (S'.cut S.len) = muP PP S := by unfold muP; rw [hcut]
    omega
  · exact ⟨true, S', rfl, t', Nat.le_trans (muP_le hle) (Nat.le_of_lt hlt)⟩

theorem relF_total {PP : List (Bytes × Bytes)} (hP : Fin2 G hd tx PP) (hl : PP.length < 2 ^ 40) (H : HeadsOK G hd) : ∀ n S a b, TrailOK PP S → muP PP S < n → G a → G b → ∃ r S', relF hd tx loose n S a b = some (r, S') ∧ TrailOK PP S'
  | 0, S, a, b, _, h, _, _ => by omega
  | n + 1, S, a, b, hS, hmu, ha, hb => by
    have ih := relF_total hP hl H n
    have A := relF_run (tx := tx) (loose := loose) H n
    rw [relF]
    have hmu : muP PP S ≤ n := by omega
    have := foldO_total (st := fun S x => anyO (fun S y => undG tx loose (relF hd tx loose n) S x y) S (hd b)) (I := fun s => TrailOK PP s ∧ muP PP s ≤ n) (hd a) (fun s x hx hs =>
      anyO_total (st := fun S y => undG tx loose (relF hd tx loose n) S x y) (I := fun s => TrailOK PP s ∧ muP PP s ≤ n) (hd b) (fun s y hy hs => undG_total hP hl H A ih ha hb hx hy hs.1 hs.2) s hs) S ⟨hS, hmu⟩
    obtain ⟨r, S', e, k⟩ := this
    exact ⟨r, S', e, k.1⟩

theorem judge_total {PP : List (Bytes × Bytes)} (hP : Fin2 G hd tx PP) (hl : PP.length < 2 ^ 40) (H : HeadsOK G hd) {a b : TA} (ha : G a) (hb : G b) : ∃ n r S', relF hd tx loose n ⟨0, [], 0⟩ a b = some (r, S') := by
  have h0 : TrailOK PP ⟨0, [], 0⟩ := ⟨⟨Nat.le_refl _, fun _ => rfl⟩, by simp [TrS.cur], fun π h => by simp [TrS.cur] at h⟩
  obtain ⟨r, S', e, _⟩ := relF_total hP hl H (loose := loose) _ ⟨0, [], 0⟩ a b h0 (Nat.lt_succ_self _) ha hb
  exact ⟨_, r, S', e⟩

end Go.Ag
/- Which names lead to themselves; where spreading ends. -/
set_option linter.unusedVariables false
namespace Go.Ag
open Go

inductive Leads (by_ : List (Bytes × TA)) : TA → Bytes → Prop where
  | here (t : TA) (nm : Bytes) (h : nm ∈ bareT t) : Leads by_ t nm
  | step (t : TA) (r nm : Bytes) (h : r ∈ bareT t) (h' : Leads by_ (lookP by_ r) nm) : Leads by_ t nm
theorem Leads.trans {by_ : List (Bytes × TA)} {t : TA} {r nm : Bytes} (h : Leads by_ t r) (h' : Leads by_ (lookP by_ r) nm) : Leads by_ t nm := by
  induction h with
  | here t r h => exact .step t r nm h h'
  | step t q r h _ ih => exact .step t q nm h (ih h')

variable {by_ : List (Bytes × TA)} {nm : Bytes}

theorem comes_yes : ∀ (n : Nat) (t : TA) (seen s : List Bytes), comesF by_ nm n t seen = some (true, s) → Leads by_ t nm
  | 0, t, seen, s, h => by rw [comesF] at h; cases h
  | n + 1, t, seen, s, h => by
    rw [comesF, Option.map_eq_some_iff] at h
    obtain ⟨⟨c, s1⟩, hf, e⟩ := h
    have hc : c = false := by have := congrArg Prod.fst e; simpa using this
    subst hc
    obtain ⟨_, _, _, hno⟩ := foldO_run (st := comesStep (comesF by_ nm n) by_ nm) (I := fun _ => True) (Gr := fun _ _ => True) (fun _ _ => trivial) (fun _ _ _ _ _ => trivial) (bareT t) (fun _ _ _ _ _ _ _ => ⟨trivial, trivial⟩) seen false s1 trivial hf
    obtain ⟨r, hr, s2, _, e2⟩ := hno rfl
    unfold comesStep at e2
    split at e2
    · rename_i hq
      have : r = nm := by simpa using hq
      subst this
      exact .here t r hr
    · split at e2
      · cases e2
      · split at e2
        · cases e2
        · rename_i b s3 hq
          have hb : b = true := by have := congrArg (fun o => o.map Prod.fst) e2; simpa using this
          subst hb
          exact .step t r nm hr (comes_yes n _ _ _ hq)

def SeenC (by_ : List (Bytes × TA)) (nm : Bytes) (seen s : List Bytes) : Prop :=
  (∀ r ∈ seen, r ∈ s) ∧ ∀ r ∈ s, r ∈ seen ∨ ∀ q ∈ bareT (lookP by_ r), q ≠ nm ∧ q ∈ s
theorem SeenC.refl (s : List Bytes) : SeenC by_ nm s s := ⟨fun _ h => h, fun _ h => .inl h⟩
theorem SeenC.trans {a b c : List Bytes} (h : SeenC by_ nm a b) (h' : SeenC by_ nm b c) : SeenC by_ nm a c :=
  ⟨fun r hr => h'.1 r (h.1 r hr), fun r hr => by
    rcases h'.2 r hr with k | k
    · rcases h.2 r k with k | k
      · exact .inl k
      · exact .inr fun q hq => ⟨(k q hq).1, h'.1 q (k q hq).2⟩
    · exact .inr k⟩

theorem comes_no : ∀ (n : Nat) (t : TA) (seen s : List Bytes), comesF by_ nm n t seen = some (false, s) → SeenC by_ nm seen s ∧ ∀ r ∈ bareT t, r ≠ nm ∧ r ∈ s
  | 0, t, seen, s, h => by rw [comesF] at h; cases h
  | n + 1, t, seen, s, h => by
    rw [comesF, Option.map_eq_some_iff] at h
    obtain ⟨⟨c, s1⟩, hf, e⟩ := h
    have hc : c = true := by have := congrArg Prod.fst e; simpa using this
    have hs : s1 = s := congrArg Prod.snd e
    subst hc hs
    clear e
    have key : ∀ (rs : List Bytes) (seen : List Bytes), foldO (comesStep (comesF by_ nm n) by_ nm) seen rs = some (true, s1) → SeenC by_ nm seen s1 ∧ ∀ r ∈ rs, r ≠ nm ∧ r ∈ s1 := by
      intro rs
      induction rs with
      | nil => intro seen h; cases h; exact ⟨SeenC.refl _, fun r hr => by cases hr⟩
      | cons r rs ih =>
        intro seen h
        rw [foldO] at h
        cases hq : comesStep (comesF by_ nm n) by_ nm seen r with
        | none => rw [hq] at h; cases h
        | some q =>
          obtain ⟨c, s2⟩ := q
          rw [hq] at h
          cases c
          · cases h
          · obtain ⟨k1, k2⟩ := ih s2 h
            unfold comesStep at hq
            split at hq
            · cases hq
            · rename_i hne
              have hne : r ≠ nm := by simpa using hne
              split at hq
              · rename_i hc
                cases hq
                have hc : r ∈ seen := by simpa using hc
                exact ⟨k1, fun x hx => by
                  rcases List.mem_cons.1 hx with rfl | hx
                  · exact ⟨hne, k1.1 _ hc⟩
                  · exact k2 x hx⟩
              · split at hq
                · cases hq
                · rename_i b s3 hcf
                  have hb : b = false := by have := congrArg (fun o => o.map Prod.fst) hq; simpa using this
                  have hs3 : s3 = s2 := by have := congrArg (fun o => o.map Prod.snd) hq; simpa using this
                  subst hb hs3
                  obtain ⟨j1, j2⟩ := comes_no n _ _ _ hcf
                  have j : SeenC by_ nm seen s3 := by
                    refine ⟨fun x hx => j1.1 x (by simp [hx]), fun x hx => ?_⟩
                    rcases j1.2 x hx with h' | h'
                    · rcases List.mem_append.1 h' with h' | h'
                      · exact .inl h'
                      · rw [List.mem_singleton] at h'
                        subst h'
                        exact .inr j2
                    · exact .inr h'
                  exact ⟨j.trans k1, fun x hx => by
                    rcases List.mem_cons.1 hx with rfl | hx
                    · exact ⟨hne, k1.1 _ (j1.1 _ (by simp))⟩
                    · exact k2 x hx⟩
    exact key (bareT t) seen hf

theorem comes_right {n : Nat} {t : TA} {b : Bool} {s : List Bytes} (h : comesF by_ nm n t [] = some (b, s)) : b = true ↔ Leads by_ t nm := by
  refine ⟨fun hb => by subst hb; exact comes_yes n t [] s h, fun hl => ?_⟩
  cases b
  · obtain ⟨h1, h2⟩ := comes_no n t [] s h
    have hcl : ∀ r ∈ s, ∀ q ∈ bareT (lookP by_ r), q ≠ nm ∧ q ∈ s := fun r hr => (h1.2 r hr).elim (fun h => by cases h) id
    have : ∀ u m, Leads by_ u m → m = nm → (∀ r ∈ bareT u, r ≠ nm ∧ r ∈ s) → False := fun u m hl => by
      induction hl with
      | here u m h => intro e hu; exact (hu m h).1 e
      | step u r m h _ ih => intro e hu; exact ih e (hcl r (hu r h).2)
    exact absurd (this t nm hl rfl h2) id
  · rfl

theorem filter_sub {α : Type} {p q : α → Bool} (h : ∀ x, p x = true → q x = true) : ∀ l : List α, (l.filter p).Sublist (l.filter q)
  | [] => by simp
  | x :: l => by
    have ih := filter_sub h l
    rw [List.filter_cons, List.filter_cons]
    cases hp : p x
    · cases hq : q x
      · simpa using ih
      · simpa using ih.cons x
    · rw [h x hp]
      simpa using ih.cons_cons x
theorem comes_total {U : List Bytes} (hU : ∀ r, ∀ q ∈ bareT (lookP by_ r), q ∈ U) : ∀ (n : Nat) (t : TA) (seen : List Bytes), (∀ r ∈ bareT t, r ∈ U) → (U.filter fun r => !seen.contains r).length < n → ∃ b s, comesF by_ nm n t seen = some (b, s) ∧ ∀ r ∈ seen, r ∈ s
  | 0, t, seen, _, h => by omega
  | n + 1, t, seen, ht, h => by
    have hmono : ∀ {a b : List Bytes}, (∀ r ∈ a, r ∈ b) → (U.filter fun r => !b.contains r).length ≤ (U.filter fun r => !a.contains r).length := fun {a b} hab => by
      refine (filter_sub (fun r hr => ?_) U).length_le
      simp only [List.contains_eq_mem, Bool.not_eq_true', decide_eq_false_iff_not] at hr ⊢
      exact fun hm => hr (hab r hm)
    rw [comesF]
    have hf := foldO_total (st := comesStep (comesF by_ nm n) by_ nm) (I := fun s => ∀ r ∈ seen, r ∈ s) (bareT t) (fun s r hr hs => by
      unfold comesStep
      split
      · exact ⟨_, _, rfl, hs⟩
      · split
        · exact ⟨_, _, rfl, hs⟩
        · rename_i hc
          have hc : r ∉ s := by simpa using hc
          have hlt : (U.filter fun q => !(s ++ [r]).contains q).length < n := by
            have h1 : (U.filter fun q => !(s ++ [r]).contains q).length < (U.filter fun q => !s.contains q).length := by
              have hsub : (U.filter fun q => !(s ++ [r]).contains q).Sublist (U.filter fun q => !s.contains q) := filter_sub (fun q hq => by
                simp only [List.contains_eq_mem, Bool.not_eq_true', decide_eq_false_iff_not] at hq ⊢
                exact fun hm => hq (by simp [hm])) U
              rcases Nat.lt_or_ge (U.filter fun q => !(s ++ [r]).contains q).length (U.filter fun q => !s.contains q).length with h' | h'
              · exact h'
              · have he := hsub.eq_of_length_le h'
                have : r ∈ U.filter fun q => !s.contains q := List.mem_filter.2 ⟨ht r hr, by simp [hc]⟩
                rw [← he] at this
                simp at this
            have h2 := hmono hs
            omega
          obtain ⟨b, s', e, k⟩ := comes_total hU n (lookP by_ r) (s ++ [r]) (hU r) hlt
          exact ⟨!b, s', by rw [e], fun q hq => k q (by simp [hs q hq])⟩) seen fun r hr => hr
    obtain ⟨b, s, e, k⟩ := hf
    exact ⟨!b, s, by rw [e]; rfl, k⟩

theorem lookP_bare {q : Bytes} {r : Bytes} (h : q ∈ bareT (lookP by_ r)) : ∃ p ∈ by_, q ∈ bareT p.2 := by
  unfold lookP at h
  cases hf : by_.find? (·.1 == r) with
  | none => rw [hf] at h; simp [default, zeroT, bareT] at h
  | some p => rw [hf] at h; exact ⟨p, List.mem_of_find?_eq_some hf, h⟩
theorem comes_ends (by_ : List (Bytes × TA)) (nm : Bytes) (t : TA) : ∃ n b s, comesF by_ nm n t [] = some (b, s) := by
  obtain ⟨b, s, e, _⟩ := comes_total (by_ := by_) (nm := nm) (U := bareT t ++ by_.flatMap fun p => bareT p.2) (fun r q hq => by
    obtain ⟨p, hp, hq⟩ := lookP_bare hq
    exact List.mem_append_right _ (List.mem_flatMap.2 ⟨p, hp, hq⟩)) _ t [] (fun r hr => List.mem_append_left _ hr) (Nat.lt_succ_self _)
  exact ⟨_, b, s, e⟩

def EmptyN (by_ : List (Bytes × TA)) (nm : Bytes) : Prop := (by_.find? (·.1 == nm)).isSome = false ∨ Leads by_ (lookP by_ nm) nm

theorem def_some {e : EnvA} {nm : Bytes} : (defP e nm).2 = (e.by_.find? (·.1 == nm)).isSome := by
  unfold defP defA
  cases e.by_.find? (·.1 == nm) <;> rfl
theorem def_look {e : EnvA} {nm : Bytes} : (defP e nm).1 = lookP e.by_ nm := by
  unfold defP defA lookP
  cases e.by_.find? (·.1 == nm) <;> rfl
theorem empty_right {e : EnvA} (h : NewOK by_ e) (hn : (by_.map (·.1)).Nodup) (nm : Bytes) : emptyP e nm = true ↔ EmptyN by_ nm := by
  unfold emptyP EmptyN
  rw [def_some, h.hby]
  cases hf : by_.find? (·.1 == nm) with
  | none => simp
  | some p =>
    have hp := List.mem_of_find?_eq_some hf
    have hpn : p.1 = nm := by simpa using List.find?_some (p := fun q : Bytes × TA => q.1 == nm) hf
    obtain ⟨n, b, s, hc, hl⟩ := h.empty p hp
    rw [hpn] at hc hl
    have hlk : lookP by_ nm = p.2 := by unfold lookP; rw [hf]; rfl
    rw [hlk]
    simp only [Option.isSome_some, if_true, Bool.true_eq_false, false_or, hl]
    exact comes_right hc

end Go.Ag
/- Spreading ends; what it comes to. -/
set_option linter.unusedVariables false
namespace Go.Ag
open Go

theorem spread_succ (e : EnvA) : ∀ n, (∀ t ys, spreadF e n t = some ys → spreadF e (n + 1) t = some ys) ∧ (∀ l ys, spreadsF e n l = some ys → spreadsF e (n + 1) l = some ys)
  | 0 => ⟨fun t ys h => (by rw [spreadF] at h; cases h), fun l ys h => (by rw [spreadsF] at h; cases h)⟩
  | n + 1 => by
    obtain ⟨h1, h2⟩ := spread_succ e n
    refine ⟨fun t ys h => ?_, fun l ys h => ?_⟩
    · obtain ⟨k, nm, ns, l⟩ := t
      rw [spreadF] at h ⊢
      split at h
      · rename_i h8
        rw [if_pos h8]
        split at h
        · rename_i he; rw [if_pos he]; exact h
        · rename_i he; rw [if_neg he]; exact h1 _ _ h
      · rename_i h8
        rw [if_neg h8]
        split at h
        · rename_i h7; rw [if_pos h7]; exact h2 _ _ h
        · rename_i h7; rw [if_neg h7]; exact h
    · cases l with
      | nil => rw [spreadsF] at h ⊢; exact h
      | cons t l =>
        rw [spreadsF] at h ⊢
        cases hx : spreadF e n t with
        | none => rw [hx] at h; cases h
        | some xs =>
          cases hr : spreadsF e n l with
          | none => rw [hx, hr] at h; cases h
          | some zs =>
            rw [hx, hr] at h
            rw [h1 _ _ hx, h2 _ _ hr]
            exact h
theorem spread_mono {e : EnvA} {n m : Nat} (hnm : n ≤ m) {t : TA} {ys : List TA} (h : spreadF e n t = some ys) : spreadF e m t = some ys := by
  induction hnm with
  | refl => exact h
  | step _ ih => exact (spread_succ e _).1 _ _ ih
theorem spreads_mono {e : EnvA} {n m : Nat} (hnm : n ≤ m) {t : List TA} {ys : List TA} (h : spreadsF e n t = some ys) : spreadsF e m t = some ys := by
  induction hnm with
  | refl => exact h
  | step _ ih => exact (spread_succ e _).2 _ _ ih
theorem spread_one {e : EnvA} {n m : Nat} {t : TA} {ys zs : List TA} (h : spreadF e n t = some ys) (h' : spreadF e m t = some zs) : ys = zs := by
  have h1 := spread_mono (Nat.le_max_left n m) h
  have h2 := spread_mono (Nat.le_max_right n m) h'
  rw [h1] at h2
  exact Option.some.inj h2
theorem spreads_all {e : EnvA} : ∀ (l : List TA), (∀ x ∈ l, ∃ n ys, spreadF e n x = some ys) → ∃ n ys, spreadsF e n l = some ys
  | [], _ => ⟨1, [], by rw [spreadsF]⟩
  | t :: l, h => by
    obtain ⟨n, ys, h1⟩ := h t (by simp)
    obtain ⟨m, zs, h2⟩ := spreads_all l fun x hx => h x (by simp [hx])
    refine ⟨max n m + 1, ys ++ zs, ?_⟩
    rw [spreadsF, spread_mono (Nat.le_max_left n m) h1, spreads_mono (Nat.le_max_right n m) h2]

variable {by_ : List (Bytes × TA)}

theorem find_key {nm : Bytes} (h : (by_.find? (·.1 == nm)).isSome = true) : nm ∈ by_.map (·.1) := by
  rw [List.find?_isSome] at h
  obtain ⟨p, hp, e⟩ := h
  exact List.mem_map.2 ⟨p, hp, by simpa using e⟩

theorem bareL_mem {l : List TA} {t : TA} {r : Bytes} (ht : t ∈ l) (hr : r ∈ bareT t) : r ∈ bareL l := by
  induction l with
  | nil => cases ht
  | cons x l ih =>
    rw [bareL, List.mem_append]
    rcases List.mem_cons.1 ht with rfl | ht
    · exact .inl hr
    · exact .inr (ih ht)

theorem spread_total {e : EnvA} (hE : NewOK by_ e) (hnd : (by_.map (·.1)).Nodup) : ∀ (k : Nat) (P : List Bytes), P.Nodup → (∀ p ∈ P, p ∈ by_.map (·.1)) → (by_.map (·.1)).length - P.length = k → ∀ (w : Nat) (t : TA), wtT t ≤ w → (∀ p ∈ P, ∀ r ∈ bareT t, Leads by_ (lookP by_ p) r) → ∃ n ys, spreadF e n t = some ys := by
  intro k
  induction k using Nat.strongRecOn with
  | ind k ih =>
    intro P hP hsub hk w
    induction w with
    | zero => intro t h; have := wt_l t; omega
    | succ w ihw =>
      intro t hw hlead
      obtain ⟨tk, nm, ns, l⟩ := t
      rw [bareT] at hlead
      by_cases h8 : tk = 8
      · rw [if_pos h8] at hlead
        by_cases hem : emptyP e nm = true
        · exact ⟨1, [dynT], by rw [spreadF, if_pos h8, if_pos hem]⟩
        · have hne : ¬ EmptyN by_ nm := fun h => hem ((empty_right hE hnd nm).2 h)
          have hdef : (by_.find? (·.1 == nm)).isSome = true := by
            cases hd : (by_.find? (·.1 == nm)).isSome
            · exact absurd (.inl hd) hne
            · rfl
          have hkey := find_key hdef
          have hnP : nm ∉ P := fun hm => hne (.inr (hlead nm hm nm (by simp)))
          have hP' : (nm :: P).Nodup := List.nodup_cons.2 ⟨hnP, hP⟩
          have hlen : (nm :: P).length ≤ (by_.map (·.1)).length := hP'.length_le_of_subset fun p hp => by
            rcases List.mem_cons.1 hp with rfl | hp
            · exact hkey
            · exact hsub p hp
          rw [List.length_cons] at hlen
          obtain ⟨n, ys, h⟩ := ih (k - 1) (by omega) (nm :: P) hP' (fun p hp => by
            rcases List.mem_cons.1 hp with rfl | hp
            · exact hkey
            · exact hsub p hp) (by rw [List.length_cons]; omega) _ (lookP by_ nm) (Nat.le_refl _) (fun p hp r hr => by
            rcases List.mem_cons.1 hp with rfl | hp
            · exact .here _ _ hr
            · exact (hlead p hp nm (by simp)).trans (.here _ _ hr))
          refine ⟨n + 1, ys, ?_⟩
          rw [spreadF, if_pos h8, if_neg hem, def_look, hE.hby]
          exact h
      · rw [if_neg h8] at hlead
        by_cases h7 : tk = 7
        · rw [if_pos h7] at hlead
          rw [wtT] at hw
          obtain ⟨n, ys, h⟩ := spreads_all (e := e) l fun x hx => ihw x (by have := wtL_mem hx; omega) fun p hp r hr => hlead p hp r (bareL_mem hx hr)
          exact ⟨n + 1, ys, by rw [spreadF, if_neg h8, if_pos h7]; exact h⟩
        · exact ⟨1, [.mk tk nm ns l], by rw [spreadF, if_neg h8, if_neg h7]⟩

inductive Spr (by_ : List (Bytes × TA)) : TA → TA → Prop where
  | self (t : TA) (h7 : t.kind ≠ 7) (h8 : t.kind ≠ 8) : Spr by_ t t
  | part (nm : Bytes) (ns : List Bytes) (l : List TA) (x y : TA) (hx : x ∈ l) (h : Spr by_ x y) : Spr by_ (.mk 7 nm ns l) y
  | emp (nm : Bytes) (ns : List Bytes) (l : List TA) (h : EmptyN by_ nm) : Spr by_ (.mk 8 nm ns l) dynT
  | ref (nm : Bytes) (ns : List Bytes) (l : List TA) (y : TA) (he : ¬ EmptyN by_ nm) (h : Spr by_ (lookP by_ nm) y) : Spr by_ (.mk 8 nm ns l) y

theorem spread_iff {e : EnvA} (hE : NewOK by_ e) (hnd : (by_.map (·.1)).Nodup) : ∀ n, (∀ t ys, spreadF e n t = some ys → ∀ y, y ∈ ys ↔ Spr by_ t y) ∧ (∀ l ys, spreadsF e n l = some ys → ∀ y, y ∈ ys ↔ ∃ x ∈ l, Spr by_ x y)
  | 0 => ⟨fun t ys h => (by rw [spreadF] at h; cases h), fun l ys h => (by rw [spreadsF] at h; cases h)⟩
  | n + 1 => by
    obtain ⟨h1, h2⟩ := spread_iff hE hnd n
    refine ⟨fun t ys h y => ?_, fun l ys h y => ?_⟩
    · obtain ⟨k, nm, ns, l⟩ := t
      rw [spreadF] at h
      split at h
      · rename_i h8
        subst h8
        split at h
        · rename_i he
          cases h
          have he := (empty_right hE hnd nm).1 he
          rw [List.mem_singleton]
          refine ⟨fun h => by subst h; exact .emp nm ns l he, fun h => ?_⟩
          cases h with
          | self _ _ h8 => exact absurd rfl h8
          | emp => rfl
          | ref _ _ _ _ hn => exact absurd he hn
        · rename_i he
          have he : ¬ EmptyN by_ nm := fun h => he ((empty_right hE hnd nm).2 h)
          rw [def_look, hE.hby] at h
          rw [h1 _ _ h y]
          refine ⟨fun h => .ref nm ns l y he h, fun h => ?_⟩
          cases h with
          | self _ _ h8 => exact absurd rfl h8
          | emp _ _ _ hn => exact absurd hn he
          | ref _ _ _ _ _ h => exact h
      · rename_i h8
        split at h
        · rename_i h7
          subst h7
          rw [h2 _ _ h y]
          refine ⟨fun ⟨x, hx, hs⟩ => .part nm ns l x y hx hs, fun h => ?_⟩
          cases h with
          | self _ h7 _ => exact absurd rfl h7
          | part _ _ _ x _ hx hs => exact ⟨x, hx, hs⟩
        · rename_i h7
          cases h
          rw [List.mem_singleton]
          refine ⟨fun h => by subst h; exact .self _ h7 h8, fun h => ?_⟩
          cases h with
          | self => rfl
          | part => exact absurd rfl h7
          | emp => exact absurd rfl h8
          | ref => exact absurd rfl h8
    · cases l with
      | nil =>
        rw [spreadsF] at h
        cases h
        exact ⟨fun h => (by cases h), fun ⟨x, hx, _⟩ => (by cases hx)⟩
      | cons t l =>
        rw [spreadsF] at h
        cases hx : spreadF e n t with
        | none => rw [hx] at h; cases h
        | some xs =>
          cases hr : spreadsF e n l with
          | none => rw [hx, hr] at h; cases h
          | some zs =>
            rw [hx, hr] at h
            cases h
            rw [List.mem_append, h1 _ _ hx y, h2 _ _ hr y]
            refine ⟨fun h => ?_, fun ⟨x, hx, hs⟩ => ?_⟩
            · rcases h with h | ⟨x, hx, h⟩
              · exact ⟨t, by simp, h⟩
              · exact ⟨x, by simp [hx], h⟩
            · rcases List.mem_cons.1 hx with rfl | hx
              · exact .inl hs
              · exact .inr ⟨x, hx, hs⟩

noncomputable def sprL (e : EnvA) (t : TA) : List TA := open Classical in if h : ∃ n ys, spreadF e n t = some ys then h.choose_spec.choose else []
theorem sprL_eq {e : EnvA} {n : Nat} {t : TA} {ys : List TA} (h : spreadF e n t = some ys) : sprL e t = ys := by
  have hx : ∃ n ys, spreadF e n t = some ys := ⟨n, ys, h⟩
  unfold sprL
  rw [dif_pos hx]
  exact spread_one hx.choose_spec.choose_spec h

theorem sprL_some {e : EnvA} (hE : NewOK by_ e) (hnd : (by_.map (·.1)).Nodup) (t : TA) : ∃ n, spreadF e n t = some (sprL e t) := by
  obtain ⟨n, ys, h⟩ := spread_total hE hnd _ [] (by simp) (fun p hp => by cases hp) rfl _ t (Nat.le_refl _) (fun p hp => by cases hp)
  exact ⟨n, by rw [sprL_eq h]; exact h⟩
theorem sprL_iff {e : EnvA} (hE : NewOK by_ e) (hnd : (by_.map (·.1)).Nodup) (t y : TA) : y ∈ sprL e t ↔ Spr by_ t y := by
  obtain ⟨n, h⟩ := sprL_some hE hnd t
  exact (spread_iff hE hnd n).1 _ _ h y

theorem lookP_nt (hb : ∀ p ∈ by_, NT p.2) {nm : Bytes} (h : ¬ EmptyN by_ nm) : NT (lookP by_ nm) ∧ ∃ p ∈ by_, lookP by_ nm = p.2 := by
  unfold EmptyN at h
  cases hf : by_.find? (·.1 == nm) with
  | none => exact absurd (.inl (by rw [hf]; rfl)) h
  | some p =>
    have hp := List.mem_of_find?_eq_some hf
    have : lookP by_ nm = p.2 := by unfold lookP; rw [hf]; rfl
    exact ⟨by rw [this]; exact hb p hp, p, hp, this⟩
theorem Spr.nt (hb : ∀ p ∈ by_, NT p.2) {t y : TA} (h : Spr by_ t y) : NT t → NT y ∧ y.kind ≠ 7 ∧ y.kind ≠ 8 := by
  induction h with
  | self t h7 h8 => exact fun ht => ⟨ht, h7, h8⟩
  | part nm ns l x y hx h ih => exact fun ht => ih (ht.parts x hx)
  | emp nm ns l h => exact fun _ => ⟨.dyn, by decide, by decide⟩
  | ref nm ns l y he h ih => exact fun _ => ih (lookP_nt hb he).1
theorem Spr.some (hb : ∀ p ∈ by_, NT p.2) {e : EnvA} (hE : NewOK by_ e) (hnd : (by_.map (·.1)).Nodup) : ∀ (n : Nat) (t : TA) (ys : List TA), NT t → spreadF e n t = Option.some ys → ys ≠ [] := by
  intro n
  induction n using Nat.strongRecOn with
  | ind n ih =>
  intro t ys ht h
  cases n with
  | zero => rw [spreadF] at h; cases h
  | succ n =>
    obtain ⟨k, nm, ns, l⟩ := t
    rw [spreadF] at h
    split at h
    · split at h
      · cases h; simp
      · rename_i he
        have he : ¬ EmptyN by_ nm := fun h => he ((empty_right hE hnd nm).2 h)
        rw [def_look, hE.hby] at h
        exact ih n (Nat.lt_succ_self n) _ ys (lookP_nt hb he).1 h
    · split at h
      · rename_i h7
        subst h7
        have hl : l ≠ [] ∧ ∀ x ∈ l, NT x := by cases ht with | uni l h2 h => exact ⟨by rintro rfl; simp at h2, h⟩
        obtain ⟨m, rfl⟩ : ∃ m, n = m + 1 := by cases n with
          | zero => rw [spreadsF] at h; cases h
          | succ m => exact ⟨m, rfl⟩
        cases l with
        | nil => exact absurd rfl hl.1
        | cons t l =>
          rw [spreadsF] at h
          cases hx : spreadF e m t with
          | none => rw [hx] at h; cases h
          | some xs =>
            cases hr : spreadsF e m l with
            | none => rw [hx, hr] at h; cases h
            | some zs =>
              rw [hx, hr] at h
              cases h
              have := ih m (by omega) t xs (hl.2 t (by simp)) hx
              intro e; exact this (List.append_eq_nil_iff.1 e).1
      · cases h; simp

end Go.Ag
/- Package sub: under. -/
set_option linter.unusedVariables false
namespace Go.Ag
open Go

variable {T : Tab} {L : Lnk}

theorem app_trail {S : TrS} (hS : S.ok) (hl : S.len ≤ 2 ^ 40) (p : Bytes × Bytes) {tk0 : Tok} {H : Heap} {K : AVal → Heap → Prop} (hid : H[4]? = some (tobj S)) (h : K (tval (S.push p)) (H.set 4 (tobj (S.push p)))) : appK 2 32 326 (tval S) (.lst [pairA p] tk0) H K := by
  obtain ⟨v, xs, len⟩ := S
  obtain ⟨h1, h2⟩ := hS
  dsimp only at h1 h2 hl
  cases v with
  | zero =>
    unfold appK
    show Sized 2 [] ∧ _
    refine ⟨fun x hx => (by cases hx), fun x hx => ?_, by simp, by simp, ?_⟩
    · simp only [List.mem_singleton] at hx; subst hx; exact ⟨rfl, rfl⟩
    · rw [if_neg (by simp)]
      exact .inr (.inr (.inl ⟨4, hid, h⟩))
  | succ v =>
    unfold appK
    show Sized 2 [pairA p] ∧ _
    refine ⟨fun x hx => ?_, ⟨rfl, rfl, by simp⟩, by simp; omega, by simp; omega, ?_⟩
    · simp only [List.mem_singleton] at hx; subst hx; exact ⟨rfl, rfl⟩
    · rw [hid]
      refine ⟨⟨rfl, by rw [pairsA_len]; exact h1, rfl, sized_pairs xs⟩, v + 2, by omega, ?_⟩
      have e1 : tval (TrS.push ⟨v + 1, xs, len⟩ p) = .vec 4 (v + 2) 2 0 (len + 1) := rfl
      have e2 : tobj (TrS.push ⟨v + 1, xs, len⟩ p) = .arr (v + 2) ((pairsA xs).take len ++ [pairA p]) 326 := by
        show AObj.arr (v + 2) (pairsA (xs.take len ++ [p])) 326 = _
        simp [pairsA]
      rw [e1, e2] at h
      exact h

theorem recG_ok {rel : TrS → TA → TA → Option (Bool × TrS)} (hr : ∀ S a b r S', S.ok → rel S a b = some (r, S') → S'.ok) {S : TrS} {x y : TA} {r : Bool} {S' : TrS} (hS : S.ok) (h : recG rel S x y = some (r, S')) : S'.ok :=
  foldO_inv (P := TrS.ok) _ (fun s p b s' _ hs he => by
    split at he
    · exact hr _ _ _ _ _ hs he
    · cases he; exact hs) _ _ _ hS h

theorem undG_mk (tx : TA → Bytes) (loose : Bool) (rel : TrS → TA → TA → Option (Bool × TrS)) (S : TrS) (xk : Int) (xm : Bytes) (xs : List Bytes) (xl : List TA) (yk : Int) (ym : Bytes) (ys : List Bytes) (yl : List TA) {sx sy : Bytes} (hsx : tx (.mk xk xm xs xl) = sx) (hsy : tx (.mk yk ym ys yl) = sy) :
    undG tx loose rel S (.mk xk xm xs xl) (.mk yk ym ys yl) = if xk = 4 ∨ yk = 4 then some (loose || xk == yk, S)
      else if xk ≠ yk then some (false, S)
      else if xk ≠ 5 ∧ xk ≠ 6 then some (true, S)
      else if 2 ^ 40 ≤ S.len then none
      else if S.cur.contains (sx, sy) = true then some (true, S)
      else match (if xk = 5 then recG rel (S.push (sx, sy)) (.mk xk xm xs xl) (.mk yk ym ys yl) else funG rel (S.push (sx, sy)) (.mk xk xm xs xl) (.mk yk ym ys yl)) with
        | none => none
        | some (true, S') => some (true, S')
        | some (false, S') => if S.len ≤ S'.len then some (false, S'.cut S.len) else none := by
  subst hsx hsy; rfl

theorem under_spec2 (F : SubFns T) {e : EnvA} {loose : Bool} (W : JW T e) {rel : TrS → TA → TA → Option (Bool × TrS)} (hR : RelOK T e loose W.G rel) (hrok : ∀ S a b r S', S.ok → rel S a b = some (r, S') → S'.ok) (a b x y : TA) (ha : W.G a) (hb : W.G b) (hx : x ∈ W.hd a) (hy : y ∈ W.hd b) (S : TrS) (r : Bool) (S' : TrS) (hS : S.ok)
    (h : undG W.tx loose rel S x y = some (r, S')) : CallK T.L 239 [.ptr 3 0, x.av, y.av] (jheap e loose S) (.bool r) (jheap e loose S') := by
  refine CallK.of 0 rfl (.bool _) (low_jheap e loose S') (ACalls.mono (Q := fun r' H' => ∃ J, r' = .ret (.bool r) ∧ H' = jheap e loose S' ++ J) ?_ fun r H' ⟨J, e1, e2⟩ => ⟨_, _, J, e1, Weak.refl _, e2, rfl, fun i x y h1 h2 => by rw [h1] at h2; cases h2; exact WeakO.refl x⟩)
  have htx := W.text a ha x hx
  have hty := W.text b hb y hy
  have hxs := W.sub a ha x hx
  have hys := W.sub b hb y hy
  have hxf := W.fn a ha x hx
  have hyf := W.fn b hb y hy
  have hxr := W.rcd a ha x hx
  have hyr := W.rcd b hb y hy
  have hrecS := fun (h1 : x.kind = 5) (h2 : y.kind = 5) S r S' hS h => record_spec2 F hR x y hxs hys (hxr h1) ⟨(hyr h2).1, (hyr h2).2.2⟩ S r S' hS h
  obtain ⟨sx, hsx⟩ : ∃ sx, W.tx x = sx := ⟨_, rfl⟩
  obtain ⟨sy, hsy⟩ : ∃ sy, W.tx y = sy := ⟨_, rfl⟩
  rw [hsx] at htx
  rw [hsy] at hty
  obtain ⟨xk, xm, xs, xl⟩ := x
  obtain ⟨yk, ym, ys, yl⟩ := y
  rw [undG_mk _ _ _ _ _ _ _ _ _ _ _ _ hsx hsy] at h
  simp only [TA.kind, TA.l, TA.names] at hxf hyf hxr hyr hxs hys hrecS
  refine acallsG F.h239 (by simp [c_239]) ?_
  conv => whnf
  by_cases h4 : xk = 4 ∨ yk = 4
  · rw [if_pos h4] at h
    cases h
    cases h5 : (xk == 4)
    · have h6 : (yk == 4) = true := by
        rcases h4 with h4 | h4
        · rw [h4] at h5; cases h5
        · simpa using h4
      conv => whnf
      rw [h6]
      conv => whnf
      cases loose
      · conv => whnf
        exact ⟨_, rfl, rfl⟩
      · conv => whnf
        exact ⟨_, rfl, rfl⟩
    · conv => whnf
      cases loose
      · conv => whnf
        exact ⟨_, rfl, rfl⟩
      · conv => whnf
        exact ⟨_, rfl, rfl⟩
  · rw [if_neg h4] at h
    have h5 : (xk == 4) = false := by simpa using fun e => h4 (.inl e)
    have h6 : (yk == 4) = false := by simpa using fun e => h4 (.inr e)
    rw [h5]
    conv => whnf
    rw [h6]
    conv => whnf
    by_cases hk : xk = yk
    · rw [if_neg (by simpa using hk)] at h
      have hk2 : (xk != yk) = false := by simpa using hk
      rw [hk2]
      conv => whnf
      by_cases h7 : xk ≠ 5 ∧ xk ≠ 6
      · rw [if_pos h7] at h
        cases h
        have h8 : (xk != 5) = true := by simpa using h7.1
        have h9 : (xk != 6) = true := by simpa using h7.2
        rw [h8]
        conv => whnf
        rw [h9]
        conv => whnf
        exact ⟨_, rfl, rfl⟩
      · rw [if_neg h7] at h
        subst hk
        have hcon := fun hl => pairContains_spec F.h277 F.h302 (.map (entsT e.by_ 0) e.by_.length) (.map (entsE e.empty 0) e.empty.length) (.cells [.map 0, .map 1] 234) (.cells [.ptr 2 0, .bool loose, tval S] 263)
          ⟨entsT_low 5 _ _, entsE_low 5 _ _, lowC ⟨.map _ (by decide : 0 < 5), .map _ (by decide : 1 < 5), trivial⟩, lowC ⟨.ptr _ _ (by decide : 2 < 5), .bool _, low_tval S, trivial⟩, trivial⟩ S hS hl (sx, sy)
        have hlv : ∀ x ∈ [tval S, pairA (sx, sy)], Low 5 x := LowL.at ⟨low_tval S, low_pair 5 _, trivial⟩
        have h56 : xk = 5 ∨ xk = 6 := by omega
        by_cases hl40 : 2 ^ 40 ≤ S.len
        · rw [if_pos hl40] at h; cases h
        rw [if_neg hl40] at h
        have hl40 : S.len ≤ 2 ^ 40 := by omega
        have hcon := hcon hl40
        have happ := fun (H : Heap) (tk0 : Tok) (K : AVal → Heap → Prop) => app_trail hS hl40 (sx, sy) (tk0 := tk0) (H := H) (K := K)
        have hpok := TrS.push_ok hS (sx, sy)
        have hlJ : ∀ S, ∀ o ∈ jheap e loose S, LowO 5 o := low_jheap e loose
        obtain ⟨m, hm⟩ : ∃ m, S.len = m := ⟨_, rfl⟩
        obtain ⟨bc, hbc⟩ : ∃ bc, S.cur.contains (sx, sy) = bc := ⟨_, rfl⟩
        rw [hbc] at h hcon
        rw [hm] at h
        rcases h56 with rfl | rfl
        · obtain ⟨sv, sxs, slen⟩ := S
          have h00 : sv = 0 → slen = 0 := hS.2
          have hmm : m = slen := hm.symm
          cases sv
          case' zero =>
            obtain rfl := h00 rfl
          all_goals
            conv => whnf
            refine htx.soft ?_
            conv => whnf
            refine hty.soft ?_
            conv => whnf
            refine hcon.to rfl hlv (hlJ _) (.bool _) (hlJ _) [tcell (.mk 5 xm xs xl), tcell (.mk 5 ym ys yl), .cells [.str sx, .str sy] 326] rfl ?_
            conv => whnf
            cases bc
            case' true =>
              rw [if_pos rfl] at h
              cases h
              conv => whnf
              exact ⟨_, rfl, rfl⟩
            rw [if_neg (by simp), if_pos rfl] at h
            conv => whnf
            refine happ _ _ _ rfl ?_
            conv => whnf
            cases hq : recG rel (TrS.push _ (sx, sy)) (.mk 5 xm xs xl) (.mk 5 ym ys yl)
            case' none => rw [hq] at h; cases h
            rename_i q
            obtain ⟨c, S2⟩ := q
            rw [hq] at h
            have hok2 := recG_ok hrok hpok hq
            refine (hrecS rfl rfl _ _ _ hpok hq).to rfl (LowL.at ⟨.ptr _ _ (show 3 < 5 by decide), low_ta 5 (.mk 5 xm xs xl), low_ta 5 (.mk 5 ym ys yl), trivial⟩) (hlJ _) (.bool _) (hlJ _) [tcell (.mk 5 xm xs xl), tcell (.mk 5 ym ys yl), .cells [.str sx, .str sy] 326] rfl ?_
            cases c
            · have h : (if m ≤ S2.len then some (false, S2.cut m) else none) = some (r, S') := h
              by_cases hle : m ≤ S2.len
              · rw [if_pos hle] at h
                cases h
                obtain ⟨v2, xs2, len2⟩ := S2
                have hle : m ≤ len2 := hle
                have h02 : v2 = 0 → len2 = 0 := hok2.2
                cases v2
                · obtain rfl := h02 rfl
                  obtain rfl : m = 0 := by omega
                  try subst hmm
                  conv => whnf
                  refine ⟨by simp, by simp, fun x hx => (by cases hx), ?_⟩
                  conv => whnf
                  exact ⟨_, rfl, rfl⟩
                · subst hmm
                  conv => whnf
                  refine ⟨⟨Nat.zero_le _, by first | (simp; done) | (simp; omega), .inl rfl, rfl⟩, ?_⟩
                  conv => whnf
                  exact ⟨_, rfl, rfl⟩
              · rw [if_neg hle] at h; cases h
            · cases h
              conv => whnf
              exact ⟨_, rfl, rfl⟩
        · obtain ⟨x0, x1, rfl⟩ := hxf rfl
          obtain ⟨y0, y1, rfl⟩ := hyf rfl
          have hGx0 := hxs x0 (by simp)
          have hGx1 := hxs x1 (by simp)
          have hGy0 := hys y0 (by simp)
          have hGy1 := hys y1 (by simp)
          have hfun : ∀ S1, funG rel S1 (.mk 6 xm xs [x0, x1]) (.mk 6 ym ys [y0, y1]) = match rel S1 y0 x0 with
            | none => none
            | some (false, S') => some (false, S')
            | some (true, S') => rel S' x1 y1 := fun S1 => rfl
          rw [if_neg (show ¬ (6 : Int) = 5 by decide), hfun] at h
          have hcallR := fun S a b r S' hS ha hb h => hR S a b r S' hS ha hb h
          have hgx0 : (TA.avs [x0, x1])[Int.toNat 0]? = some x0.av := rfl
          have hgx1 : (TA.avs [x0, x1])[Int.toNat 1]? = some x1.av := rfl
          have hgy0 : (TA.avs [y0, y1])[Int.toNat 0]? = some y0.av := rfl
          have hgy1 : (TA.avs [y0, y1])[Int.toNat 1]? = some y1.av := rfl
          have hl0 := low_rel y0 x0
          have hl1 := low_rel x1 y1
          have hcx : tcell (.mk 6 xm xs [x0, x1]) = .cells [.int .i64 6, .str xm, .lst (strA xs) .none, .lst [x0.av, x1.av] .none] 175 := rfl
          have hcy : tcell (.mk 6 ym ys [y0, y1]) = .cells [.int .i64 6, .str ym, .lst (strA ys) .none, .lst [y0.av, y1.av] .none] 175 := rfl
          obtain ⟨sv, sxs, slen⟩ := S
          have h00 : sv = 0 → slen = 0 := hS.2
          have hmm : m = slen := hm.symm
          cases sv
          case' zero =>
            obtain rfl := h00 rfl
          all_goals
            conv => whnf
            refine htx.soft ?_
            conv => whnf
            refine hty.soft ?_
            conv => whnf
            refine hcon.to rfl hlv (hlJ _) (.bool _) (hlJ _) [tcell (.mk 6 xm xs [x0, x1]), tcell (.mk 6 ym ys [y0, y1]), .cells [.str sx, .str sy] 326] rfl ?_
            conv => whnf
            cases bc
            case' true =>
              rw [if_pos rfl] at h
              cases h
              conv => whnf
              exact ⟨_, rfl, rfl⟩
            rw [if_neg (by simp)] at h
            conv => whnf
            refine happ _ _ _ rfl ?_
            conv => whnf
            cases hq : rel (TrS.push _ (sx, sy)) y0 x0
            case' none => rw [hq] at h; cases h
            rename_i q
            obtain ⟨c, S2⟩ := q
            rw [hq] at h
            obtain ⟨hok2, hc⟩ := hR _ _ _ _ _ hpok hGy0 hGx0 hq
            obtain ⟨y0k, y0m, y0s, y0l⟩ := y0
            obtain ⟨x0k, x0m, x0s, x0l⟩ := x0
            refine ⟨by decide, rfl, ?_⟩
            conv => whnf
            refine ⟨by decide, rfl, ?_⟩
            conv => whnf
            refine hc.to rfl hl0 (hlJ _) (.bool _) (hlJ _) [tcell (.mk 6 xm xs [.mk x0k x0m x0s x0l, x1]), tcell (.mk 6 ym ys [.mk y0k y0m y0s y0l, y1]), .cells [.str sx, .str sy] 326] rfl ?_
            cases c
            case' false =>
              have h : (if m ≤ S2.len then some (false, S2.cut m) else none) = some (r, S') := h
              by_cases hle : m ≤ S2.len
              · rw [if_pos hle] at h
                cases h
                obtain ⟨v2, xs2, len2⟩ := S2
                have hle : m ≤ len2 := hle
                have h02 : v2 = 0 → len2 = 0 := hok2.2
                cases v2
                · obtain rfl := h02 rfl
                  obtain rfl : m = 0 := by omega
                  try subst hmm
                  conv => whnf
                  refine ⟨by simp, by simp, fun x hx => (by cases hx), ?_⟩
                  conv => whnf
                  exact ⟨_, rfl, rfl⟩
                · subst hmm
                  conv => whnf
                  refine ⟨⟨Nat.zero_le _, by first | (simp; done) | (simp; omega), .inl rfl, rfl⟩, ?_⟩
                  conv => whnf
                  exact ⟨_, rfl, rfl⟩
              · rw [if_neg hle] at h; cases h
            cases hq2 : rel S2 x1 y1
            case' none =>
              dsimp only at h
              rw [hq2] at h; cases h
            rename_i q2
            obtain ⟨c2, S3⟩ := q2
            dsimp only at h
            rw [hq2] at h
            obtain ⟨hok3, hc3⟩ := hR _ _ _ _ _ hok2 hGx1 hGy1 hq2
            obtain ⟨y1k, y1m, y1s, y1l⟩ := y1
            obtain ⟨x1k, x1m, x1s, x1l⟩ := x1
            conv => whnf
            refine ⟨by decide, rfl, ?_⟩
            conv => whnf
            refine ⟨by decide, rfl, ?_⟩
            conv => whnf
            refine hc3.to rfl hl1 (hlJ _) (.bool _) (hlJ _) [tcell (.mk 6 xm xs [.mk x0k x0m x0s x0l, .mk x1k x1m x1s x1l]), tcell (.mk 6 ym ys [.mk y0k y0m y0s y0l, .mk y1k y1m y1s y1l]), .cells [.str sx, .str sy] 326] rfl ?_
            cases c2
            case' false =>
              have h : (if m ≤ S3.len then some (false, S3.cut m) else none) = some (r, S') := h
              by_cases hle : m ≤ S3.len
              · rw [if_pos hle] at h
                cases h
                obtain ⟨v2, xs2, len2⟩ := S3
                have hle : m ≤ len2 := hle
                have h02 : v2 = 0 → len2 = 0 := hok3.2
                cases v2
                · obtain rfl := h02 rfl
                  obtain rfl : m = 0 := by omega
                  try subst hmm
                  conv => whnf
                  refine ⟨by simp, by simp, fun x hx => (by cases hx), ?_⟩
                  conv => whnf
                  exact ⟨_, rfl, rfl⟩
                · subst hmm
                  conv => whnf
                  refine ⟨⟨Nat.zero_le _, by first | (simp; done) | (simp; omega), .inl rfl, rfl⟩, ?_⟩
                  conv => whnf
                  exact ⟨_, rfl, rfl⟩
              · rw [if_neg hle] at h; cases h
            cases h
            conv => whnf
            exact ⟨_, rfl, rfl⟩
    · rw [if_pos hk] at h
      cases h
      have hk2 : (xk != yk) = true := by simpa using hk
      rw [hk2]
      conv => whnf
      exact ⟨_, rfl, rfl⟩

end Go.Ag
/- Package sub: related; Sub, Fits, Equal. -/
set_option linter.unusedVariables false
namespace Go.Ag
open Go

variable {T : Tab} {L : Lnk}

def rB (e : EnvA) (loose : Bool) (a b x : TA) (S : TrS) : Nat → AObj
  | 0 => .map (entsT e.by_ 0) e.by_.length
  | 1 => .map (entsE e.empty 0) e.empty.length
  | 2 => .cells [.map 0, .map 1] 234
  | 3 => .cells [.ptr 2 0, .bool loose, tval S] 263
  | 4 => tobj S
  | 5 => .cells [.ptr 3 0] 260
  | 6 => tcell a
  | 7 => tcell b
  | _ => tcell x
def rheap (e : EnvA) (loose : Bool) (a b x : TA) (S : TrS) : Heap := [rB e loose a b x S 0, rB e loose a b x S 1, rB e loose a b x S 2, rB e loose a b x S 3, rB e loose a b x S 4, rB e loose a b x S 5, rB e loose a b x S 6, rB e loose a b x S 7, rB e loose a b x S 8]
theorem low_rheap (n : Nat) (hn : 9 ≤ n) (e : EnvA) (loose : Bool) (a b x : TA) (S : TrS) : LowHs n (rheap e loose a b x S) :=
  ⟨entsT_low n _ _, entsE_low n _ _, lowC ⟨.map _ (by omega), .map _ (by omega), trivial⟩, lowC ⟨.ptr _ _ (by omega), .bool _, (low_tval S).mono (by omega), trivial⟩, low_tobj n S, lowC ⟨.ptr _ _ (by omega), trivial⟩,
   (show LowO n (tcell a) from lowO_mono (Nat.zero_le _) (low_tcell _)), (show LowO n (tcell b) from lowO_mono (Nat.zero_le _) (low_tcell _)), (show LowO n (tcell x) from lowO_mono (Nat.zero_le _) (low_tcell _)), trivial⟩

open Classical in
noncomputable def askG (W : List TA) (f : TrS → TA → Option (Bool × TrS)) (S : TrS) (y : TA) : Option (Bool × TrS) := if S.ok ∧ y ∈ W then f S y else none
theorem askG_any {W : List TA} {f : TrS → TA → Option (Bool × TrS)} (hf : ∀ S y r S', S.ok → f S y = some (r, S') → S'.ok) : ∀ (l : List TA), (∀ y ∈ l, y ∈ W) → ∀ S r, S.ok → anyO f S l = some r → anyO (askG W f) S l = some r
  | [], _, S, r, hS, h => h
  | x :: l, hl, S, r, hS, h => by
    rw [anyO] at h ⊢
    rw [askG, if_pos ⟨hS, hl x (by simp)⟩]
    cases hq : f S x with
    | none => rw [hq] at h; cases h
    | some q =>
      obtain ⟨c, s2⟩ := q
      rw [hq] at h
      have h2 := hf _ _ _ _ hS hq
      cases c
      · exact askG_any hf l (fun y hy => hl y (by simp [hy])) s2 r h2 h
      · exact h

theorem rel1_spec (h238 : T.has 238 c_238) {e : EnvA} {loose : Bool} {a b x : TA} {S S' : TrS} {r : Bool} {y : TA} (h : CallK T.L 239 [.ptr 3 0, x.av, y.av] (jheap e loose S) (.bool r) (jheap e loose S')) :
    CallK T.L 238 [y.av, .ptr 5 0, .ptr 8 0] (rheap e loose a b x S) (.bool r) (rheap e loose a b x S') := by
  refine CallK.of 0 rfl (.bool _) (low_rheap 9 (Nat.le_refl 9) e loose a b x S').at (ACalls.mono (Q := fun r' H' => ∃ J, r' = .ret (.bool r) ∧ H' = rheap e loose a b x S' ++ J) ?_ fun r H' ⟨J, e1, e2⟩ => ⟨_, _, J, e1, Weak.refl _, e2, rfl, fun i x y h1 h2 => by rw [h1] at h2; cases h2; exact WeakO.refl x⟩)
  refine acallsG h238 (by simp [c_238]) ?_
  have hl := low_rel x y
  obtain ⟨yk, ym, ys, yl⟩ := y
  obtain ⟨xk, xm, xs, xl⟩ := x
  conv => whnf
  refine h.to rfl hl (low_jheap _ _ _) (.bool _) (low_jheap _ _ _) [.cells [.ptr 3 0] 260, tcell a, tcell b, tcell (.mk xk xm xs xl), tcell (.mk yk ym ys yl)] rfl ?_
  conv => whnf
  exact ⟨_, rfl, rfl⟩

theorem related_spec (F : SubFns T) {e : EnvA} {loose : Bool} (W : JW T e) {rel : TrS → TA → TA → Option (Bool × TrS)} (hR : RelOK T e loose W.G rel) (hrok : ∀ S a b r S', S.ok → rel S a b = some (r, S') → S'.ok) :
    RelOK T e loose W.G (fun S a b => foldO (fun S x => anyO (fun S y => undG W.tx loose rel S x y) S (W.hd b)) S (W.hd a)) := by
  intro S a b r S' hS ha hb h
  have hund := fun x (hx : x ∈ W.hd a) y (hy : y ∈ W.hd b) S r S' hS h => under_spec2 F (loose := loose) W hR hrok a b x y ha hb hx hy S r S' hS h
  have huok : ∀ x S y r S', TrS.ok S → undG W.tx loose rel S x y = some (r, S') → S'.ok := fun x S y r S' hS h => undG_ok hrok S x y r S' hS h
  have hfok : ∀ x, ∀ S r S', TrS.ok S → anyO (fun S y => undG W.tx loose rel S x y) S (W.hd b) = some (r, S') → S'.ok := fun x S r S' hS h =>
    anyO_inv (P := TrS.ok) _ (fun s2 y b2 s2' _ hs2 he2 => huok x s2 y b2 s2' hs2 he2) _ _ _ hS h
  refine ⟨foldO_inv (P := TrS.ok) _ (fun s x b' s' _ hs he => hfok x s b' s' hs he) _ _ _ hS h, ?_⟩
  have hHa := W.heads a ha
  have hHb := W.heads b hb
  have hla := W.hlen a ha
  have hlb := W.hlen b hb
  have hcont : ∀ x (hx : x ∈ W.hd a) S r S', TrS.ok S → anyO (fun S y => undG W.tx loose rel S x y) S (W.hd b) = some (r, S') → CallK T.L 212 [.lst (TA.avs (W.hd b)) .none, .fn (.func 238) [] [.ptr 5 0, .ptr 8 0]] (rheap e loose a b x S) (.bool r) (rheap e loose a b x S') := fun x hx S r S' hS h =>
    containsFunc_spec F.h212 F.h245 (BB := rheap e loose a b x) (p := rB e loose a b x) (f := askG (W.hd b) fun S y => undG W.tx loose rel S x y) ⟨fun s => rfl, fun s => (low_rheap 9 (Nat.le_refl 9) e loose a b x s).at, fun s y c s' hq => by
      unfold askG at hq
      split at hq
      · rename_i hc
        exact rel1_spec F.h238 (hund x hx y hc.2 s c s' hc.1 hq)
      · cases hq⟩ (W.hd b) hlb S r S' (askG_any (fun S y r S' hS h => huok x S y r S' hS h) (W.hd b) (fun y hy => hy) S _ hS h)
  replace h : foldO (fun S x => anyO (fun S y => undG W.tx loose rel S x y) S (W.hd b)) S (W.hd a) = some (r, S') := h
  generalize W.hd a = A at *
  generalize W.hd b = B at *
  refine CallK.of 0 rfl (.bool _) (low_jheap e loose S') (ACalls.mono (Q := fun r' H' => ∃ J, r' = .ret (.bool r) ∧ H' = jheap e loose S' ++ J) ?_ fun r H' ⟨J, e1, e2⟩ => ⟨_, _, J, e1, Weak.refl _, e2, rfl, fun i x y h1 h2 => by rw [h1] at h2; cases h2; exact WeakO.refl x⟩)
  refine acallsG F.h202 (by simp [c_202]) ?_
  obtain ⟨ak, am, as, al⟩ := a
  obtain ⟨bk, bm, bs, bl⟩ := b
  conv => whnf
  refine hHb.to (low1 (low_ta _ _)) (.lst _ _ trivial (low_tas 3 B)) [.cells [.ptr 2 0, .bool loose, tval S] 263, tobj S, .cells [.ptr 3 0] 260, tcell (.mk ak am as al), tcell (.mk bk bm bs bl)] rfl ?_
  conv => whnf
  refine hHa.to (low1 (low_ta _ _)) (.lst _ _ trivial (low_tas 3 A)) [.cells [.ptr 2 0, .bool loose, tval S] 263, tobj S, .cells [.ptr 3 0] 260, tcell (.mk ak am as al), tcell (.mk bk bm bs bl)] rfl ?_
  conv => whnf
  intro I hI hG
  have key : ∀ (d j : Nat) (S1 : TrS) (e' : Env), A.length - j = d → j ≤ A.length → S1.ok → foldO (fun S x => anyO (fun S y => undG W.tx loose rel S x y) S B) S1 (A.drop j) = some (r, S') →
      I (setL e' [(3, .ptr 5 0), (7, .lst (TA.avs B) .none), (21, .lst (TA.avs A) .none), (22, .int .i64 A.length), (23, .int .i64 j)]) (jheap e loose S1 ++ [.cells [.ptr 3 0] 260, tcell (.mk ak am as al), tcell (.mk bk bm bs bl)]) := by
    intro d
    induction d with
    | zero =>
      intro j S1 e' hd hj hok hf
      have hjl : j = A.length := by omega
      rw [hjl, List.drop_length, foldO] at hf
      cases hf
      apply hI
      conv => whnf
      rw [lt_false (by omega)]
      conv => whnf
      exact ⟨_, rfl, rfl⟩
    | succ d ihd =>
      intro j S1 e' hd hj hok hf
      have hjl : j < A.length := by omega
      rw [List.drop_eq_getElem_cons hjl, foldO] at hf
      have hget := tas_at' hjl
      have hmem := List.getElem_mem hjl
      have hnext := fun S2 e' => ihd (j + 1) S2 e' (by omega) hjl
      generalize A[j] = x at hget hf hmem
      have hlJ : ∀ S, LowHs 8 (jheap e loose S ++ [.cells [.ptr 3 0] 260, tcell (.mk ak am as al), tcell (.mk bk bm bs bl)]) := fun S =>
        ⟨entsT_low 8 _ _, entsE_low 8 _ _, lowC ⟨.map _ (by decide : 0 < 8), .map _ (by decide : 1 < 8), trivial⟩, lowC ⟨.ptr _ _ (by decide : 2 < 8), .bool _, (low_tval S).mono (by decide), trivial⟩, low_tobj 8 S, lowC ⟨.ptr _ _ (by decide : 3 < 8), trivial⟩, lowO_mono (Nat.zero_le _) (low_tcell _), lowO_mono (Nat.zero_le _) (low_tcell _), trivial⟩
      have hj1 : j + 1 < 9223372036854775808 := by omega
      cases hq : anyO (fun S y => undG W.tx loose rel S x y) S1 B with
      | none => rw [hq] at hf; cases hf
      | some q =>
        obtain ⟨c, S2⟩ := q
        rw [hq] at hf
        have hok2 := hfok x S1 c S2 hok hq
        have hc := hcont x hmem S1 c S2 hok hq
        obtain ⟨xk, xm, xs, xl⟩ := x
        apply hI
        conv => whnf
        rw [lt_true hjl]
        conv => whnf
        refine step_elem (Int.natCast_nonneg _) hget rfl ?_
        conv => whnf
        refine hc.to rfl (LowL.at ⟨.lst _ _ trivial (low_tas _ B), .fn _ _ _ low0 (LowL.at ⟨.ptr _ _ (show 5 < 9 by decide), .ptr _ _ (show 8 < 9 by decide), trivial⟩), trivial⟩) (low_rheap 9 (Nat.le_refl 9) _ _ _ _ _ _).at (.bool _) (low_rheap 9 (Nat.le_refl 9) _ _ _ _ _ _).at [] rfl ?_
        cases c
        · cases hf
          conv => whnf
          exact ⟨_, rfl, rfl⟩
        · have hf : foldO (fun S x => anyO (fun S y => undG W.tx loose rel S x y) S B) S2 (A.drop (j + 1)) = some (r, S') := hf
          conv => whnf
          exact hG.keep [(3, .ptr 5 0), (7, .lst (TA.avs B) .none), (21, .lst (TA.avs A) .none), (22, .int .i64 A.length), (23, .int .i64 (j + 1 : Nat))] (jheap e loose S2 ++ [.cells [.ptr 3 0] 260, tcell (.mk ak am as al), tcell (.mk bk bm bs bl)]) (Nat.le_refl 8) rfl ⟨rfl, rfl, rfl, rfl, add1 hj1, trivial⟩
            ⟨.ptr _ _ (by decide : 5 < 8), .lst _ _ trivial (low_tas 8 B), .lst _ _ trivial (low_tas 8 A), .int _ _, .int _ _, trivial⟩ (hlJ S2) (hnext _ _ hok2 hf)
  exact inv_of [(3, .ptr 5 0), (7, .lst (TA.avs B) .none), (21, .lst (TA.avs A) .none), (22, .int .i64 A.length), (23, .int .i64 0)] ⟨rfl, rfl, rfl, by show AVal.int .i64 ((TA.avs A).length : Nat) = _; rw [tas_len], rfl, trivial⟩ (key A.length 0 S _ rfl (Nat.zero_le _) hS h)

theorem relF_spec (F : SubFns T) {e : EnvA} {loose : Bool} (W : JW T e) : ∀ n, RelOK T e loose W.G (relF W.hd W.tx loose n)
  | 0 => fun S a b r S' _ _ _ h => by rw [relF] at h; cases h
  | n + 1 => fun S a b r S' hS ha hb h => related_spec F W (relF_spec F W n) (fun S a b r S' hS h => relF_ok n S a b r S' hS h) S a b r S' hS ha hb (by rw [relF] at h; exact h)

def tr0 : TrS := ⟨0, [], 0⟩
theorem tr0_ok : tr0.ok := ⟨Nat.le_refl _, fun _ => rfl⟩

theorem rel_call {e : EnvA} {loose : Bool} {a b : TA} {r : Bool} {S' : TrS} (h : CallK T.L 202 [.ptr 3 0, a.av, b.av] (jheap e loose tr0) (.bool r) (jheap e loose S')) (oa ob : AObj) :
    ACalls T.L 202 [.ptr 6 0, a.av, b.av] (eheap e ++ [.dead, oa, ob, .cells [.ptr 2 0, .bool loose, .lst [] .nil] 263]) fun r' H' => r' = .ret (.bool r) ∧ ∃ J, H' = eheap e ++ J := by
  have hρ : ∀ i, i < 3 → nameOf [0, 1, 2, 6, 3] 7 i = i := fun i hi => by
    match i, hi with
    | 0, _ => rfl
    | 1, _ => rfl
    | 2, _ => rfl
    | i + 3, h => omega
  have hlo := low_eheap e
  have q : ∀ o ∈ eheap e, renO (nameOf [0, 1, 2, 6, 3] 7) o = o := fun o ho => renO_low hρ (hlo o ho)
  have q0 := q (.map (entsT e.by_ 0) e.by_.length) (by simp [eheap])
  have q1 := q (.map (entsE e.empty 0) e.empty.length) (by simp [eheap])
  have q2 := q (.cells [.map 0, .map 1] 234) (by simp [eheap])
  have q3 : renO (nameOf [0, 1, 2, 6, 3] 7) (.cells [.ptr 2 0, .bool loose, .lst [] .nil] 263) = .cells [.ptr 2 0, .bool loose, .lst [] .nil] 263 := renO_low hρ (lowC ⟨.ptr _ _ (by decide : 2 < 3), .bool _, .lst _ _ trivial low0, trivial⟩)
  have hp : Part (eheap e ++ [.dead, oa, ob, .cells [.ptr 2 0, .bool loose, .lst [] .nil] 263]) [0, 1, 2, 6, 3] (jheap e loose tr0) := by
    refine ⟨by decide, rfl, fun k i o hk ho => ?_⟩
    show (eheap e ++ [.dead, oa, ob, .cells [.ptr 2 0, .bool loose, .lst [] .nil] 263])[i]? = some (renO (nameOf [0, 1, 2, 6, 3] 7) o)
    match k, hk, ho with
    | 0, hk, ho => cases hk; cases ho; rw [q0]; rfl
    | 1, hk, ho => cases hk; cases ho; rw [q1]; rfl
    | 2, hk, ho => cases hk; cases ho; rw [q2]; rfl
    | 3, hk, ho =>
      cases hk
      have : o = .cells [.ptr 2 0, .bool loose, .lst [] .nil] 263 := (Option.some.inj ho).symm
      subst this
      rw [q3]; rfl
    | 4, hk, ho =>
      cases hk
      have : o = .dead := (Option.some.inj ho).symm
      subst this
      rfl
    | k + 5, hk, ho => cases hk
  have hf := ACalls.frameL h [0, 1, 2, 6, 3] hp (.inr fun r H' hq => by rw [hq.2]; exact Nat.le_refl 5)
  have hargs : [AVal.ptr 3 0, a.av, b.av].map (ren (nameOf [0, 1, 2, 6, 3] 7)) = [.ptr 6 0, a.av, b.av] := by
    rw [List.map_cons, List.map_cons, List.map_cons, ren_low hρ (low_ta 3 a), ren_low hρ (low_ta 3 b)]
    rfl
  rw [show [AVal.ptr 3 0, a.av, b.av].map (ren (nameOf [0, 1, 2, 6, 3] (eheap e ++ [.dead, oa, ob, .cells [.ptr 2 0, .bool loose, .lst [] .nil] 263]).length)) = [.ptr 6 0, a.av, b.av] from hargs] at hf
  refine hf.mono fun r' H' ⟨r1, H1', ⟨e1, e2⟩, _, e3, e4⟩ => ?_
  subst e1 e2
  refine ⟨e3, [renO (nameOf [0, 1, 2, 6, 3] 7) (tobj S'), oa, ob, renO (nameOf [0, 1, 2, 6, 3] 7) (.cells [.ptr 2 0, .bool loose, tval S'] 263)], e4.trans ?_⟩
  show [renO (nameOf [0, 1, 2, 6, 3] 7) (.map (entsT e.by_ 0) e.by_.length), renO (nameOf [0, 1, 2, 6, 3] 7) (.map (entsE e.empty 0) e.empty.length), renO (nameOf [0, 1, 2, 6, 3] 7) (.cells [.map 0, .map 1] 234), renO (nameOf [0, 1, 2, 6, 3] 7) (tobj S'), oa, ob, renO (nameOf [0, 1, 2, 6, 3] 7) (.cells [.ptr 2 0, .bool loose, tval S'] 263)] = _
  rw [q0, q1, q2]
  rfl

theorem Sub_spec (F : SubFns T) {e : EnvA} (W : JW T e) (a b : TA) (ha : W.G a) (hb : W.G b) (n : Nat) (r : Bool) (S' : TrS) (h : relF W.hd W.tx false n tr0 a b = some (r, S')) : EK T.L 162 [a.av, b.av] e (.bool r) := by
  obtain ⟨_, hr⟩ := relF_spec F W n tr0 a b r S' tr0_ok ha hb h
  have hc := rel_call hr (tcell a) (tcell b)
  obtain ⟨ak, am, as, al⟩ := a
  obtain ⟨bk, bm, bs, bl⟩ := b
  refine EK.of 1 (.bool _) (acallsG F.h162 (by simp [c_162]) ?_)
  conv => whnf
  refine hc.mono fun r' H' ⟨e1, J, e2⟩ => ?_
  subst e1 e2
  conv => whnf
  exact ⟨_, _, rfl, Weak.refl _, rfl⟩
theorem Fits_spec (F : SubFns T) {e : EnvA} (W : JW T e) (a b : TA) (ha : W.G a) (hb : W.G b) (n : Nat) (r : Bool) (S' : TrS) (h : relF W.hd W.tx true n tr0 a b = some (r, S')) : EK T.L 163 [a.av, b.av] e (.bool r) := by
  obtain ⟨_, hr⟩ := relF_spec F W n tr0 a b r S' tr0_ok ha hb h
  have hc := rel_call hr (tcell a) (tcell b)
  obtain ⟨ak, am, as, al⟩ := a
  obtain ⟨bk, bm, bs, bl⟩ := b
  refine EK.of 1 (.bool _) (acallsG F.h163 (by simp [c_163]) ?_)
  conv => whnf
  refine hc.mono fun r' H' ⟨e1, J, e2⟩ => ?_
  subst e1 e2
  conv => whnf
  exact ⟨_, _, rfl, Weak.refl _, rfl⟩
theorem Equal_spec (F : SubFns T) {e : EnvA} (a b : TA) (r1 r2 : Bool) (h1 : EK T.L 162 [a.av, b.av] e (.bool r1)) (h2 : EK T.L 162 [b.av, a.av] e (.bool r2)) : EK T.L 169 [a.av, b.av] e (.bool (r1 && r2)) := by
  have hl : ∀ x ∈ [a.av, b.av], Low 3 x := LowL.at ⟨low_ta _ _, low_ta _ _, trivial⟩
  have hl2 : ∀ x ∈ [b.av, a.av], Low 3 x := LowL.at ⟨low_ta _ _, low_ta _ _, trivial⟩
  obtain ⟨ak, am, as, al⟩ := a
  obtain ⟨bk, bm, bs, bl⟩ := b
  refine EK.of 0 (.bool _) (acallsG F.h169 (by simp [c_169]) ?_)
  conv => whnf
  refine h1.to hl (.bool _) _ rfl ?_
  cases r1
  · conv => whnf
    exact ⟨_, _, rfl, Weak.refl _, rfl⟩
  · conv => whnf
    refine h2.to hl2 (.bool _) _ rfl ?_
    conv => whnf
    exact ⟨_, _, rfl, Weak.refl _, rfl⟩

end Go.Ag
/- A judge over good definitions and types answers as the greatest sound relation does. -/
set_option linter.unusedVariables false
namespace Go.Ag
open Go

structure EnvW (by_ : List (Bytes × TA)) (e : EnvA) (C : List TA) : Prop where
  ok : NewOK by_ e
  nodup : (by_.map (·.1)).Nodup
  mem : ∀ p ∈ by_, p.2 ∈ C
  nt : ∀ t ∈ C, NT t
  cl : ∀ t ∈ C, ∀ x ∈ t.l, x ∈ C
  wt : ∀ t ∈ C, wtT t ≤ 2 ^ 30
  fin : C.length ≤ 2 ^ 19
  slen : ∀ t ∈ C, (sprL e t).length ≤ 2 ^ 30

def GC' (C : List TA) (t : TA) : Prop := GT t ∧ wtT t ≤ 2 ^ 30 ∧ normT t ∈ C
noncomputable def hdE (e : EnvA) (t : TA) : List TA := headsOf (sprL e (normT t))
def txE (h : TA) : Bytes := prT (normT h) 0

variable {by_ : List (Bytes × TA)} {e : EnvA} {C : List TA}

theorem EnvW.byNT (W : EnvW by_ e C) : ∀ p ∈ by_, NT p.2 := fun p hp => W.nt _ (W.mem p hp)
theorem EnvW.spr (W : EnvW by_ e C) {t y : TA} (h : Spr by_ t y) : t ∈ C → y = dynT ∨ y ∈ C := by
  induction h with
  | self t h7 h8 => exact fun ht => .inr ht
  | part nm ns l x y hx h ih => exact fun ht => ih (W.cl _ ht x hx)
  | emp nm ns l h => exact fun _ => .inl rfl
  | ref nm ns l y he h ih =>
    obtain ⟨_, p, hp, h2⟩ := lookP_nt W.byNT he
    exact fun _ => ih (by rw [h2]; exact W.mem p hp)
theorem EnvW.some (W : EnvW by_ e C) (t : TA) (ht : t ∈ C) : ∃ n, spreadF e n t = some (sprL e t) ∧ sprL e t ≠ [] ∧ ∀ y ∈ sprL e t, NT y ∧ y.kind ≠ 7 ∧ y.kind ≠ 8 := by
  obtain ⟨n, h⟩ := sprL_some W.ok W.nodup t
  exact ⟨n, h, Spr.some W.byNT W.ok W.nodup n t _ (W.nt t ht) h, fun y hy => ((sprL_iff W.ok W.nodup t y).1 hy).nt W.byNT (W.nt t ht)⟩
theorem EnvW.head (W : EnvW by_ e C) {t h : TA} (ht : GC' C t) (hh : h ∈ hdE e t) : h = dynT ∨ (h ∈ C ∧ h.kind ≠ 7 ∧ h.kind ≠ 8) := by
  rcases headsOf_mem hh with h | h
  · exact .inl h
  · obtain ⟨_, _, _, h3⟩ := W.some _ ht.2.2
    rcases W.spr ((sprL_iff W.ok W.nodup _ _).1 h) ht.2.2 with h' | h'
    · exact .inl h'
    · exact .inr ⟨h', (h3 _ h).2⟩
theorem EnvW.headNT (W : EnvW by_ e C) {t h : TA} (ht : GC' C t) (hh : h ∈ hdE e t) : NT h ∧ wtT h ≤ 2 ^ 30 := by
  rcases W.head ht hh with rfl | h
  · exact ⟨.dyn, by decide⟩
  · exact ⟨W.nt _ h.1, W.wt _ h.1⟩
theorem EnvW.heads (W : EnvW by_ e C) : HeadsOK (GC' C) (hdE e) where
  sub := fun t ht h hh x hx => by
    rcases W.head ht hh with rfl | h'
    · cases hx
    · have hm := W.cl _ h'.1 x hx
      exact ⟨(W.nt x hm).gt, W.wt x hm, by rw [normT_id (W.nt x hm)]; exact hm⟩
  fn := fun t ht h hh h6 => by
    have := (W.headNT ht hh).1
    cases this <;> first | (cases h6; done) | exact ⟨_, _, rfl⟩
  rcd := fun t ht h hh h5 => by
    have := (W.headNT ht hh).1
    cases this <;> first | (cases h5; done) | skip
    rename_i ns l hs hl hn h
    exact ⟨hl, hs⟩
theorem EnvW.inj (W : EnvW by_ e C) : ∀ a b x y, GC' C a → GC' C b → x ∈ hdE e a → y ∈ hdE e b → txE x = txE y → x = y := fun a b x y ha hb hx hy h => by
  have h1 := (W.headNT ha hx).1
  have h2 := (W.headNT hb hy).1
  unfold txE at h
  rw [normT_id h1, normT_id h2] at h
  exact h1.inj h2 h
def ppE (C : List TA) : List (Bytes × Bytes) := (dynT :: C).flatMap fun x => (dynT :: C).map fun y => (prT x 0, prT y 0)
theorem EnvW.fin2 (W : EnvW by_ e C) : Fin2 (GC' C) (hdE e) txE (ppE C) := fun a b x y ha hb hx hy => by
  have key : ∀ {t h : TA}, GC' C t → h ∈ hdE e t → h ∈ dynT :: C := fun ht hh => by
    rcases W.head ht hh with rfl | h'
    · simp
    · simp [h'.1]
  unfold txE
  rw [normT_id (W.headNT ha hx).1, normT_id (W.headNT hb hy).1]
  exact List.mem_flatMap.2 ⟨x, key ha hx, List.mem_map.2 ⟨y, key hb hy, rfl⟩⟩
theorem EnvW.finl (W : EnvW by_ e C) : (ppE C).length < 2 ^ 40 := by
  have h : ∀ (l : List TA) (m : Nat) (f : TA → List (Bytes × Bytes)), (∀ x, (f x).length = m) → (l.flatMap f).length = l.length * m := by
    intro l m f hf
    induction l with
    | nil => simp
    | cons x l ih => rw [List.flatMap_cons, List.length_append, hf, ih, List.length_cons, Nat.add_mul]; omega
  unfold ppE
  rw [h _ (dynT :: C).length _ fun x => by rw [List.length_map]]
  have := W.fin
  have h1 : (dynT :: C).length ≤ 2 ^ 19 + 1 := by simp; omega
  exact Nat.lt_of_le_of_lt (Nat.mul_le_mul h1 h1) (by decide)

theorem partsU_len (l : List TA) : (partsU l).length ≤ l.length := by
  unfold partsU
  rw [List.length_map]
  have h1 := (dedK_sub (sortP (keyT l))).length_le
  have h2 := (sortP_perm (keyT l)).length_eq
  have h3 : (keyT l).length = l.length := by simp [keyT]
  omega

noncomputable def EnvW.jw {T : Tab} (W : EnvW by_ e C) (F : SubFns T) : JW T e where
  G := GC' C
  hd := hdE e
  tx := txE
  heads := fun t ht => by
    obtain ⟨n, h1, h2, h3⟩ := W.some _ ht.2.2
    have hE : ∀ p ∈ e.by_, wtT p.2 ≤ 2 ^ 40 := fun p hp => by
      rw [W.ok.hby] at hp
      have := W.wt _ (W.mem p hp)
      omega
    have hw : ∀ y ∈ sprL e (normT t), wtT y ≤ 2 ^ 30 := fun y hy => by
      rcases W.spr ((sprL_iff W.ok W.nodup _ _).1 hy) ht.2.2 with rfl | h'
      · decide
      · exact W.wt y h'
    have hl := W.slen _ ht.2.2
    have hok := okN_many (fun y hy => (h3 y hy).1) hl hw (by rw [flatT_id fun y hy => (h3 y hy).2.1]; exact hl)
    have := heads_spec F.toAliFns e hE n t _ h1 hl (okN_gt ht.1 ht.2.1) (by have := wt_normT t; have := ht.2.1; omega) hok
    rw [heads_join (fun y hy => ⟨(h3 y hy).1, (h3 y hy).2.1⟩) h2] at this
    exact this
  hlen := fun t ht => by
    have hl := W.slen _ ht.2.2
    have := partsU_len (sprL e (normT t))
    unfold hdE headsOf
    split
    · decide
    · omega
  text := fun t ht h hh => by
    obtain ⟨h1, h2⟩ := W.headNT ht hh
    have := Text_spec F.toTypFns h (okN_gt h1.gt h2) (by rw [normT_id h1]; omega) (by rw [normT_id h1]; exact h1.wf)
    exact this
  sub := fun t ht h hh => W.heads.sub t ht h hh
  fn := fun t ht h hh => W.heads.fn t ht h hh
  rcd := fun t ht h hh h5 => by
    have h1 := W.heads.rcd t ht h hh h5
    refine ⟨h1.1, h1.2, ?_⟩
    have h2 := (W.headNT ht hh).2
    obtain ⟨k, nm, ns, l⟩ := h
    rw [wtT] at h2
    have := ns_le ns
    simp only [TA.names]
    omega

open Classical in
theorem EnvW.sub {T : Tab} (W : EnvW by_ e C) (F : SubFns T) {a b : TA} (ha : GC' C a) (hb : GC' C b) : EK T.L 162 [a.av, b.av] e (.bool (decide (LE (GC' C) (hdE e) false a b))) := by
  obtain ⟨n, r, S', h⟩ := judge_total (loose := false) W.fin2 W.finl W.heads ha hb
  have := Sub_spec F (W.jw F) a b ha hb n r S' h
  have hr := judge_right W.heads W.inj ha hb h
  have : decide (LE (GC' C) (hdE e) false a b) = r := by
    cases r
    · exact decide_eq_false fun hh => by have := hr.2 hh; cases this
    · exact decide_eq_true (hr.1 rfl)
  rw [this]
  assumption
open Classical in
theorem EnvW.fits {T : Tab} (W : EnvW by_ e C) (F : SubFns T) {a b : TA} (ha : GC' C a) (hb : GC' C b) : EK T.L 163 [a.av, b.av] e (.bool (decide (LE (GC' C) (hdE e) true a b))) := by
  obtain ⟨n, r, S', h⟩ := judge_total (loose := true) W.fin2 W.finl W.heads ha hb
  have := Fits_spec F (W.jw F) a b ha hb n r S' h
  have hr := judge_right W.heads W.inj ha hb h
  have : decide (LE (GC' C) (hdE e) true a b) = r := by
    cases r
    · exact decide_eq_false fun hh => by have := hr.2 hh; cases this
    · exact decide_eq_true (hr.1 rfl)
  rw [this]
  assumption

theorem spread_len {B : Nat} (hB : 1 ≤ B) (hE : NewOK by_ e) (hnd : (by_.map (·.1)).Nodup) (hx : ∀ nm, ¬ EmptyN by_ nm → (sprL e (lookP by_ nm)).length ≤ B) : ∀ n, (∀ t ys, spreadF e n t = some ys → ys.length ≤ B * wtT t) ∧ (∀ l ys, spreadsF e n l = some ys → ys.length ≤ B * wtL l)
  | 0 => ⟨fun t ys h => (by rw [spreadF] at h; cases h), fun l ys h => (by rw [spreadsF] at h; cases h)⟩
  | n + 1 => by
    obtain ⟨h1, h2⟩ := spread_len hB hE hnd hx n
    have hone : ∀ t : TA, B ≤ B * wtT t := fun t => by
      have := wt_l t
      exact Nat.le_mul_of_pos_right _ (by omega)
    refine ⟨fun t ys h => ?_, fun l ys h => ?_⟩
    · obtain ⟨k, nm, ns, l⟩ := t
      have h0 := hone (.mk k nm ns l)
      rw [spreadF] at h
      split at h
      · split at h
        · cases h; simp only [List.length_singleton]; omega
        · rename_i he
          have he : ¬ EmptyN by_ nm := fun h => he ((empty_right hE hnd nm).2 h)
          rw [def_look, hE.hby] at h
          have := hx nm he
          rw [sprL_eq h] at this
          omega
      · split at h
        · have := h2 _ _ h
          have h3 := wt_l (.mk k nm ns l)
          exact Nat.le_trans this (Nat.mul_le_mul_left _ (by simp only [TA.l] at h3; omega))
        · cases h; simp only [List.length_singleton]; omega
    · cases l with
      | nil => rw [spreadsF] at h; cases h; simp
      | cons t l =>
        rw [spreadsF] at h
        cases hx : spreadF e n t with
        | none => rw [hx] at h; cases h
        | some xs =>
          cases hr : spreadsF e n l with
          | none => rw [hx, hr] at h; cases h
          | some zs =>
            rw [hx, hr] at h
            cases h
            have k1 := h1 _ _ hx
            have k2 := h2 _ _ hr
            rw [wtL, List.length_append, Nat.mul_add, Nat.mul_add]
            omega

end Go.Ag
/- The greatest sound relation: laws of it. -/
set_option linter.unusedVariables false
namespace Go.Ag
open Go

section
variable {G : TA → Prop} {hd : TA → List TA} {loose : Bool}

theorem LE.out {a b : TA} (h : LE G hd loose a b) : G a ∧ G b ∧ HeadsR hd loose (BodyR (LE G hd loose)) a b := by
  obtain ⟨R, hs, hab⟩ := h
  obtain ⟨h1, h2, h3⟩ := hs a b hab
  exact ⟨h1, h2, h3.mono fun x y hb => hb.mono fun a b h => ⟨R, hs, h⟩⟩
theorem LE.coind {R : TA → TA → Prop} (hR : ∀ a b, R a b → G a ∧ G b ∧ HeadsR hd loose (BodyR fun a b => R a b ∨ LE G hd loose a b) a b) {a b : TA} (h : R a b) : LE G hd loose a b :=
  ⟨fun a b => R a b ∨ LE G hd loose a b, fun a b h => by
    rcases h with h | h
    · exact hR a b h
    · obtain ⟨h1, h2, h3⟩ := h.out
      exact ⟨h1, h2, h3.mono fun x y hb => hb.mono fun a b h => .inr h⟩, .inl h⟩
theorem LE.fold {a b : TA} (ha : G a) (hb : G b) (h : HeadsR hd loose (BodyR (LE G hd loose)) a b) : LE G hd loose a b :=
  LE.coind (R := fun x y => x = a ∧ y = b) (fun x y ⟨h1, h2⟩ => by subst h1 h2; exact ⟨ha, hb, h.mono fun x y hb => hb.mono fun a b h => .inr h⟩) ⟨rfl, rfl⟩
theorem HeadsR.congr {B : TA → TA → Prop} {a b a' b' : TA} (h1 : ∀ x, x ∈ hd a' → x ∈ hd a) (h2 : ∀ x, x ∈ hd b → x ∈ hd b') (h : HeadsR hd loose B a b) : HeadsR hd loose B a' b' := fun x hx =>
  let ⟨y, hy, hu⟩ := h x (h1 x hx)
  ⟨y, h2 y hy, hu⟩
theorem LE.congr {a b a' b' : TA} (ha : G a') (hb : G b') (h1 : ∀ x, x ∈ hd a' → x ∈ hd a) (h2 : ∀ x, x ∈ hd b → x ∈ hd b') (h : LE G hd loose a b) : LE G hd loose a' b' :=
  LE.fold ha hb (h.out.2.2.congr h1 h2)

theorem lowI_at {ns : List Bytes} (hs : ns.Pairwise (· < ·)) {i : Nat} (hi : i < ns.length) : lowI ns ns[i] = i := by
  have h := (lowI_has hs).2 (List.getElem_mem hi)
  obtain ⟨h1, h2⟩ := List.getElem?_eq_some_iff.1 h
  have hp := List.pairwise_iff_getElem.1 hs
  rcases Nat.lt_trichotomy (lowI ns ns[i]) i with h' | h' | h'
  · have := hp _ _ h1 hi h'
    rw [h2] at this; exact absurd this (List.lt_irrefl _)
  · exact h'
  · have := hp _ _ hi h1 h'
    rw [h2] at this; exact absurd this (List.lt_irrefl _)

theorem UndR.refl (H : HeadsOK G hd) {R : TA → TA → Prop} (hr : ∀ a, G a → R a a) {a x : TA} (ha : G a) (hx : x ∈ hd a) : UndR loose (BodyR R) x x := by
  by_cases h4 : x.kind = 4
  · exact .inl ⟨.inl h4, by simp⟩
  · refine .inr ⟨fun h => h.elim h4 h4, rfl, ?_⟩
    by_cases h56 : x.kind ≠ 5 ∧ x.kind ≠ 6
    · exact .inl h56
    · refine .inr ?_
      unfold BodyR
      split
      · rename_i h5
        obtain ⟨k1, k2⟩ := H.rcd a ha x hx h5
        intro p hp
        obtain ⟨i, hi, e⟩ := List.getElem_of_mem hp
        rw [List.length_zip] at hi
        rw [List.getElem_zip] at e
        have h1 : i < x.names.length := by omega
        have h2 : i < x.l.length := by omega
        subst e
        dsimp only
        refine ⟨List.getElem_mem h1, ?_⟩
        rw [lowI_at k2 h1, List.getElem?_eq_getElem h2]
        exact hr _ (H.sub a ha x hx _ (List.getElem_mem h2))
      · rename_i h5
        obtain ⟨x0, x1, e⟩ := H.fn a ha x hx (by omega)
        exact ⟨x0, x1, x0, x1, e, e, hr _ (H.sub a ha x hx _ (by rw [e]; simp)), hr _ (H.sub a ha x hx _ (by rw [e]; simp))⟩
theorem LE.refl (H : HeadsOK G hd) {a : TA} (ha : G a) : LE G hd loose a a :=
  LE.coind (R := fun x y => x = y ∧ G x) (fun x y ⟨h1, h2⟩ => by
    subst h1
    exact ⟨h2, h2, fun z hz => ⟨z, hz, UndR.refl H (fun a ha => .inl ⟨rfl, ha⟩) h2 hz⟩⟩) ⟨rfl, ha⟩
theorem LE.same (H : HeadsOK G hd) {a b : TA} (ha : G a) (hb : G b) (h : ∀ x, x ∈ hd a ↔ x ∈ hd b) : LE G hd loose a b :=
  (LE.refl H ha).congr ha hb (fun x hx => hx) fun x hx => (h x).1 hx
end

mutual
def subsT : TA → List TA
  | .mk k nm ns l => .mk k nm ns l :: subsL l
def subsL : List TA → List TA
  | [] => []
  | t :: l => subsT t ++ subsL l
end
theorem subsL_mem {l : List TA} {x : TA} : x ∈ subsL l ↔ ∃ t ∈ l, x ∈ subsT t := by
  induction l with
  | nil => simp [subsL]
  | cons t l ih => rw [subsL, List.mem_append, ih]; simp
theorem subs_self (t : TA) : t ∈ subsT t := by obtain ⟨k, nm, ns, l⟩ := t; rw [subsT]; simp
theorem subs_wt : ∀ (n : Nat) (t : TA), wtT t ≤ n → (∀ x ∈ subsT t, wtT x ≤ wtT t ∧ ∀ y ∈ x.l, y ∈ subsT t) ∧ 16 * (subsT t).length ≤ wtT t
  | 0, t, h => by have := wt_l t; omega
  | n + 1, t, h => by
    have ih := subs_wt n
    obtain ⟨k, nm, ns, l⟩ := t
    rw [wtT] at h
    have hl : ∀ t ∈ l, wtT t + 8 ≤ wtL l := fun t ht => wtL_mem ht
    have hlen : 16 * (subsL l).length ≤ wtL l := by
      have : ∀ m : List TA, (∀ t ∈ m, wtT t ≤ n) → 16 * (subsL m).length ≤ wtL m := by
        intro m
        induction m with
        | nil => intro _; simp [subsL]
        | cons t m ihm =>
          intro hm
          rw [subsL, List.length_append, wtL]
          have h1 := (ih t (hm t (by simp))).2
          have h2 := ihm fun x hx => hm x (by simp [hx])
          omega
      exact this l fun t ht => by have := hl t ht; omega
    refine ⟨fun x hx => ?_, ?_⟩
    · rw [subsT] at hx
      rcases List.mem_cons.1 hx with rfl | hx
      · refine ⟨Nat.le_refl _, fun y hy => ?_⟩
        rw [subsT]
        exact List.mem_cons_of_mem _ (subsL_mem.2 ⟨y, hy, subs_self y⟩)
      · obtain ⟨t, ht, hx⟩ := subsL_mem.1 hx
        have h1 := hl t ht
        obtain ⟨k1, k2⟩ := (ih t (by omega)).1 x hx
        refine ⟨by rw [wtT]; omega, fun y hy => ?_⟩
        rw [subsT]
        exact List.mem_cons_of_mem _ (subsL_mem.2 ⟨t, ht, k2 y hy⟩)
    · rw [subsT, List.length_cons, wtT]; omega
theorem subs_nt : ∀ (n : Nat) (t : TA), wtT t ≤ n → NT t → ∀ x ∈ subsT t, NT x
  | 0, t, h => by have := wt_l t; omega
  | n + 1, t, h => by
    have ih := subs_nt n
    intro hn x hx
    have hp := hn.parts
    obtain ⟨k, nm, ns, l⟩ := t
    rw [wtT] at h
    rw [subsT] at hx
    rcases List.mem_cons.1 hx with rfl | hx
    · exact hn
    · obtain ⟨t, ht, hx⟩ := subsL_mem.1 hx
      have := wtL_mem ht
      exact ih t (by omega) (hp t ht) x hx

variable {by_ : List (Bytes × TA)} {e : EnvA} {C : List TA}

theorem EnvW.mem_hd (W : EnvW by_ e C) {t x : TA} (ht : GC' C t) : x ∈ hdE e t ↔ (Spr by_ (normT t) dynT ∧ x = dynT) ∨ (¬ Spr by_ (normT t) dynT ∧ Spr by_ (normT t) x) := by
  obtain ⟨_, _, h2, h3⟩ := W.some _ ht.2.2
  have hi := fun y => sprL_iff W.ok W.nodup (normT t) y
  have hany : (sprL e (normT t)).any (fun t => t.kind == 4) = true ↔ Spr by_ (normT t) dynT := by
    rw [List.any_eq_true]
    refine ⟨fun ⟨y, hy, h4⟩ => ?_, fun h => ⟨dynT, (hi dynT).2 h, rfl⟩⟩
    have := (h3 y hy).1.dyn_eq (by simpa using h4)
    rw [← this]
    exact (hi y).1 hy
  unfold hdE headsOf
  by_cases hd : Spr by_ (normT t) dynT
  · rw [if_pos (hany.2 hd), List.mem_singleton]
    simp [hd]
  · rw [if_neg fun h => hd (hany.1 h), partsU_iff fun y hy => (h3 y hy).1, hi]
    simp [hd]
theorem spr_self {t x : TA} (h7 : t.kind ≠ 7) (h8 : t.kind ≠ 8) : Spr by_ t x ↔ x = t := by
  refine ⟨fun h => ?_, fun h => by subst h; exact .self _ h7 h8⟩
  cases h with
  | self => rfl
  | part => exact absurd rfl h7
  | emp => exact absurd rfl h8
  | ref => exact absurd rfl h8
theorem spr_uni {l : List TA} {x : TA} : Spr by_ (.mk 7 [] [] l) x ↔ ∃ t ∈ l, Spr by_ t x := by
  refine ⟨fun h => ?_, fun ⟨t, ht, h⟩ => .part [] [] l t x ht h⟩
  cases h with
  | self h h7 _ => exact absurd rfl h7
  | part _ _ _ t _ ht h => exact ⟨t, ht, h⟩
theorem spr_ref {nm : Bytes} (he : ¬ EmptyN by_ nm) {x : TA} : Spr by_ (.mk 8 nm [] []) x ↔ Spr by_ (lookP by_ nm) x := by
  refine ⟨fun h => ?_, fun h => .ref nm [] [] x he h⟩
  cases h with
  | self h _ h8 => exact absurd rfl h8
  | emp _ _ _ h => exact absurd h he
  | ref _ _ _ _ _ h => exact h

theorem spread_bare {e : EnvA} : ∀ n, (∀ t ys, bareT t = [] → spreadF e n t = some ys → 16 * ys.length ≤ wtT t) ∧ (∀ l ys, bareL l = [] → spreadsF e n l = some ys → 16 * ys.length ≤ wtL l)
  | 0 => ⟨fun t ys _ h => (by rw [spreadF] at h; cases h), fun l ys _ h => (by rw [spreadsF] at h; cases h)⟩
  | n + 1 => by
    obtain ⟨h1, h2⟩ := spread_bare (e := e) n
    refine ⟨fun t ys hb h => ?_, fun l ys hb h => ?_⟩
    · obtain ⟨k, nm, ns, l⟩ := t
      rw [bareT] at hb
      rw [spreadF] at h
      split at h
      · rename_i h8
        rw [if_pos h8] at hb; cases hb
      · rename_i h8
        rw [if_neg h8] at hb
        split at h
        · rename_i h7
          rw [if_pos h7] at hb
          have := h2 _ _ hb h
          rw [wtT]; omega
        · cases h; rw [wtT]; simp only [List.length_singleton]; omega
    · cases l with
      | nil => rw [spreadsF] at h; cases h; simp
      | cons t l =>
        rw [bareL] at hb
        obtain ⟨b1, b2⟩ := List.append_eq_nil_iff.1 hb
        rw [spreadsF] at h
        cases hx : spreadF e n t with
        | none => rw [hx] at h; cases h
        | some xs =>
          cases hr : spreadsF e n l with
          | none => rw [hx, hr] at h; cases h
          | some zs =>
            rw [hx, hr] at h
            cases h
            have k1 := h1 _ _ b1 hx
            have k2 := h2 _ _ b2 hr
            rw [wtL, List.length_append]
            omega

theorem envW_of (hE : NewOK by_ e) (hnd : (by_.map (·.1)).Nodup) (bs : List TA) (hb : ∀ p ∈ by_, p.2 ∈ bs) (hn : ∀ t ∈ bs, NT t) (hw : ∀ t ∈ bs, wtT t ≤ 2 ^ 16) (hl : bs.length ≤ 16) (hbare : ∀ nm, ¬ EmptyN by_ nm → bareT (lookP by_ nm) = []) : EnvW by_ e (bs.flatMap subsT) where
  ok := hE
  nodup := hnd
  mem := fun p hp => List.mem_flatMap.2 ⟨p.2, hb p hp, subs_self _⟩
  nt := fun t ht => by
    obtain ⟨b, hb, ht⟩ := List.mem_flatMap.1 ht
    exact subs_nt _ b (Nat.le_refl _) (hn b hb) t ht
  cl := fun t ht x hx => by
    obtain ⟨b, hb, ht⟩ := List.mem_flatMap.1 ht
    exact List.mem_flatMap.2 ⟨b, hb, ((subs_wt _ b (Nat.le_refl _)).1 t ht).2 x hx⟩
  wt := fun t ht => by
    obtain ⟨b, hb, ht⟩ := List.mem_flatMap.1 ht
    have h1 := ((subs_wt _ b (Nat.le_refl _)).1 t ht).1
    have h2 := hw b hb
    omega
  fin := by
    have : ∀ (l : List TA), (∀ t ∈ l, wtT t ≤ 2 ^ 16) → (l.flatMap subsT).length ≤ l.length * 2 ^ 12 := by
      intro l
      induction l with
      | nil => intro _; simp
      | cons t l ih =>
        intro h
        rw [List.flatMap_cons, List.length_append, List.length_cons, Nat.add_mul]
        have h1 := (subs_wt _ t (Nat.le_refl _)).2
        have h2 := h t (by simp)
        have h3 := ih fun x hx => h x (by simp [hx])
        omega
    have h1 := this bs hw
    have h2 : bs.length * 2 ^ 12 ≤ 16 * 2 ^ 12 := Nat.mul_le_mul_right _ hl
    omega
  slen := fun t ht => by
    obtain ⟨b, hb', ht⟩ := List.mem_flatMap.1 ht
    have h1 := ((subs_wt _ b (Nat.le_refl _)).1 t ht).1
    have h2 := hw b hb'
    obtain ⟨n, hs⟩ := sprL_some hE hnd t
    have h3 := (spread_len (B := 2 ^ 12) (by decide) hE hnd (fun nm hne => by
      obtain ⟨m, hm⟩ := sprL_some hE hnd (lookP by_ nm)
      have h4 := (spread_bare m).1 _ _ (hbare nm hne) hm
      obtain ⟨_, p, hp, h5⟩ := lookP_nt (fun p hp => hn _ (hb p hp)) hne
      have h6 := hw _ (hb p hp)
      rw [← h5] at h6
      omega) n).1 t _ hs
    have h7 : 2 ^ 12 * wtT t ≤ 2 ^ 12 * 2 ^ 16 := Nat.mul_le_mul_left _ (by omega)
    omega

end Go.Ag
/- Heads of a union. -/
set_option linter.unusedVariables false
namespace Go.Ag
open Go

variable {by_ : List (Bytes × TA)} {e : EnvA} {C : List TA}

theorem spr_parts {t x : TA} (ht : NT t) : Spr by_ t x ↔ ∃ p ∈ partsT t, Spr by_ p x := by
  unfold partsT
  split
  · rename_i h7
    cases ht with
    | uni l => exact spr_uni
    | _ => cases h7
  · simp
theorem spr_unionP {l : List TA} {x : TA} (h0 : l ≠ []) : Spr by_ (unionP l) x ↔ ∃ p ∈ l, Spr by_ p x := by
  match l, h0 with
  | [t], _ => simp [unionP]
  | t :: u :: l, _ => exact spr_uni
theorem spr_flat {l : List TA} {x : TA} (hl : ∀ t ∈ l, NT t) : (∃ t ∈ l, Spr by_ t x) ↔ ∃ p ∈ flatT l, Spr by_ p x := by
  refine ⟨fun ⟨t, ht, h⟩ => ?_, fun ⟨p, hp, h⟩ => ?_⟩
  · obtain ⟨p, hp, h⟩ := (spr_parts (hl t ht)).1 h
    exact ⟨p, flatT_mem.2 ⟨t, ht, hp⟩, h⟩
  · obtain ⟨t, ht, hp⟩ := flatT_mem.1 hp
    exact ⟨t, ht, (spr_parts (hl t ht)).2 ⟨p, hp, h⟩⟩

theorem spr_join {l : List TA} (hl : ∀ t ∈ l, GT t) (h0 : l ≠ []) : (Spr by_ (normT (.mk 7 [] [] l)) dynT ↔ ∃ t ∈ l, Spr by_ (normT t) dynT) ∧ ((¬ ∃ t ∈ l, Spr by_ (normT t) dynT) → ∀ x, Spr by_ (normT (.mk 7 [] [] l)) x ↔ ∃ t ∈ l, Spr by_ (normT t) x) := by
  have hN : ∀ t ∈ normL l, NT t := fun t ht => by
    rw [normL_map] at ht
    obtain ⟨u, hu, rfl⟩ := List.mem_map.1 ht
    exact normT_nt (hl u hu)
  have hmap : ∀ x, (∃ t ∈ l, Spr by_ (normT t) x) ↔ ∃ p ∈ flatT (normL l), Spr by_ p x := fun x => by
    rw [← spr_flat hN, normL_map]
    refine ⟨fun ⟨t, ht, h⟩ => ⟨normT t, List.mem_map.2 ⟨t, ht, rfl⟩, h⟩, fun ⟨t, ht, h⟩ => ?_⟩
    obtain ⟨u, hu, rfl⟩ := List.mem_map.1 ht
    exact ⟨u, hu, h⟩
  have hne : flatT (normL l) ≠ [] := flatT_ne hN (by rw [normL_map]; simpa using h0)
  have hf := flatT_nt hN
  rw [normT, if_pos rfl, unionT_eq]
  cases hd : (flatT (normL l)).find? (fun t => t.kind == 4) with
  | some t =>
    have hm := List.mem_of_find?_eq_some hd
    have h4 : t.kind = 4 := by simpa using List.find?_some (p := fun t : TA => t.kind == 4) hd
    have := (hf t hm).1.dyn_eq h4
    subst this
    have hdyn : ∃ t ∈ l, Spr by_ (normT t) dynT := (hmap dynT).2 ⟨dynT, hm, .self _ (by decide) (by decide)⟩
    exact ⟨⟨fun _ => hdyn, fun _ => .self dynT (show dynT.kind ≠ 7 by decide) (show dynT.kind ≠ 8 by decide)⟩, fun h => absurd hdyn h⟩
  | none =>
    have key : ∀ x, Spr by_ (unionP (partsU (flatT (normL l)))) x ↔ ∃ t ∈ l, Spr by_ (normT t) x := fun x => by
      rw [spr_unionP (partsU_ne hne), hmap]
      refine ⟨fun ⟨p, hp, h⟩ => ⟨p, partsU_mem hp, h⟩, fun ⟨p, hp, h⟩ => ⟨p, (partsU_iff fun t ht => (hf t ht).1).2 hp, h⟩⟩
    exact ⟨key dynT, fun _ => key⟩

theorem EnvW.hd_one (W : EnvW by_ e C) {t u x : TA} (ht : GC' C t) (hu : normT t = u) (h7 : u.kind ≠ 7) (h8 : u.kind ≠ 8) : x ∈ hdE e t ↔ x = u := by
  rw [W.mem_hd ht, hu, spr_self h7 h8, spr_self h7 h8]
  by_cases h : dynT = u
  · subst h; simp
  · simp [h]
theorem EnvW.hd_two (W : EnvW by_ e C) {t u v x : TA} (ht : GC' C t) (hu : ∀ x, Spr by_ (normT t) x ↔ x = u ∨ x = v) (h4 : u.kind ≠ 4) (h5 : v.kind ≠ 4) : x ∈ hdE e t ↔ x = u ∨ x = v := by
  rw [W.mem_hd ht, hu, hu]
  have h1 : ¬ (dynT = u ∨ dynT = v) := fun h => h.elim (fun h => h4 (by rw [← h]; rfl)) (fun h => h5 (by rw [← h]; rfl))
  simp [h1]

end Go.Ag
/- The types that a reader reads are good ones, and no bigger than their text. -/
set_option linter.unusedVariables false
namespace Go.Ag
open Go

def TokG (m : Nat) (s : RS) : Prop := ∀ t ∈ s.toks, (t.kind = 1 → gName t.text) ∧ t.text.length ≤ m
theorem TokG.le {m : Nat} {s s' : RS} (h : TokG m s) (hl : s.le s') : TokG m s' := by unfold TokG; rw [hl.toks]; exact h

theorem take_bad1 {s : RS} {w : Bytes} (h : s.bad = true) : takeR s w = s := by
  unfold takeR isR giveR
  simp [h]
theorem comma_bad {s : RS} (h : (commaR s).bad = false) : s.bad = false := by
  cases hb : s.bad
  · rfl
  · exfalso
    unfold commaR at h
    have h1 : isR s kRb = false := by unfold isR; simp [hb]
    rw [h1, take_bad1 hb, h1] at h
    simp [hb] at h
theorem alts_bad {n d : Nat} {l : List TA} {s : RS} (h : (altsR n d l s).2.bad = false) : s.bad = false := by
  cases hb : s.bad
  · rfl
  · exfalso
    have h1 : isR s kBar = false := by unfold isR; simp [hb]
    cases n with
    | zero => rw [altsR] at h; rw [hb] at h; cases h
    | succ n => rw [altsR, h1] at h; simp [hb] at h
theorem fields_bad {n d : Nat} {o : TA} {s : RS} (h : (fieldsR n d o s).2.bad = false) : s.bad = false := by
  cases hb : s.bad
  · rfl
  · exfalso
    cases n with
    | zero => rw [fieldsR] at h; rw [hb] at h; cases h
    | succ n => rw [fieldsR] at h; simp [hb, take_bad1 hb] at h
theorem arrow_bad {n d : Nat} {s : RS} (h : (arrowR n d s).2.bad = false) (hn : 2 ≤ n) : s.bad = false := by
  cases hb : s.bad
  · rfl
  · exfalso
    obtain ⟨m, rfl⟩ : ∃ m, n = m + 2 := ⟨n - 2, by omega⟩
    have hp : plainR (m + 1) d s = (zeroT, s) := by rw [plainR, if_pos hb]
    have h1 : isR s kArr = false := by unfold isR; simp [hb]
    rw [arrowR, hp, h1] at h
    simp [hb] at h

theorem tok_g {m : Nat} {s : RS} (hs : s.ok) (h : TokG m s) : (s.tok.kind = 1 → gName s.tok.text) ∧ s.tok.text.length ≤ m := h _ (List.mem_of_getElem? (tok_at hs))

theorem ins_sorted {ns : List Bytes} {nm : Bytes} (h : ns.Pairwise (· < ·)) (hn : nm ∉ ns) : (insR ns (lowR ns nm) nm).Pairwise (· < ·) := by
  have h1 : ((ns.map fun n => (n, ())).map (·.1)) = ns := by rw [List.map_map]; exact (List.map_congr_left (g := id) fun x _ => rfl).trans (List.map_id ns)
  have h2 := insP_sorted (l := ns.map fun n => (n, ())) (p := (nm, ())) (by rw [List.pairwise_map]; exact h) (fun q hq => by
    obtain ⟨n, hm, rfl⟩ := List.mem_map.1 hq
    rintro rfl; exact hn hm)
  unfold insP at h2
  rw [h1] at h2
  have h3 : ((insR (ns.map fun n => (n, ())) (lowR ns nm) (nm, ())).map (·.1)).Pairwise (· < ·) := List.pairwise_map.2 h2
  rw [insR_map, h1] at h3
  exact h3
theorem ins_mem {α : Type} {l : List α} {i : Nat} {x y : α} (h : y ∈ insR l i x) : y = x ∨ y ∈ l := by
  unfold insR at h
  simp only [List.mem_append, List.mem_singleton] at h
  rcases h with (h | h) | h
  · exact .inr (List.mem_of_mem_take h)
  · exact .inl h
  · exact .inr (List.mem_of_mem_drop h)
theorem ins_sum {α : Type} (f : α → Nat) (l : List α) (i : Nat) (x : α) : ((insR l i x).map f).sum = (l.map f).sum + f x := by
  unfold insR
  have h : (l.map f).sum = ((l.take i).map f).sum + ((l.drop i).map f).sum := by
    conv => lhs; rw [← List.take_append_drop i l]
    rw [List.map_append, List.sum_append_nat]
  rw [h]
  simp only [List.map_append, List.sum_append_nat, List.map_cons, List.map_nil, List.sum_cons, List.sum_nil]
  omega

structure GoodR (m n : Nat) : Prop where
  typ : ∀ d s, s.ok → TokG m s → 6 * s.rem + 6 ≤ n → ((typeR n d s).2.bad = false → GT (typeR n d s).1) ∧ wtT (typeR n d s).1 ≤ 48 + (80 + m) * ((typeR n d s).2.i - s.i)
  alts : ∀ d l s, s.ok → TokG m s → 6 * s.rem + 1 ≤ n → ((altsR n d l s).2.bad = false → (∀ t ∈ l, GT t) → ∀ t ∈ (altsR n d l s).1, GT t) ∧ (l ≠ [] → (altsR n d l s).1 ≠ []) ∧ wtL (altsR n d l s).1 ≤ wtL l + (80 + m) * ((altsR n d l s).2.i - s.i)
  arrow : ∀ d s, s.ok → TokG m s → 6 * s.rem + 5 ≤ n → ((arrowR n d s).2.bad = false → GT (arrowR n d s).1) ∧ wtT (arrowR n d s).1 ≤ 16 + (80 + m) * ((arrowR n d s).2.i - s.i)
  plain : ∀ d s, s.ok → TokG m s → 6 * s.rem + 4 ≤ n → ((plainR n d s).2.bad = false → GT (plainR n d s).1) ∧ wtT (plainR n d s).1 ≤ 16 + (80 + m) * ((plainR n d s).2.i - s.i)
  fields : ∀ d o s, s.ok → TokG m s → 6 * s.rem + 8 ≤ n → (∃ ns l, o = .mk 5 [] ns l) → ((fieldsR n d o s).2.bad = false → (∃ ns l, o = .mk 5 [] ns l ∧ ns.Pairwise (· < ·) ∧ ns.length = l.length ∧ (∀ n ∈ ns, gName n) ∧ ∀ t ∈ l, GT t) → GT (fieldsR n d o s).1) ∧ wtT (fieldsR n d o s).1 ≤ wtT o + (80 + m) * ((fieldsR n d o s).2.i - s.i)

theorem wt_zeroT : wtT zeroT = 16 := rfl
theorem mulle {c a b : Nat} (h : a ≤ b) : c * a ≤ c * b := Nat.mul_le_mul_left _ h

theorem goodR_all (m : Nat) : ∀ n, GoodR m n := fun n => by
  induction n with
  | zero => exact ⟨fun d s _ _ h => by omega, fun d l s _ _ h => by omega, fun d s _ _ h => by omega, fun d s _ _ h => by omega, fun d o s _ _ h => by omega⟩
  | succ n ih =>
    obtain ⟨l1, l2, l3, l4, l5⟩ := le_types n
    refine ⟨fun d s hs hg hf => ?_, fun d l s hs hg hf => ?_, fun d s hs hg hf => ?_, fun d s hs hg hf => ?_, fun d o s hs hg hf ho => ?_⟩
    · rw [typeR]
      have hle : s.le (if 64 < d then giveR s 3 else s) := by
        split
        · exact give_le hs 3
        · exact RS.le.refl hs
      have hi : (if 64 < d then giveR s 3 else s).i = s.i := by
        split
        · unfold giveR; split <;> rfl
        · rfl
      generalize (if 64 < d then giveR s 3 else s) = s1 at hle hi ⊢
      have hs1 := hs.of hle
      have hg1 := hg.le hle
      have hr1 : s1.rem = s.rem := by unfold RS.rem; rw [hi, hle.toks]
      split
      · rename_i hb
        exact ⟨fun h => absurd hb (by rw [h]; simp), by rw [wt_zeroT]; omega⟩
      · rename_i hb
        obtain ⟨k1, k2⟩ := ih.arrow d s1 hs1 hg1 (by omega)
        have hla := l3 d s1 hs1
        generalize arrowR n d s1 = q at k1 k2 hla ⊢
        obtain ⟨a, s2⟩ := q
        dsimp only at k1 k2 hla ⊢
        have hs2 := hs1.of hla
        have hr2 : s2.rem ≤ s1.rem := hla.rem
        split
        · rename_i hbar
          obtain ⟨j1, j2, j3⟩ := ih.alts d [a] s2 hs2 (hg1.le hla) (by omega)
          have hlb := l2 d [a] s2 hs2
          generalize altsR n d [a] s2 = q2 at j1 j2 j3 hlb ⊢
          obtain ⟨al, s3⟩ := q2
          dsimp only at j1 j2 j3 hlb ⊢
          have hb2 : s2.bad = false := by unfold isR at hbar; cases h : s2.bad <;> simp [h] at hbar ⊢
          refine ⟨fun h => .uni al (j2 (by simp)) (j1 h fun t ht => by rw [List.mem_singleton] at ht; subst ht; exact k1 hb2), ?_⟩
          have hia := hla.i
          have hib := hlb.i
          rw [wtT]
          rw [wtL, wtL] at j3
          simp only [List.length_nil, List.map_nil, List.sum_nil]
          have e1 : (80 + m) * (s3.i - s.i) = (80 + m) * (s2.i - s1.i) + (80 + m) * (s3.i - s2.i) := by rw [← Nat.mul_add]; congr 1; omega
          rw [e1]; omega
        · refine ⟨k1, ?_⟩
          rw [hi] at k2
          dsimp only
          omega
    · rw [altsR]
      split
      · rename_i hbar
        have hrem := take_rem hs hbar
        have hlt := take_le hs kBar
        have hst := hs.of hlt
        have hyes := take_yes hbar
        obtain ⟨k1, k2⟩ := ih.arrow d (takeR s kBar) hst (hg.le hlt) (by omega)
        have hla := l3 d (takeR s kBar) hst
        have hib : (takeR s kBar).i = s.i + 1 := by rw [hyes]
        have hab := @arrow_bad n d (takeR s kBar)
        generalize takeR s kBar = s1 at *
        generalize arrowR n d s1 = q at k1 k2 hla hab ⊢
        obtain ⟨a, s2⟩ := q
        dsimp only at k1 k2 hla hab ⊢
        have hs2 := hst.of hla
        have hr2 : s2.rem ≤ s1.rem := hla.rem
        obtain ⟨j1, j2, j3⟩ := ih.alts d (l ++ [a]) s2 hs2 ((hg.le hlt).le hla) (by omega)
        have hlb := l2 d (l ++ [a]) s2 hs2
        have hbd := @alts_bad n d (l ++ [a]) s2
        generalize altsR n d (l ++ [a]) s2 = q2 at j1 j2 j3 hlb hbd ⊢
        obtain ⟨al, s3⟩ := q2
        dsimp only at j1 j2 j3 hlb hbd ⊢
        refine ⟨fun h hl => j1 h fun t ht => ?_, fun _ => j2 (by simp), ?_⟩
        · rcases List.mem_append.1 ht with ht | ht
          · exact hl t ht
          · rw [List.mem_singleton] at ht; subst ht; exact k1 (hbd h)
        · rw [wtL_append, wtL, wtL] at j3
          have h1 := hla.i
          have h2 := hlb.i
          have e1 : (80 + m) * (s3.i - s.i) = (80 + m) + ((80 + m) * (s2.i - s1.i) + (80 + m) * (s3.i - s2.i)) := by
            rw [← Nat.mul_add]
            have : s3.i - s.i = 1 + (s2.i - s1.i + (s3.i - s2.i)) := by omega
            rw [this, Nat.mul_add, Nat.mul_one]
          rw [e1]; omega
      · exact ⟨fun _ h => h, fun h => h, by dsimp only; omega⟩
    · rw [arrowR]
      obtain ⟨k1, k2⟩ := ih.plain d s hs hg (by omega)
      have hla := l4 d s hs
      generalize plainR n d s = q at k1 k2 hla ⊢
      obtain ⟨a, s1⟩ := q
      dsimp only at k1 k2 hla ⊢
      have hs1 := hs.of hla
      have hr1 : s1.rem ≤ s.rem := hla.rem
      split
      · rename_i harr
        have hb1 : s1.bad = false := by unfold isR at harr; cases h : s1.bad <;> simp [h] at harr ⊢
        have hlt := take_le hs1 kArr
        have hst := hs1.of hlt
        have hrem := take_rem hs1 harr
        have hyes := take_yes harr
        have hib : (takeR s1 kArr).i = s1.i + 1 := by rw [hyes]
        split
        · have hgl := give_le hst 3
          refine ⟨fun h => ?_, ?_⟩
          · exfalso
            have : (takeR s1 kArr).bad = false := by rw [hyes]; exact hb1
            unfold giveR at h
            rw [if_neg (by rw [this]; simp)] at h
            cases h
          · have h1 := hgl.i
            have h2 := hla.i
            have := mulle (c := 80 + m) (show s1.i - s.i ≤ (giveR (takeR s1 kArr) 3).i - s.i by omega)
            dsimp only
            omega
        · obtain ⟨j1, j2⟩ := ih.arrow (d + 1) (takeR s1 kArr) hst ((hg.le hla).le hlt) (by omega)
          have hlb := l3 (d + 1) (takeR s1 kArr) hst
          generalize takeR s1 kArr = s2 at *
          generalize arrowR n (d + 1) s2 = q2 at j1 j2 hlb ⊢
          obtain ⟨b, s3⟩ := q2
          dsimp only at j1 j2 hlb ⊢
          refine ⟨fun h => .fn a b (k1 hb1) (j1 h), ?_⟩
          have h1 := hla.i
          have h2 := hlb.i
          rw [wtT, wtL, wtL, wtL]
          simp only [List.length_nil, List.map_nil, List.sum_nil]
          have e1 : (80 + m) * (s3.i - s.i) = (80 + m) + ((80 + m) * (s1.i - s.i) + (80 + m) * (s3.i - s2.i)) := by
            rw [← Nat.mul_add]
            have : s3.i - s.i = 1 + (s1.i - s.i + (s3.i - s2.i)) := by omega
            rw [this, Nat.mul_add, Nat.mul_one]
          rw [e1]; omega
      · exact ⟨k1, k2⟩
    · rw [plainR]
      have htk := tok_g hs hg
      have hone : ∀ (w : Bytes) (t : TA), isR s w = true → GT t → wtT t = 16 → ((t, takeR s w).2.bad = false → GT (t, takeR s w).1) ∧ wtT (t, takeR s w).1 ≤ 16 + (80 + m) * ((t, takeR s w).2.i - s.i) := fun w t _ hg hw => ⟨fun _ => hg, by dsimp only; omega⟩
      split
      · rename_i hb
        exact ⟨fun h => absurd hb (by rw [h]; simp), by rw [wt_zeroT]; omega⟩
      split
      · rename_i hk
        refine ⟨fun _ => .ref _ (htk.1 hk), ?_⟩
        rw [wtT]
        simp only [List.map_nil, List.sum_nil, wtL, Nat.add_sub_cancel_left, Nat.mul_one]
        have := htk.2
        omega
      split
      · rename_i h; exact hone _ _ h .int rfl
      split
      · rename_i h; exact hone _ _ h .bool rfl
      split
      · rename_i h; exact hone _ _ h .text rfl
      split
      · rename_i h; exact hone _ _ h .dyn rfl
      split
      · rename_i h
        have hlt := take_le hs kLb
        have hrem := take_rem hs h
        have hst := hs.of hlt
        obtain ⟨j1, j2⟩ := ih.fields d (.mk 5 [] [] []) (takeR s kLb) hst (hg.le hlt) (by omega) ⟨_, _, rfl⟩
        have hlb := l5 d (.mk 5 [] [] []) (takeR s kLb) hst
        refine ⟨fun hb => j1 hb ⟨[], [], rfl, by simp, rfl, fun n hn => (by cases hn), fun t ht => (by cases ht)⟩, ?_⟩
        have h0 : wtT (.mk 5 [] [] []) = 16 := rfl
        have h1 := hlt.i
        have := mulle (c := 80 + m) (show (fieldsR n d (.mk 5 [] [] []) (takeR s kLb)).2.i - (takeR s kLb).i ≤ (fieldsR n d (.mk 5 [] [] []) (takeR s kLb)).2.i - s.i by omega)
        omega
      split
      · rename_i hb
        exact ⟨fun h => absurd hb (by rw [h]; simp), by rw [wt_zeroT]; omega⟩
      · rename_i hb
        have hb : (takeR s kLp).bad = false := by simpa using hb
        obtain ⟨hb0, his, hyes⟩ := take_bad hb
        have hlt := take_le hs kLp
        have hrem := take_rem hs his
        have hst := hs.of hlt
        have hib : (takeR s kLp).i = s.i + 1 := by rw [hyes]
        obtain ⟨j1, j2⟩ := ih.typ (d + 1) (takeR s kLp) hst (hg.le hlt) (by omega)
        have hlb := l1 (d + 1) (takeR s kLp) hst
        have hlc := take_le (hst.of hlb) kRp
        refine ⟨fun h => j1 (take_bad h).1, ?_⟩
        have h1 := hlb.i
        have h2 := hlc.i
        generalize takeR s kLp = s1 at *
        generalize typeR n (d + 1) s1 = q at *
        dsimp only
        have e1 := mulle (c := 80 + m) (show (q.2.i - s1.i) + 1 ≤ (takeR q.2 kRp).i - s.i by omega)
        rw [Nat.mul_add, Nat.mul_one] at e1
        omega
    · obtain ⟨ns, l, rfl⟩ := ho
      rw [fieldsR]
      split
      · rename_i hcond
        split
        · rename_i hb
          exact ⟨fun h => absurd hb (by rw [h]; simp), by rw [wt_zeroT]; have := wt_l (.mk 5 [] ns l); omega⟩
        · rename_i hb
          have hb : (takeR (nameR s).2 kColon).bad = false := by simpa using hb
          have hln := name_le hs
          have hlt := hln.trans (take_le (hs.of hln) kColon)
          have hst := hs.of hlt
          have hrem := two_rem hs kColon hb
          obtain ⟨h3, h4, h5⟩ := take_bad hb
          obtain ⟨h6, h7, h8⟩ := name_bad h3
          have hnm : gName (nameR s).1.text ∧ (nameR s).1.text.length ≤ m := by rw [h8]; exact ⟨(tok_g hs hg).1 h7, (tok_g hs hg).2⟩
          have hi2 : (takeR (nameR s).2 kColon).i = s.i + 2 := by rw [h5, h8]
          split
          · have k1 := twice_le hs kColon hb
            have hg1 := hg.le k1
            have hs1 := hs.of k1
            have hrr : (twiceR (takeR (nameR s).2 kColon) (nameR s).1).rem = (takeR (nameR s).2 kColon).rem := rfl
            have hii : (twiceR (takeR (nameR s).2 kColon) (nameR s).1).i = (takeR (nameR s).2 kColon).i := rfl
            have k2 := l1 (d + 1) _ hs1
            have k3 := comma_le (hs1.of k2)
            have r2 := k2.rem
            have r3 := k3.rem
            obtain ⟨j1, j2⟩ := ih.fields d (.mk 5 [] ns l) _ ((hs1.of k2).of k3) ((hg1.le k2).le k3) (by omega) ⟨_, _, rfl⟩
            refine ⟨j1, ?_⟩
            have k4 := l5 d (.mk 5 [] ns l) _ ((hs1.of k2).of k3)
            have e0 := k2.i
            have e1 := k3.i
            have e2 := k4.i
            have := mulle (c := 80 + m) (show (fieldsR n d (.mk 5 [] ns l) (commaR (typeR n (d + 1) (twiceR (takeR (nameR s).2 kColon) (nameR s).1)).2)).2.i - (commaR (typeR n (d + 1) (twiceR (takeR (nameR s).2 kColon) (nameR s).1)).2).i ≤ (fieldsR n d (.mk 5 [] ns l) (commaR (typeR n (d + 1) (twiceR (takeR (nameR s).2 kColon) (nameR s).1)).2)).2.i - s.i by omega)
            omega
          · rename_i hnot
            have hnot : (nameR s).1.text ∉ ns := hasR_not (by simpa [TA.names] using hnot)
            have hg1 := hg.le hlt
            have k2 := l1 (d + 1) _ hst
            have k3 := comma_le (hst.of k2)
            have r2 := k2.rem
            have r3 := k3.rem
            obtain ⟨t1, t2⟩ := ih.typ (d + 1) _ hst hg1 (by omega)
            simp only [TA.names, TA.l]
            generalize takeR (nameR s).2 kColon = s1 at *
            generalize (nameR s).1.text = nm at *
            generalize typeR n (d + 1) s1 = q at *
            obtain ⟨t, s2⟩ := q
            dsimp only at *
            have hc0 := @comma_bad s2
            generalize commaR s2 = s3 at *
            obtain ⟨j1, j2⟩ := ih.fields d (.mk 5 [] (insR ns (lowR ns nm) nm) (insR l (lowR ns nm) t)) s3 ((hst.of k2).of k3) ((hg1.le k2).le k3) (by omega) ⟨_, _, rfl⟩
            have k4 := l5 d (.mk 5 [] (insR ns (lowR ns nm) nm) (insR l (lowR ns nm) t)) s3 ((hst.of k2).of k3)
            have hfb := @fields_bad n d (.mk 5 [] (insR ns (lowR ns nm) nm) (insR l (lowR ns nm) t)) s3
            generalize fieldsR n d (.mk 5 [] (insR ns (lowR ns nm) nm) (insR l (lowR ns nm) t)) s3 = q2 at *
            refine ⟨fun h ⟨ns', l', e, p1, p2, p3, p4⟩ => ?_, ?_⟩
            · cases e
              refine j1 h ⟨_, _, rfl, ins_sorted p1 hnot, ?_, fun n hn => ?_, fun x hx => ?_⟩
              · rw [ins_len, ins_len, p2]
              · rcases ins_mem hn with rfl | hn
                · exact hnm.1
                · exact p3 n hn
              · rcases ins_mem hx with rfl | hx
                · exact t1 (hc0 (hfb h))
                · exact p4 x hx
            · rw [wtT, wtL_sum, ins_sum, ins_sum, ← wtL_sum] at j2
              rw [wtT]
              have e0 := k2.i
              have e1 := k3.i
              have e2 := k4.i
              have hm := hnm.2
              have e3 : (80 + m) * (q2.2.i - s.i) ≥ (80 + m) * 2 + ((80 + m) * (s2.i - s1.i) + (80 + m) * (q2.2.i - s3.i)) := by
                rw [← Nat.mul_add, ← Nat.mul_add]
                exact mulle (by omega)
              omega
      · refine ⟨fun h ⟨ns', l', e, p1, p2, p3, p4⟩ => ?_, by dsimp only; omega⟩
        cases e
        exact .rcd ns l p1 p2 p3 p4

end Go.Ag
/- Types of a source: good, and not much. -/
set_option linter.unusedVariables false
namespace Go.Ag
open Go

theorem span_all {p : UInt8 → Bool} {src : Bytes} {k : Nat} : ∀ c ∈ subA src k (spanA p src k), p c = true := by
  intro c hc
  unfold subA spanA at hc
  have h1 : ((src.take (k + ((src.drop k).takeWhile p).length)).drop k) = (src.drop k).takeWhile p := by
    rw [List.drop_take, Nat.add_sub_cancel_left]
    generalize src.drop k = l
    have h2 : l = l.takeWhile p ++ l.dropWhile p := List.takeWhile_append_dropWhile.symm
    conv => lhs; arg 2; rw [h2]
    rw [List.take_left]
  rw [h1] at hc
  exact mem_tw hc

theorem lexStep_good {src : Bytes} {k : Nat} {c : UInt8} (h : src[k]? = some c) : ∀ t ∈ (lexStep src k c).2.1, t.kind = 1 → gName t.text := by
  have hne := lexStep_named h
  have no : ∀ {n : Int} {a : Int} {x : Bytes}, n ≠ 1 → ∀ t ∈ [(⟨n, a, x⟩ : TokA)], t.kind = 1 → gName t.text := fun hn t ht hk => by
    simp only [List.mem_singleton] at ht; subst ht; exact absurd hk hn
  have nil : ∀ t ∈ ([] : List TokA), t.kind = 1 → gName t.text := fun t ht => by cases ht
  unfold lexStep at hne ⊢
  split at hne
  · rename_i h1; rw [if_pos h1]; exact nil
  rename_i h1
  rw [if_neg h1]
  split at hne
  · rename_i h2; rw [if_pos h2]; exact nil
  rename_i h2
  rw [if_neg h2]
  split at hne
  · rename_i h3
    rw [if_pos h3]
    intro t ht hk
    have hne := hne t ht hk
    simp only [List.mem_singleton] at ht; subst ht
    dsimp only at hk hne ⊢
    have hw : wordA (subA src k (whileA src k alnumL)) = false := by
      cases hw : wordA (subA src k (whileA src k alnumL))
      · rfl
      · rw [hw, if_pos rfl] at hk; cases hk
    have hn : ∀ w ∈ wordsL, subA src k (whileA src k alnumL) ≠ w := fun w hm e => by
      unfold wordA at hw
      rw [List.any_eq_false] at hw
      exact hw w hm (by rw [e]; simp)
    exact ⟨hne, span_all (p := (inA · alnumL)), hn kInt (by decide), hn kBool (by decide), hn kText (by decide)⟩
  rename_i h3
  rw [if_neg h3]
  clear hne
  split
  · split
    · exact no (by decide)
    · exact no (by decide)
  split
  · split
    · exact no (by decide)
    · exact nil
  split
  · exact no (by decide)
  split
  · exact no (by decide)
  · exact nil
theorem lexGo_good (src : Bytes) : ∀ (n k : Nat) (l : List TokA) (d : List DiagA), (∀ t ∈ l, t.kind = 1 → gName t.text) → ∀ t ∈ (lexGo src n k l d).1, t.kind = 1 → gName t.text
  | 0, k, l, d, h => h
  | n + 1, k, l, d, h => by
    rw [lexGo]
    split
    · rename_i c hc
      refine lexGo_good src n _ _ _ fun t ht => ?_
      rcases List.mem_append.1 ht with ht | ht
      · exact h t ht
      · exact lexStep_good hc t ht
    · exact h
theorem start_good (src : Bytes) : TokG (src.length + 2) (startR src) := by
  intro t ht
  have h1 : ∀ t ∈ (lexGo src src.length 0 [] []).1, t.kind = 1 → gName t.text := lexGo_good src src.length 0 [] [] fun t ht => by cases ht
  have h2 := (lexGo_small src src.length 0 [] [] 0 (by simp) (by simp) (fun t ht => by cases ht)).2.2
  have ht : t ∈ (lexGo src src.length 0 [] []).1 ++ [⟨6, src.length, []⟩] := ht
  rcases List.mem_append.1 ht with ht | ht
  · exact ⟨h1 t ht, h2 t ht⟩
  · simp only [List.mem_singleton] at ht
    subst ht
    exact ⟨fun h => absurd (show (6 : Int) = 1 from h) (by decide), by simp⟩

theorem typeP_good (src : Bytes) (hs : src.length ≤ 2 ^ 31) (h : (typeP src).2 = true) : GT (typeP src).1 ∧ wtT (typeP src).1 ≤ 48 + (src.length + 82) * (src.length + 1) := by
  obtain ⟨hok, hlen, _⟩ := start_ok src (by omega)
  have hg := (goodR_all (src.length + 2) (typeFuel src)).typ 1 (startR src) hok (start_good src) (by unfold typeFuel; omega)
  have hle := (le_types (typeFuel src)).1 1 (startR src) hok
  unfold typeP at h ⊢
  unfold typeQ at h ⊢
  generalize typeR (typeFuel src) 1 (startR src) = q at hg hle h ⊢
  cases hj : justR q.2
  · rw [hj, if_neg (by simp)] at h
    cases h
  · rw [if_pos rfl]
    have hb : q.2.bad = false := by
      unfold justR at hj
      cases hb : q.2.bad
      · rfl
      · rw [hb] at hj; cases hj
    refine ⟨hg.1 hb, Nat.le_trans hg.2 ?_⟩
    have h1 := hle.lt
    have h2 := mulle (c := src.length + 82) (show q.2.i - (startR src).i ≤ src.length + 1 by omega)
    have h3 : 80 + (src.length + 2) = src.length + 82 := by omega
    rw [h3]
    omega

end Go.Ag
/- Package cupellaw09: typ, alive, list. -/
set_option linter.unusedVariables false
namespace Go.Ag
open Go

variable {T : Tab} {L : Lnk}

structure Law9Fns (T : Tab) : Prop extends SubFns T, TypeFns T where
  h326 : T.has 326 c_326
  h161 : T.has 161 c_161
  h172 : T.has 172 c_172
  h327 : T.has 327 c_327
  h327v : T.has 327 c_327v

theorem typ9_spec (F : Law9Fns T) (s : Bytes) (hs : s.length ≤ 2 ^ 31) : Pure T.L 172 [.str s] (typeP s).1.av := by
  have h := Type_spec F.toTypeFns s hs
  generalize typeP s = q at h ⊢
  obtain ⟨⟨k, nm, ns, l⟩, b⟩ := q
  refine Pure.run (low1 (.str _)) (low_ta _ _) (acallsG F.h172 (by simp [c_172]) ?_)
  conv => whnf
  refine h.to ?_
  conv => whnf
  exact ret_weak (Weak.refl _)

def listT (nm : Bytes) (t : TA) : TA := .mk 7 [] [] [.mk 3 [] [] [], .mk 5 [] [[104], [116]] [t, .mk 8 nm [] []]]
theorem list_spec9 (F : Law9Fns T) (nm : Bytes) (t : TA) : Pure T.L 327 [.str nm, t.av] (listT nm t).av := by
  obtain ⟨k, n, ns, l⟩ := t
  refine Pure.run (LowL.at ⟨.str _, low_ta _ _, trivial⟩) (low_ta _ _) (acallsG F.h327 (by simp [c_327]) ?_)
  conv => whnf
  refine ret_weak ?_
  show Weak T.L _ (AVal.agg [.int .i64 7, .str [], .lst (strA []) .none, .lst (TA.avs [.mk 3 [] [] [], .mk 5 [] [[104], [116]] [.mk k n ns l, .mk 8 nm [] []]]) .none])
  refine Weak.agg ⟨Weak.refl _, Weak.refl _, Weak.tok _ _, ?_, trivial⟩
  refine Weak.lstW rfl (fun k h y hy => ?_) ⟨Weak.refl _, Weak.refl _, Weak.tok _ _, Weak.tok _ _, Weak.refl _, Weak.refl _, Weak.tok _ _, ?_, trivial⟩
  · have h1 : (4 : Nat) = k := h _ List.mem_cons_self
    subst h1
    simp only [TA.avs, List.mem_cons, List.not_mem_nil, or_false] at hy
    rcases hy with rfl | rfl <;> rfl
  · refine Weak.lstW rfl (fun k h y hy => ?_) ⟨Weak.refl _, Weak.refl _, Weak.refl _, Weak.refl _, Weak.refl _, Weak.refl _, Weak.tok _ _, Weak.tok _ _, trivial⟩
    have h1 : (4 : Nat) = k := h _ List.mem_cons_self
    subst h1
    simp only [TA.avs, List.mem_cons, List.not_mem_nil, or_false] at hy
    rcases hy with rfl | rfl <;> rfl

theorem typ_ab : typeP [123, 97, 58, 32, 105, 110, 116, 44, 32, 98, 58, 32, 63, 125] = (.mk 5 [] [[97], [98]] [.mk 1 [] [] [], .mk 4 [] [] []], true) := by kernel_rfl
theorem typ_a : typeP [123, 97, 58, 32, 105, 110, 116, 32, 124, 32, 98, 111, 111, 108, 125] = (.mk 5 [] [[97]] [.mk 7 [] [] [.mk 1 [] [] [], .mk 2 [] [] []]], true) := by kernel_rfl
theorem typ_dyn : typeP [63] = (.mk 4 [] [] [], true) := by kernel_rfl
theorem typ_int : typeP [105, 110, 116] = (.mk 1 [] [] [], true) := by kernel_rfl
theorem typ_bool : typeP [98, 111, 111, 108] = (.mk 2 [] [] [], true) := by kernel_rfl
theorem typ_text : typeP [116, 101, 120, 116] = (.mk 3 [] [] [], true) := by kernel_rfl
theorem typ_at : typeP [123, 97, 58, 32, 116, 125] = (.mk 5 [] [[97]] [.mk 8 [116] [] []], true) := by kernel_rfl
theorem typ_v : typeP [118] = (.mk 8 [118] [] [], true) := by kernel_rfl

end Go.Ag
/- Package cupellaw09: alive. -/
set_option linter.unusedVariables false
namespace Go.Ag
open Go

variable {T : Tab} {L : Lnk}

theorem ACalls.weakA {f : Nat} {args args' : List AVal} {H : Heap} {Q : ARet → Heap → Prop} (h : ACalls L f args' H Q) (hw : WeakL L args args') : ACalls L f args H Q := fun g w vs hs hr => h g w vs hs (hr.weak hw)

structure EnvAt (e : EnvA) (H : Heap) (a : Nat) : Prop where
  h0 : H[a]? = some (.map (entsT e.by_ 0) e.by_.length)
  h1 : H[a + 1]? = some (.map (entsE e.empty 0) e.empty.length)
  h2 : H[a + 2]? = some (.cells [.map a, .map (a + 1)] 234)

theorem EK.any {f : Nat} {args : List AVal} {e : EnvA} {y : AVal} (h : EK L f args e y) (ha : ∀ x ∈ args, Low 0 x) (hy : Low 0 y) {H : Heap} {a : Nat} (hA : EnvAt e H a) {K KP : AVal → Heap → Prop} (hk : K y H) : ACalls L f (.ptr (a + 2) 0 :: args) H (contR K KP) := by
  have hp : Part H [a, a + 1, a + 2] (eheap e) := by
    refine ⟨by simp, rfl, fun k i o hk ho => ?_⟩
    match k, hk, ho with
    | 0, hk, ho => cases hk; cases ho; rw [renO_low0 (show LowO 0 (.map (entsT e.by_ 0) e.by_.length) from entsT_low 0 _ _)]; exact hA.h0
    | 1, hk, ho => cases hk; cases ho; rw [renO_low0 (show LowO 0 (.map (entsE e.empty 0) e.empty.length) from entsE_low 0 _ _)]; exact hA.h1
    | 2, hk, ho => cases hk; cases ho; exact hA.h2
    | k + 3, hk, ho => cases hk
  have hf := ACalls.frameK (y' := y) (args' := .ptr (a + 2) 0 :: args) h (fun o ho => by
    simp only [eheap, List.mem_cons, List.not_mem_nil, or_false] at ho
    rcases ho with rfl | rfl | rfl <;> rfl) [a, a + 1, a + 2] hp (by
    rw [List.map_cons]
    have : args.map (ren (nameOf [a, a + 1, a + 2] H.length)) = args := (List.map_congr_left (g := id) fun x hx => ren_lowz (ha x hx)).trans (List.map_id _)
    rw [this]; rfl) (ren_lowz hy)
  exact hf.to1 hk

theorem New_at (F : AliFns2 T) (l : List (Bytes × TA)) (hl : l.length ≤ 2 ^ 30) (hok : ∀ p ∈ l, okN p.2) (hE : ∀ p ∈ newBy l, wtT p.2 ≤ 2 ^ 40) (tk : Tok) (H : Heap) :
    ACalls T.L 144 [.lst (defVs l) tk] H fun r H' => ∃ e, NewOK (newBy l) e ∧ r = .ret (.ptr (H.length + 2) 0) ∧ H' = H ++ [.map (entsT e.by_ 0) e.by_.length, .map (entsE e.empty 0) e.empty.length, .cells [.map H.length, .map (H.length + 1)] 234] := by
  have h := New_spec F l hl hok hE (fun p hp => comes_ends _ _ _)
  have hp : Part H [] [] := ⟨by simp, rfl, fun k i o hk => by cases hk⟩
  have hf := ACalls.frameL h [] hp (.inr fun r H' _ => Nat.zero_le _)
  have hargs : [AVal.lst (defVs l) .none].map (ren (nameOf [] H.length)) = [.lst (defVs l) .none] := by
    rw [List.map_cons, List.map_nil, ren_lowz (show Low 0 (AVal.lst (defVs l) .none) from .lst _ _ trivial (low_defVs 0 l))]
  rw [hargs] at hf
  refine (hf.mono fun r H' ⟨r1, H1, ⟨e, h1, h2, h3⟩, _, h4, h5⟩ => ⟨e, h1, ?_, ?_⟩).weakA ⟨Weak.tok _ _, trivial⟩
  · rw [h4, h2]
    simp only [renR, ren]
    rw [nameOf_new (Nat.zero_le _)]; rfl
  · rw [h5, h3]
    simp only [List.length_nil, List.take_zero, List.map_nil, List.drop_zero, putL]
    congr 1
    simp only [eheap, List.map_cons, List.map_nil]
    rw [renO_low0 (show LowO 0 (.map (entsT e.by_ 0) e.by_.length) from entsT_low 0 _ _), renO_low0 (show LowO 0 (.map (entsE e.empty 0) e.empty.length) from entsE_low 0 _ _)]
    simp only [renO, renL, ren]
    rw [nameOf_new (Nat.zero_le _), nameOf_new (Nat.zero_le _)]
    rfl

def tA1 : TA := .mk 5 [] [[97], [98]] [.mk 1 [] [] [], .mk 4 [] [] []]
def tA2 : TA := .mk 5 [] [[97]] [.mk 7 [] [] [.mk 1 [] [] [], .mk 2 [] [] []]]
theorem g97 : gName [97] := ⟨by decide, by decide, by decide, by decide, by decide⟩
theorem g98 : gName [98] := ⟨by decide, by decide, by decide, by decide, by decide⟩
theorem gt_two {a b : TA} (ha : GT a) (hb : GT b) : ∀ t ∈ [a, b], GT t := fun t ht => by
  simp only [List.mem_cons, List.not_mem_nil, or_false] at ht
  rcases ht with rfl | rfl
  · exact ha
  · exact hb
theorem gt_A1 : GT tA1 := .rcd _ _ (by decide) rfl (fun n hn => by
  simp only [List.mem_cons, List.not_mem_nil, or_false] at hn
  rcases hn with rfl | rfl
  · exact g97
  · exact g98) (gt_two .int .dyn)
theorem gt_ib : GT (.mk 7 [] [] [.mk 1 [] [] [], .mk 2 [] [] []]) := .uni _ (by simp) (gt_two .int .bool)
theorem gt_A2 : GT tA2 := .rcd _ _ (by decide) rfl (fun n hn => by
  rw [List.mem_singleton] at hn; subst hn; exact g97) fun t ht => by rw [List.mem_singleton] at ht; subst ht; exact gt_ib

theorem gc_of {bs : List TA} {t : TA} (h : GT t) (hw : wtT t ≤ 2 ^ 30) (hm : normT t ∈ bs) : GC' (bs.flatMap subsT) t := ⟨h, hw, List.mem_flatMap.2 ⟨_, hm, subs_self _⟩⟩

structure AliveW (e : EnvA) (C : List TA) : Prop where
  W : EnvW [] e C
  a1 : GC' C tA1
  a2 : GC' C tA2
  i : GC' C (.mk 1 [] [] [])
  b : GC' C (.mk 2 [] [] [])
  d : GC' C (.mk 4 [] [] [])
  ib : GC' C (normT (.mk 7 [] [] [.mk 1 [] [] [], .mk 2 [] [] []]))

theorem nId1 : normT (.mk 1 [] [] []) = .mk 1 [] [] [] := normT_id .int
theorem nId2 : normT (.mk 2 [] [] []) = .mk 2 [] [] [] := normT_id .bool
theorem nId3 : normT (.mk 3 [] [] []) = .mk 3 [] [] [] := normT_id .text
theorem nId4 : normT (.mk 4 [] [] []) = .mk 4 [] [] [] := normT_id .dyn

theorem alive_w {e : EnvA} (hE : NewOK [] e) : ∃ C, AliveW e C := by
  have hib := normT_nt gt_ib
  have hw := wt_normT (.mk 7 [] [] [.mk 1 [] [] [], .mk 2 [] [] []])
  have h1 := wt_normT tA1
  have h2 := wt_normT tA2
  have e1 : wtT (.mk 7 [] [] [.mk 1 [] [] [], .mk 2 [] [] []]) = 64 := by decide
  have e2 : wtT tA1 ≤ 100 := by decide
  have e3 : wtT tA2 ≤ 120 := by decide
  refine ⟨[normT tA1, normT tA2, .mk 1 [] [] [], .mk 2 [] [] [], .mk 4 [] [] [], normT (.mk 7 [] [] [.mk 1 [] [] [], .mk 2 [] [] []])].flatMap subsT, envW_of hE (by simp) _ (fun p hp => by cases hp) (fun t ht => ?_) (fun t ht => ?_) (by simp) (fun nm h => absurd (.inl rfl) h),
    gc_of gt_A1 (by omega) (by simp), gc_of gt_A2 (by omega) (by simp), gc_of .int (by decide) (by rw [nId1]; simp), gc_of .bool (by decide) (by rw [nId2]; simp), gc_of .dyn (by decide) (by rw [nId4]; simp), gc_of hib.gt (by omega) (by rw [normT_id hib]; simp)⟩
  · simp only [List.mem_cons, List.not_mem_nil, or_false] at ht
    rcases ht with rfl | rfl | rfl | rfl | rfl | rfl
    · exact normT_nt gt_A1
    · exact normT_nt gt_A2
    · exact .int
    · exact .bool
    · exact .dyn
    · exact hib
  · simp only [List.mem_cons, List.not_mem_nil, or_false] at ht
    rcases ht with rfl | rfl | rfl | rfl | rfl | rfl
    · omega
    · omega
    · decide
    · decide
    · decide
    · omega

theorem AliveW.ii {e : EnvA} {C : List TA} (A : AliveW e C) : LE (GC' C) (hdE e) false (.mk 1 [] [] []) (normT (.mk 7 [] [] [.mk 1 [] [] [], .mk 2 [] [] []])) := by
  refine LE.fold A.i A.ib fun x hx => ?_
  have hx := (A.W.hd_one A.i nId1 (by decide) (by decide)).1 hx
  subst hx
  refine ⟨.mk 1 [] [] [], ?_, .inr ⟨by decide, rfl, .inl (by decide)⟩⟩
  have hj := spr_join (by_ := []) (gt_two .int .bool) (by simp)
  have hn : ¬ ∃ t ∈ [TA.mk 1 [] [] [], .mk 2 [] [] []], Spr [] (normT t) dynT := fun ⟨t, ht, h⟩ => by
    simp only [List.mem_cons, List.not_mem_nil, or_false] at ht
    rcases ht with rfl | rfl
    · rw [nId1, spr_self (by decide) (by decide)] at h; cases h
    · rw [nId2, spr_self (by decide) (by decide)] at h; cases h
  rw [A.W.mem_hd A.ib, normT_id (normT_nt gt_ib)]
  exact .inr ⟨fun h => hn (hj.1.1 h), (hj.2 hn _).2 ⟨.mk 1 [] [] [], by simp, by rw [nId1]; exact .self _ (by decide) (by decide)⟩⟩
theorem AliveW.s1 {e : EnvA} {C : List TA} (A : AliveW e C) : LE (GC' C) (hdE e) false tA1 tA2 := by
  refine LE.fold A.a1 A.a2 fun x hx => ?_
  have e1 : normT tA1 = tA1 := by unfold tA1; rw [normT, if_neg (by decide), normL_map]; simp only [List.map_cons, List.map_nil, nId1, nId4]
  have e2 : normT tA2 = .mk 5 [] [[97]] [normT (.mk 7 [] [] [.mk 1 [] [] [], .mk 2 [] [] []])] := by unfold tA2; rw [normT, if_neg (by decide), normL_map]; rfl
  have hx := (A.W.hd_one A.a1 e1 (by decide) (by decide)).1 hx
  subst hx
  refine ⟨_, (A.W.hd_one A.a2 e2 (by simp [TA.kind]) (by simp [TA.kind])).2 rfl, .inr ⟨by simp [tA1, TA.kind], rfl, .inr ?_⟩⟩
  unfold BodyR
  rw [if_pos (show tA1.kind = 5 from rfl)]
  intro p hp
  have hp : p = ([97], normT (.mk 7 [] [] [.mk 1 [] [] [], .mk 2 [] [] []])) := by simpa [TA.names, TA.l] using hp
  subst hp
  exact ⟨by decide, A.ii⟩
theorem no_le {e : EnvA} {C : List TA} {by_ : List (Bytes × TA)} (W : EnvW by_ e C) {loose : Bool} {a b u v : TA} (ha : GC' C a) (hb : GC' C b) (hu : normT a = u) (hv : normT b = v) (k1 : u.kind ≠ 7) (k2 : u.kind ≠ 8) (k3 : v.kind ≠ 7) (k4 : v.kind ≠ 8) (hne : u.kind ≠ v.kind)
    (h4 : (u.kind ≠ 4 ∧ v.kind ≠ 4) ∨ loose = false) : ¬ LE (GC' C) (hdE e) loose a b := fun h => by
  obtain ⟨y, hy, hu'⟩ := h.out.2.2 u ((W.hd_one ha hu k1 k2).2 rfl)
  have hy := (W.hd_one hb hv k3 k4).1 hy
  subst hy
  rcases hu' with ⟨h1, h2⟩ | ⟨_, h2, _⟩
  · rcases h4 with ⟨h4, h5⟩ | h4
    · rcases h1 with h1 | h1
      · exact h4 h1
      · exact h5 h1
    · subst h4
      simp only [Bool.false_or, beq_iff_eq] at h2
      exact hne h2
  · exact hne h2
theorem AliveW.s2 {e : EnvA} {C : List TA} (A : AliveW e C) : LE (GC' C) (hdE e) true (.mk 4 [] [] []) (.mk 1 [] [] []) := by
  refine LE.fold A.d A.i fun x hx => ?_
  have hx := (A.W.hd_one A.d nId4 (by decide) (by decide)).1 hx
  subst hx
  exact ⟨_, (A.W.hd_one A.i nId1 (by decide) (by decide)).2 rfl, .inl ⟨.inl rfl, rfl⟩⟩
theorem AliveW.s3 {e : EnvA} {C : List TA} (A : AliveW e C) : ¬ LE (GC' C) (hdE e) false (.mk 4 [] [] []) (.mk 1 [] [] []) :=
  no_le A.W A.d A.i nId4 nId1 (by decide) (by decide) (by decide) (by decide) (by decide) (.inr rfl)
theorem AliveW.s4 {e : EnvA} {C : List TA} (A : AliveW e C) : ¬ LE (GC' C) (hdE e) true (.mk 1 [] [] []) (.mk 2 [] [] []) :=
  no_le A.W A.i A.b nId1 nId2 (by decide) (by decide) (by decide) (by decide) (by decide) (.inl ⟨by decide, by decide⟩)

open Classical in
theorem alive_spec9 (F : Law9Fns T) : Pure T.L 161 [] (.bool true) := by
  have hty : ∀ (s : Bytes) (t : TA), s.length ≤ 100 → typeP s = (t, true) → Pure T.L 172 [.str s] t.av := fun s t hs h => by
    have := typ9_spec F s (by omega)
    rw [h] at this
    exact this
  have t1 := hty _ _ (by decide) typ_ab
  have t2 := hty _ _ (by decide) typ_a
  have t3 := hty _ _ (by decide) typ_dyn
  have t4 := hty _ _ (by decide) typ_int
  have t5 := hty _ _ (by decide) typ_bool
  refine Pure.run low0 (.bool _) (acallsG F.h161 (by simp [c_161]) ?_)
  conv => whnf
  refine ((New_spec F.toAliFns2 [] (by simp) (fun p hp => by cases hp) (fun p hp => by cases hp) (fun p hp => by cases hp)).weakA (args := [.lst [] .nil]) ⟨Weak.tok _ _, trivial⟩).mono fun r H' ⟨e, hok, e1, e2⟩ => ?_
  subst e1 e2
  obtain ⟨C, A⟩ := alive_w hok
  have r1 := A.W.sub F.toSubFns A.a1 A.a2
  rw [decide_eq_true A.s1] at r1
  have r2 := A.W.fits F.toSubFns A.d A.i
  rw [decide_eq_true A.s2] at r2
  have r3 := A.W.sub F.toSubFns A.d A.i
  rw [decide_eq_false A.s3] at r3
  have r4 := A.W.fits F.toSubFns A.i A.b
  rw [decide_eq_false A.s4] at r4
  have hl : ∀ a b : TA, ∀ x ∈ [a.av, b.av], Low 3 x := fun a b => LowL.at ⟨low_ta _ _, low_ta _ _, trivial⟩
  conv => whnf
  refine t1.to ?_
  conv => whnf
  refine t2.to ?_
  conv => whnf
  refine r1.to (hl _ _) (.bool _) [] (List.append_nil _).symm ?_
  conv => whnf
  refine t3.to ?_
  conv => whnf
  refine t4.to ?_
  conv => whnf
  refine r2.to (hl _ _) (.bool _) [] (List.append_nil _).symm ?_
  conv => whnf
  refine t3.to ?_
  conv => whnf
  refine t4.to ?_
  conv => whnf
  refine r3.to (hl _ _) (.bool _) [] (List.append_nil _).symm ?_
  conv => whnf
  refine t4.to ?_
  conv => whnf
  refine t5.to ?_
  conv => whnf
  refine r4.to (hl _ _) (.bool _) [] (List.append_nil _).symm ?_
  conv => whnf
  exact ret_weak (Weak.refl _)

end Go.Ag
/- Lists without an end: the plain law. -/
set_option linter.unusedVariables false
namespace Go.Ag
open Go

def tText : TA := .mk 3 [] [] []
def recHT (n p : TA) : TA := .mk 5 [] [[104], [116]] [n, p]
def refT (nm : Bytes) : TA := .mk 8 nm [] []
def consT (n p : TA) : TA := .mk 7 [] [] [tText, recHT n p]
theorem listT_eq (nm : Bytes) (t : TA) : listT nm t = consT t (refT nm) := rfl

theorem g_h : gName [104] := ⟨by decide, by decide, by decide, by decide, by decide⟩
theorem g_t : gName [116] := ⟨by decide, by decide, by decide, by decide, by decide⟩
theorem g_l : gName [108] := ⟨by decide, by decide, by decide, by decide, by decide⟩
theorem g_m : gName [109] := ⟨by decide, by decide, by decide, by decide, by decide⟩
theorem g_v : gName [118] := ⟨by decide, by decide, by decide, by decide, by decide⟩
theorem ht_sorted : ([[104], [116]] : List Bytes).Pairwise (· < ·) := by decide
theorem gt_ref {nm : Bytes} (h : gName nm) : GT (refT nm) := .ref nm h
theorem gt_rec {n p : TA} (hn : GT n) (hp : GT p) : GT (recHT n p) := .rcd _ _ ht_sorted rfl (fun x hx => by
  simp only [List.mem_cons, List.not_mem_nil, or_false] at hx
  rcases hx with rfl | rfl
  · exact g_h
  · exact g_t) (gt_two hn hp)
theorem gt_cons {n p : TA} (hn : GT n) (hp : GT p) : GT (consT n p) := .uni _ (by simp) (gt_two .text (gt_rec hn hp))
theorem nt_rec {n p : TA} (hn : NT n) (hp : NT p) : NT (recHT n p) := .rcd _ _ ht_sorted rfl (fun x hx => by
  simp only [List.mem_cons, List.not_mem_nil, or_false] at hx
  rcases hx with rfl | rfl
  · exact g_h
  · exact g_t) (fun t ht => by
  simp only [List.mem_cons, List.not_mem_nil, or_false] at ht
  rcases ht with rfl | rfl
  · exact hn
  · exact hp)
theorem cons_sorted (n p : TA) : [tText, recHT n p].Pairwise fun a b => prT a 0 < prT b 0 := by
  refine List.pairwise_cons.2 ⟨fun a ha => ?_, by simp⟩
  rw [List.mem_singleton] at ha
  subst ha
  show prT (.mk 3 [] [] []) 0 < prT (.mk 5 [] _ _) 0
  rw [pr_text, pr_rcd]
  exact List.cons_lt_cons_iff.2 (.inl (by decide))
theorem nt_cons {n p : TA} (hn : NT n) (hp : NT p) : NT (consT n p) := .uni _ (Nat.le_refl 2) (fun t ht => by
  simp only [List.mem_cons, List.not_mem_nil, or_false] at ht
  rcases ht with rfl | rfl
  · exact .text
  · exact nt_rec hn hp) (fun t ht => by
  simp only [List.mem_cons, List.not_mem_nil, or_false] at ht
  rcases ht with rfl | rfl
  · exact ⟨by decide, by decide⟩
  · exact ⟨by simp [recHT, TA.kind], by simp [recHT, TA.kind]⟩) (cons_sorted n p)
theorem norm_rec (n p : TA) : normT (recHT n p) = recHT (normT n) (normT p) := by unfold recHT; rw [normT, if_neg (by decide), normL_map]; rfl
theorem norm_cons {n p : TA} (hn : GT n) (hp : GT p) : normT (consT n p) = consT (normT n) (normT p) := by
  have h := normT_id (nt_cons (normT_nt hn) (normT_nt hp))
  have e1 : normL [tText, recHT n p] = [tText, recHT (normT n) (normT p)] := by
    rw [normL_map]
    simp only [List.map_cons, List.map_nil, norm_rec]
    rw [show normT tText = tText from nId3]
  have e2 : normL [tText, recHT (normT n) (normT p)] = [tText, recHT (normT n) (normT p)] := by
    rw [normL_map]
    simp only [List.map_cons, List.map_nil, norm_rec]
    rw [show normT tText = tText from nId3, normT_id (normT_nt hn), normT_id (normT_nt hp)]
  unfold consT at h ⊢
  rw [normT, if_pos rfl, e2] at h
  rw [normT, if_pos rfl, e1]
  exact h
theorem norm_ref {nm : Bytes} (h : gName nm) : normT (refT nm) = refT nm := normT_id (.ref nm h)

def defs9 (x y : TA) : List (Bytes × TA) := [([108], listT [108] x), ([109], listT [109] y), ([116], .mk 1 [] [] []), ([117], .mk 5 [] [[97]] [refT [116]]), ([118], refT [118])]
theorem newBy9 (x y : TA) : newBy (defs9 x y) = [([108], normT (listT [108] x)), ([109], normT (listT [109] y)), ([116], normT (.mk 1 [] [] [])), ([117], normT (.mk 5 [] [[97]] [refT [116]])), ([118], normT (refT [118]))] := by
  unfold newBy defs9
  generalize listT [108] x = a
  generalize listT [109] y = b
  generalize refT [116] = c
  generalize refT [118] = d
  rfl

theorem gt_u : GT (.mk 5 [] [[97]] [refT [116]]) := .rcd _ _ (by decide) rfl (fun n hn => by rw [List.mem_singleton] at hn; subst hn; exact g97) fun t ht => by rw [List.mem_singleton] at ht; subst ht; exact .ref _ g_t
theorem norm_u : normT (.mk 5 [] [[97]] [refT [116]]) = .mk 5 [] [[97]] [refT [116]] := normT_id (.rcd _ _ (by decide) rfl (fun n hn => by rw [List.mem_singleton] at hn; subst hn; exact g97) fun t ht => by rw [List.mem_singleton] at ht; subst ht; exact .ref _ g_t)

structure Law9W (x y : TA) (e : EnvA) (C : List TA) : Prop where
  W : EnvW (newBy (defs9 x y)) e C
  hx : GT x
  hy : GT y
  gx : GC' C x
  gy : GC' C y
  gl : GC' C (refT [108])
  gm : GC' C (refT [109])
  gr : GC' C (listT [108] x)
  ga : GC' C (consT x (listT [108] x))
  gt : GC' C tText

theorem bare_cons (n p : TA) : bareT (consT n p) = [] := by
  unfold consT tText recHT
  rw [bareT]
  simp [bareL, bareT]
theorem look9 (x y : TA) (nm : Bytes) (he : ¬ EmptyN (newBy (defs9 x y)) nm) (hx : GT x) (hy : GT y) : bareT (lookP (newBy (defs9 x y)) nm) = [] := by
  have hv : EmptyN (newBy (defs9 x y)) [118] := by
    refine .inr (.here _ _ ?_)
    have : lookP (newBy (defs9 x y)) [118] = refT [118] := by rw [newBy9, norm_ref g_v]; rfl
    rw [this]
    unfold refT
    rw [bareT, if_pos rfl]; simp
  have hs : ((newBy (defs9 x y)).find? (·.1 == nm)).isSome = true := by
    cases h : ((newBy (defs9 x y)).find? (·.1 == nm)).isSome
    · exact absurd (.inl h) he
    · rfl
  have hk := find_key hs
  rw [newBy9] at hk
  simp only [List.map_cons, List.map_nil, List.mem_cons, List.not_mem_nil, or_false] at hk
  rcases hk with rfl | rfl | rfl | rfl | rfl
  · have : lookP (newBy (defs9 x y)) [108] = consT (normT x) (normT (refT [108])) := by rw [newBy9, listT_eq, norm_cons hx (gt_ref g_l)]; rfl
    rw [this]; exact bare_cons _ _
  · have : lookP (newBy (defs9 x y)) [109] = consT (normT y) (normT (refT [109])) := by rw [newBy9, listT_eq [109], norm_cons hy (gt_ref g_m)]; rfl
    rw [this]; exact bare_cons _ _
  · have : lookP (newBy (defs9 x y)) [116] = .mk 1 [] [] [] := by rw [newBy9, nId1]; rfl
    rw [this]; rfl
  · have : lookP (newBy (defs9 x y)) [117] = .mk 5 [] [[97]] [refT [116]] := by rw [newBy9, norm_u]; rfl
    rw [this]; rfl
  · exact absurd hv he

theorem law9_w {x y : TA} {e : EnvA} (hx : GT x) (hy : GT y) (wx : wtT x ≤ 20000) (wy : wtT y ≤ 20000) (hE : NewOK (newBy (defs9 x y)) e) : ∃ C, Law9W x y e C := by
  have gl : GT (listT [108] x) := gt_cons hx (gt_ref g_l)
  have gm : GT (listT [109] y) := gt_cons hy (gt_ref g_m)
  have ga : GT (consT x (listT [108] x)) := gt_cons hx gl
  have hwc : ∀ n p : TA, wtT (consT n p) = 16 + (24 + (16 + 10 + (wtT n + 8 + (wtT p + 8))) + 8) := fun n p => by
    unfold consT tText recHT
    simp only [wtT, wtL, List.length_nil, List.map_nil, List.sum_nil, List.map_cons, List.sum_cons, List.length_cons]
    omega
  have w1 : wtT (listT [108] x) ≤ 20200 := by rw [listT_eq, hwc]; have : wtT (refT [108]) = 17 := rfl; omega
  have w2 : wtT (listT [109] y) ≤ 20200 := by rw [listT_eq, hwc]; have : wtT (refT [109]) = 17 := rfl; omega
  have w3 : wtT (consT x (listT [108] x)) ≤ 40400 := by rw [hwc]; omega
  have n1 := wt_normT x
  have n2 := wt_normT y
  have n3 := wt_normT (listT [108] x)
  have n4 := wt_normT (listT [109] y)
  have n5 := wt_normT (consT x (listT [108] x))
  have hby : ∀ p ∈ newBy (defs9 x y), p.2 ∈ [normT x, normT y, refT [108], refT [109], normT (listT [108] x), normT (consT x (listT [108] x)), tText, normT (listT [109] y)] ++ [.mk 1 [] [] [], .mk 5 [] [[97]] [refT [116]], refT [118]] := fun p hp => by
    rw [newBy9, nId1, norm_u, norm_ref g_v] at hp
    simp only [List.mem_cons, List.not_mem_nil, or_false] at hp
    rcases hp with rfl | rfl | rfl | rfl | rfl <;> simp
  have hN : ∀ t ∈ [normT x, normT y, refT [108], refT [109], normT (listT [108] x), normT (consT x (listT [108] x)), tText, normT (listT [109] y)] ++ [.mk 1 [] [] [], .mk 5 [] [[97]] [refT [116]], refT [118]], NT t ∧ wtT t ≤ 2 ^ 16 := fun t ht => by
    simp only [List.mem_append, List.mem_cons, List.not_mem_nil, or_false] at ht
    rcases ht with (rfl | rfl | rfl | rfl | rfl | rfl | rfl | rfl) | (rfl | rfl | rfl)
    · exact ⟨normT_nt hx, by omega⟩
    · exact ⟨normT_nt hy, by omega⟩
    · exact ⟨.ref _ g_l, by decide⟩
    · exact ⟨.ref _ g_m, by decide⟩
    · exact ⟨normT_nt gl, by omega⟩
    · exact ⟨normT_nt ga, by omega⟩
    · exact ⟨.text, by decide⟩
    · exact ⟨normT_nt gm, by omega⟩
    · exact ⟨.int, by decide⟩
    · rw [← norm_u]; exact ⟨normT_nt gt_u, by have := wt_normT (.mk 5 [] [[97]] [refT [116]]); have h : wtT (.mk 5 [] [[97]] [refT [116]]) ≤ 100 := by decide
                                              omega⟩
    · exact ⟨.ref _ g_v, by decide⟩
  have W := envW_of hE (newBy_nodup _) _ hby (fun t ht => (hN t ht).1) (fun t ht => (hN t ht).2) (by simp) (fun nm hne => look9 x y nm hne hx hy)
  exact ⟨_, W, hx, hy, gc_of hx (by omega) (by simp), gc_of hy (by omega) (by simp), gc_of (gt_ref g_l) (by decide) (by rw [norm_ref g_l]; simp), gc_of (gt_ref g_m) (by decide) (by rw [norm_ref g_m]; simp),
    gc_of gl (by omega) (by simp), gc_of ga (by omega) (by simp), gc_of .text (by decide) (by rw [show normT tText = tText from nId3]; simp)⟩

section
variable {x y : TA} {e : EnvA} {C : List TA}

theorem ne_list {x y : TA} {nm : Bytes} {u : TA} (h : (newBy (defs9 x y)).find? (·.1 == nm) = some (nm, u)) (hb : bareT u = []) : ¬ EmptyN (newBy (defs9 x y)) nm := fun he => by
  have hl : lookP (newBy (defs9 x y)) nm = u := by unfold lookP; rw [h]; rfl
  rcases he with he | he
  · rw [h] at he; cases he
  · rw [hl] at he
    cases he with
    | here _ _ h => rw [hb] at h; cases h
    | step _ _ _ h _ => rw [hb] at h; cases h

theorem Law9W.cons_hd (A : Law9W x y e C) {t n p z : TA} (ht : GC' C t) (hu : ∀ z, Spr (newBy (defs9 x y)) (normT t) z ↔ Spr (newBy (defs9 x y)) (consT n p) z) : z ∈ hdE e t ↔ z = tText ∨ z = recHT n p := by
  refine A.W.hd_two ht (fun z => ?_) (by decide) (by simp [recHT, TA.kind])
  rw [hu]
  unfold consT
  rw [spr_uni]
  have h1 := spr_self (by_ := newBy (defs9 x y)) (t := tText) (x := z) (by decide) (by decide)
  have h2 := spr_self (by_ := newBy (defs9 x y)) (t := recHT n p) (x := z) (by simp [recHT, TA.kind]) (by simp [recHT, TA.kind])
  simp [h1, h2]
theorem Law9W.l_hd (A : Law9W x y e C) {z : TA} : z ∈ hdE e (refT [108]) ↔ z = tText ∨ z = recHT (normT x) (refT [108]) := by
  refine A.cons_hd A.gl fun z => ?_
  have hf : (newBy (defs9 x y)).find? (·.1 == [108]) = some ([108], consT (normT x) (refT [108])) := by
    rw [newBy9, listT_eq, norm_cons A.hx (gt_ref g_l), norm_ref g_l]; rfl
  rw [norm_ref g_l]
  unfold refT
  rw [spr_ref (ne_list hf (bare_cons _ _))]
  have : lookP (newBy (defs9 x y)) [108] = consT (normT x) (refT [108]) := by unfold lookP; rw [hf]; rfl
  rw [this]; rfl
theorem Law9W.m_hd (A : Law9W x y e C) {z : TA} : z ∈ hdE e (refT [109]) ↔ z = tText ∨ z = recHT (normT y) (refT [109]) := by
  refine A.cons_hd A.gm fun z => ?_
  have hf : (newBy (defs9 x y)).find? (·.1 == [109]) = some ([109], consT (normT y) (refT [109])) := by
    rw [newBy9, listT_eq [109], norm_cons A.hy (gt_ref g_m), norm_ref g_m]; rfl
  rw [norm_ref g_m]
  unfold refT
  rw [spr_ref (ne_list hf (bare_cons _ _))]
  have : lookP (newBy (defs9 x y)) [109] = consT (normT y) (refT [109]) := by unfold lookP; rw [hf]; rfl
  rw [this]; rfl
theorem Law9W.r_hd (A : Law9W x y e C) {z : TA} : z ∈ hdE e (listT [108] x) ↔ z = tText ∨ z = recHT (normT x) (refT [108]) :=
  A.cons_hd A.gr fun z => by rw [listT_eq, norm_cons A.hx (gt_ref g_l), norm_ref g_l]
theorem Law9W.a_hd (A : Law9W x y e C) {z : TA} : z ∈ hdE e (consT x (listT [108] x)) ↔ z = tText ∨ z = recHT (normT x) (normT (listT [108] x)) :=
  A.cons_hd A.ga fun z => by rw [norm_cons A.hx (show GT (listT [108] x) from gt_cons A.hx (gt_ref g_l))]
theorem Law9W.t_hd (A : Law9W x y e C) {z : TA} : z ∈ hdE e tText ↔ z = tText := A.W.hd_one A.gt nId3 (by decide) (by decide)

theorem norm_twice {t : TA} (h : GT t) : normT (normT t) = normT t := normT_id (normT_nt h)
theorem hd_norm {t : TA} (h : GT t) : hdE e (normT t) = hdE e t := by unfold hdE; rw [norm_twice h]
theorem gc_norm {t : TA} (h : GC' C t) : GC' C (normT t) := ⟨(normT_nt h.1).gt, by have := wt_normT t; have := h.2.1; omega, by rw [norm_twice h.1]; exact h.2.2⟩
theorem le_norm {loose : Bool} {a b : TA} (ha : GC' C a) (hb : GC' C b) : LE (GC' C) (hdE e) loose (normT a) (normT b) ↔ LE (GC' C) (hdE e) loose a b :=
  ⟨fun h => h.congr ha hb (fun x hx => by rw [hd_norm ha.1]; exact hx) (fun x hx => by rw [hd_norm hb.1] at hx; exact hx),
   fun h => h.congr (gc_norm ha) (gc_norm hb) (fun x hx => by rw [hd_norm ha.1] at hx; exact hx) (fun x hx => by rw [hd_norm hb.1]; exact hx)⟩

theorem body_rec {R : TA → TA → Prop} {n p n' p' : TA} : BodyR R (recHT n p) (recHT n' p') ↔ R n n' ∧ R p p' := by
  unfold BodyR
  rw [if_pos (show (recHT n p).kind = 5 from rfl)]
  have e0 : lowI [[104], [116]] [104] = 0 := by decide
  have e1 : lowI [[104], [116]] [116] = 1 := by decide
  refine ⟨fun h => ⟨?_, ?_⟩, fun ⟨h1, h2⟩ q hq => ?_⟩
  · have := (h ([104], n') (by simp [recHT, TA.names, TA.l])).2
    simpa [recHT, TA.names, TA.l, e0] using this
  · have := (h ([116], p') (by simp [recHT, TA.names, TA.l])).2
    simpa [recHT, TA.names, TA.l, e1] using this
  · have hq : q = ([104], n') ∨ q = ([116], p') := by simpa [recHT, TA.names, TA.l] using hq
    rcases hq with rfl | rfl
    · refine ⟨by simp [recHT, TA.names], ?_⟩
      simpa [recHT, TA.names, TA.l, e0] using h1
    · refine ⟨by simp [recHT, TA.names], ?_⟩
      simpa [recHT, TA.names, TA.l, e1] using h2
theorem und_text {loose : Bool} {B : TA → TA → Prop} : UndR loose B tText tText := .inr ⟨by decide, rfl, .inl (by decide)⟩
theorem und_rec {loose : Bool} {R : TA → TA → Prop} {n p n' p' : TA} : UndR loose (BodyR R) (recHT n p) (recHT n' p') ↔ R n n' ∧ R p p' := by
  rw [← body_rec]
  refine ⟨fun h => ?_, fun h => .inr ⟨by simp [recHT, TA.kind], rfl, .inr h⟩⟩
  rcases h with h | ⟨_, _, h⟩
  · simp [recHT, TA.kind] at h
  · rcases h with h | h
    · simp [recHT, TA.kind] at h
    · exact h

theorem Law9W.lists (A : Law9W x y e C) (loose : Bool) : LE (GC' C) (hdE e) loose (refT [108]) (refT [109]) ↔ LE (GC' C) (hdE e) loose x y := by
  refine ⟨fun h => ?_, fun h => ?_⟩
  · obtain ⟨z, hz, hu⟩ := h.out.2.2 (recHT (normT x) (refT [108])) (A.l_hd.2 (.inr rfl))
    rcases A.m_hd.1 hz with rfl | rfl
    · rcases hu with hu | hu
      · simp [recHT, tText, TA.kind] at hu
      · simp [recHT, tText, TA.kind] at hu
    · exact (le_norm A.gx A.gy).1 (und_rec.1 hu).1
  · refine LE.coind (R := fun a b => a = refT [108] ∧ b = refT [109]) (fun a b ⟨ea, eb⟩ => ?_) ⟨rfl, rfl⟩
    subst ea eb
    refine ⟨A.gl, A.gm, fun z hz => ?_⟩
    rcases A.l_hd.1 hz with rfl | rfl
    · exact ⟨tText, A.m_hd.2 (.inl rfl), und_text⟩
    · exact ⟨_, A.m_hd.2 (.inr rfl), und_rec.2 ⟨.inr ((le_norm A.gx A.gy).2 h), .inl ⟨rfl, rfl⟩⟩⟩
theorem Law9W.rolled (A : Law9W x y e C) (loose : Bool) : LE (GC' C) (hdE e) loose (refT [108]) (listT [108] x) ∧ LE (GC' C) (hdE e) loose (listT [108] x) (refT [108]) :=
  ⟨LE.same A.W.heads A.gl A.gr fun z => by rw [A.l_hd, A.r_hd], LE.same A.W.heads A.gr A.gl fun z => by rw [A.l_hd, A.r_hd]⟩
theorem Law9W.again (A : Law9W x y e C) (loose : Bool) : LE (GC' C) (hdE e) loose (consT x (listT [108] x)) (refT [108]) ∧ LE (GC' C) (hdE e) loose (refT [108]) (consT x (listT [108] x)) := by
  have hr := gc_norm A.gr
  have hrh : ∀ z, z ∈ hdE e (normT (listT [108] x)) ↔ z ∈ hdE e (refT [108]) := fun z => by rw [hd_norm A.gr.1, A.r_hd, A.l_hd]
  have hxx : LE (GC' C) (hdE e) loose (normT x) (normT x) := LE.refl A.W.heads (gc_norm A.gx)
  refine ⟨LE.fold A.ga A.gl fun z hz => ?_, LE.fold A.gl A.ga fun z hz => ?_⟩
  · rcases A.a_hd.1 hz with rfl | rfl
    · exact ⟨tText, A.l_hd.2 (.inl rfl), und_text⟩
    · exact ⟨_, A.l_hd.2 (.inr rfl), und_rec.2 ⟨hxx, LE.same A.W.heads hr A.gl hrh⟩⟩
  · rcases A.l_hd.1 hz with rfl | rfl
    · exact ⟨tText, A.a_hd.2 (.inl rfl), und_text⟩
    · exact ⟨_, A.a_hd.2 (.inr rfl), und_rec.2 ⟨hxx, LE.same A.W.heads A.gl hr fun z => (hrh z).symm⟩⟩
theorem Law9W.no_text (A : Law9W x y e C) (loose : Bool) : ¬ LE (GC' C) (hdE e) loose (refT [108]) tText := fun h => by
  obtain ⟨z, hz, hu⟩ := h.out.2.2 (recHT (normT x) (refT [108])) (A.l_hd.2 (.inr rfl))
  rw [A.t_hd.1 hz] at hu
  rcases hu with hu | hu
  · simp [recHT, tText, TA.kind] at hu
  · simp [recHT, tText, TA.kind] at hu
theorem Law9W.text_m (A : Law9W x y e C) (loose : Bool) : LE (GC' C) (hdE e) loose tText (refT [109]) :=
  LE.fold A.gt A.gm fun z hz => by
    rw [A.t_hd.1 hz]
    exact ⟨tText, A.m_hd.2 (.inl rfl), und_text⟩
end

end Go.Ag
/- Lists without an end: the law walked. -/
set_option linter.unusedVariables false
namespace Go.Ag
open Go

variable {T : Tab} {L : Lnk}

theorem ACalls.freezeIn {f : Nat} {args args' : List AVal} {H : Heap} {Q : ARet → Heap → Prop} {id k t : Nat} {xs : List AVal} (h1 : H[id]? = some (.arr xs.length xs t)) (hw : WeakGL (Froze L id k xs) L args args') (h : ACalls L f args' (H.set id .gone) Q) : ACalls L f args H Q := fun g w vs hs hr => by
  obtain ⟨g2, k1, k2, k3⟩ := hs.freeze h1 k
  refine (h g2 w vs k2 ((hr.mono k1).weakG k3 hw)).mono fun e w' ⟨r, H', g', hq, hle, hst, hrep⟩ => ⟨r, H', g', hq, k1.trans hle, hst, hrep⟩
theorem WeakG.lst {Φ : Ghost → Prop} {xs ys : List AVal} {tk : Tok} (hl : xs.length = ys.length) (hk : ∀ k, (∀ x ∈ xs, x.cells.length = k) → ∀ y ∈ ys, y.cells.length = k) (h : WeakGL Φ L (flat xs) (flat ys)) : WeakG Φ L (.lst xs tk) (.lst ys .none) := fun g hg v hv => by
  cases hv with
  | lst a c k b o _ vs _ ha hf hk' hc ht hr =>
    rw [hl]
    exact .lst a c k b o ys vs .none (fun hy => ha (fun e => hy (by subst e; exact List.eq_nil_of_length_eq_zero hl.symm))) hf (hk k hk') (by omega) trivial (hr.weakG hg h)

def headS : Nat → AC → AC
  | 0, _ => .skip
  | n + 1, .seq a b => .seq a (headS n b)
  | _ + 1, c => c
def tailS : Nat → AC → AC
  | 0, b => b
  | n + 1, .seq a b => tailS n b
  | _ + 1, _ => .skip
theorem spine_cut {P : Env → Heap → Prop} {Q : XPost} : ∀ (n : Nat) (c : AC) (e : Env) (H : Heap), xcode L (headS n c) e H (seqQ P Q) → (∀ e' H', P e' H' → xcode L (tailS n c) e' H' Q) → xcode L c e H Q
  | 0, c, e, H, h, ht => ht _ _ h
  | n + 1, c, e, H, h, ht => by
    have other : (∀ a b, c ≠ .seq a b) → xcode L c e H Q := fun hne => by
      have e1 : headS (n + 1) c = c := by cases c <;> first | rfl | exact absurd rfl (hne _ _)
      have e2 : tailS (n + 1) c = .skip := by cases c <;> first | rfl | exact absurd rfl (hne _ _)
      rw [e1] at h
      refine xcode_mono (fun x e' H' hx => ?_) h
      cases x with
      | normal =>
        have := ht e' H' hx
        rw [e2] at this
        exact this
      | _ => exact hx
    cases c with
    | seq a b =>
      have h : xcode L a e H (seqQ (fun e' H' => xcode L (headS n b) e' H' (seqQ P Q)) (seqQ P Q)) := h
      show xcode L a e H (seqQ (fun e' H' => xcode L b e' H' Q) Q)
      refine xcode_mono (fun x e' H' hx => ?_) h
      cases x with
      | normal => exact spine_cut n b e' H' hx ht
      | _ => exact hx
    | _ => exact other (fun a b => by simp)

def graft : LT → LT → LT
  | .done, s => s
  | .alt o ks t more, s => .alt o ks (graft t s) (graft more s)
  | .stop, _ => .stop
  | .bad, _ => .bad
def cutT : Nat → LT → LT
  | 0, _ => .done
  | n + 1, .alt o ks t more => .alt o ks (cutT n t) (cutT (n + 1) more)
  | _ + 1, t => t
def subT : Nat → LT → LT
  | 0, t => t
  | n + 1, .alt _ _ t _ => subT n t
  | _ + 1, t => t
def noKs : LT → Bool
  | .alt _ [] t more => noKs t && noKs more
  | .alt _ (_ :: _) _ _ => false
  | _ => true
theorem xlt_free {e0 e1 : Env} {H0 H1 : Heap} : ∀ (t : LT), noKs t = true → ∀ (e : Env) (H : Heap) (K : Env → Heap → Prop) (KP : AVal → Heap → Prop), xlt L e0 H0 t e H K KP → xlt L e1 H1 t e H K KP
  | .done, _, _, _, _, _, h => h
  | .stop, _, _, _, _, _, h => h
  | .bad, _, _, _, _, _, h => h
  | .alt o (k :: ks) t more, hk, _, _, _, _, h => by cases hk
  | .alt o [] t more, hk, e, H, K, KP, h => by
    have hk : noKs t = true ∧ noKs more = true := by simpa [noKs] using hk
    have h : moreK more (xone L o [] e0 H0 e H (fun e' H' => xlt L e0 H0 t e' H' K KP) KP) (xlt L e0 H0 more e H K KP) := h
    show moreK more (xone L o [] e1 H1 e H (fun e' H' => xlt L e1 H1 t e' H' K KP) KP) (xlt L e1 H1 more e H K KP)
    have h1 : xone L o [] e1 H1 e H (fun e' H' => xlt L e0 H0 t e' H' K KP) KP := moreK_1 h
    exact moreK_of (xone_congr (fun _ _ => rfl) (fun u H' hh => xlt_free t hk.1 _ _ _ _ hh) h1) (xlt_free more hk.2 _ _ _ _ (moreK_2 xlt_stop h))
theorem xlt_graft {e0 : Env} {H0 : Heap} {s : LT} {P K : Env → Heap → Prop} {KP : AVal → Heap → Prop} (hs : ∀ e' H', P e' H' → xlt L e0 H0 s e' H' K KP) : ∀ (h : LT) (e : Env) (H : Heap), xlt L e0 H0 h e H P KP → xlt L e0 H0 (graft h s) e H K KP
  | .done, e, H, h => hs e H h
  | .stop, _, _, _ => trivial
  | .bad, _, _, h => h.elim
  | .alt o ks t more, e, H, h => by
    have h : moreK more (xone L o ks e0 H0 e H (fun e' H' => xlt L e0 H0 t e' H' P KP) KP) (xlt L e0 H0 more e H P KP) := h
    show moreK (graft more s) (xone L o ks e0 H0 e H (fun e' H' => xlt L e0 H0 (graft t s) e' H' K KP) KP) (xlt L e0 H0 (graft more s) e H K KP)
    exact moreK_of (xone_congr (fun _ _ => rfl) (fun u H' hh => xlt_graft hs t _ _ hh) (moreK_1 h)) (xlt_graft hs more _ _ (moreK_2 xlt_stop h))
theorem drawt_cut {soft : List AO} {t : LT} (n : Nat) {e : Env} {H : Heap} {Q : XPost} (P : Env → Heap → Prop) (hk : noKs t = true) (ht : graft (cutT n t) (subT n t) = t) (hks : noKs (subT n t) = true) (hQ : ∀ v e1 e2 H, Q (.pan v) e1 H → Q (.pan v) e2 H)
    (h1 : xcode L (.drawt soft (cutT n t)) e H (seqQ P Q)) (h2 : ∀ e' H', P e' H' → xcode L (.drawt [] (subT n t)) e' H' Q) : xcode L (.drawt soft t) e H Q := by
  have h1 : xsoft L H soft e H (fun e' H' => xlt L e' H (cutT n t) e' H' P (fun v H'' => Q (.pan v) e' H'')) := h1
  show xsoft L H soft e H (fun e' H' => xlt L e' H t e' H' (fun e'' H'' => Q .normal e'' H'') (fun v H'' => Q (.pan v) e' H''))
  refine xsoft_mono (fun e' H' h => ?_) h1
  rw [← ht]
  refine xlt_graft (fun e2 H2 hp => ?_) (cutT n t) e' H' h
  have h3 : xlt L e2 H2 (subT n t) e2 H2 (fun e'' H'' => Q .normal e'' H'') (fun v H'' => Q (.pan v) e2 H'') := h2 e2 H2 hp
  exact xlt_free _ hks _ _ _ _ (xlt_mono (fun _ _ h => h) (fun v H h => hQ v _ _ H h) h3)

def pieceS : Nat → AC → AC
  | 0, .seq a _ => a
  | n + 1, .seq _ b => pieceS n b
  | _, c => c
def d_326 : AC := pieceS 12 c_326.body
def softOf : AC → List AO
  | .drawt s _ => s
  | _ => []
def treeOf : AC → LT
  | .drawt _ t => t
  | _ => .bad
def soft9 : List AO := softOf d_326
def tree9 : LT := treeOf d_326

def s9 (x y : TA) : Heap := [tcell x, tcell y]
def rcell (nm : Bytes) : AObj := .cells [.int .i64 8, .str nm, .lst [] .nil, .lst [] .nil] 175

def vref (nm : Bytes) : AVal := .agg [.int .i64 8, .str nm, .lst [] .nil, .lst [] .nil]
theorem weak_ref {nm : Bytes} : Weak L (vref nm) (refT nm).av := Weak.agg ⟨Weak.refl _, Weak.refl _, Weak.tok _ _, Weak.tok _ _, trivial⟩
def vtext : AVal := .agg [.int .i64 3, .str [], .lst [] .nil, .lst [] .nil]
def vrec (n l : AVal) : AVal := .agg [.int .i64 5, .str [], n, l]
def vuni (l : AVal) : AVal := .agg [.int .i64 7, .str [], .lst [] .nil, l]

theorem again_call {x r : TA} {en : EnvA} {b : Bool} (h : EK T.L 169 [(consT x r).av, (refT [108]).av] en (.bool b)) {H : Heap} (hE : EnvAt en (((H.set 12 .gone).set 11 .gone).set 10 .gone) 2)
    (h12 : H[12]? = some (.arr 2 [vtext, vrec (.vec 10 2 1 0 2) (.vec 11 2 4 0 2)] 175)) (h11 : H[11]? = some (.arr 2 [x.av, r.av] 175)) (h10 : H[10]? = some (.arr 2 [.str [104], .str [116]] 10))
    {K KP : AVal → Heap → Prop} (hk : K (.bool b) (((H.set 12 .gone).set 11 .gone).set 10 .gone)) : ACalls T.L 169 [.ptr 4 0, vuni (.vec 12 2 4 0 2), vref [108]] H (contR K KP) := by
  have hxc : x.av.cells.length = 4 := by obtain ⟨k, nm, ns, l⟩ := x; rfl
  have hrc : r.av.cells.length = 4 := by obtain ⟨k, nm, ns, l⟩ := r; rfl
  refine ACalls.freezeIn (id := 12) (k := 4) (t := 175) (xs := [vtext, vrec (.vec 10 2 1 0 2) (.vec 11 2 4 0 2)]) (args' := [.ptr 4 0, vuni (.lst [vtext, vrec (.vec 10 2 1 0 2) (.vec 11 2 4 0 2)] .none), vref [108]]) h12
    ⟨WeakG.refl _, WeakG.agg ⟨WeakG.refl _, WeakG.refl _, WeakG.refl _, WeakG.froze, trivial⟩, WeakG.refl _, trivial⟩ ?_
  refine ACalls.freezeIn (id := 11) (k := 4) (t := 175) (xs := [x.av, r.av]) (args' := [.ptr 4 0, vuni (.lst [vtext, vrec (.vec 10 2 1 0 2) (.lst [x.av, r.av] .none)] .none), vref [108]]) (by rw [List.getElem?_set_ne (by decide)]; exact h11)
    ⟨WeakG.refl _, WeakG.agg ⟨WeakG.refl _, WeakG.refl _, WeakG.refl _, WeakG.lst rfl (fun k h y hy => ?_) ⟨WeakG.refl _, WeakG.refl _, WeakG.refl _, WeakG.refl _, WeakG.refl _, WeakG.refl _, WeakG.refl _, WeakG.froze, trivial⟩, trivial⟩, WeakG.refl _, trivial⟩ ?_
  · have h1 : (4 : Nat) = k := h _ List.mem_cons_self
    subst h1
    simp only [List.mem_cons, List.not_mem_nil, or_false] at hy
    rcases hy with rfl | rfl <;> rfl
  refine ACalls.freezeIn (id := 10) (k := 1) (t := 10) (xs := [.str [104], .str [116]]) (args' := [.ptr 4 0, vuni (.lst [vtext, vrec (.lst [.str [104], .str [116]] .none) (.lst [x.av, r.av] .none)] .none), vref [108]]) (by rw [List.getElem?_set_ne (by decide), List.getElem?_set_ne (by decide)]; exact h10)
    ⟨WeakG.refl _, WeakG.agg ⟨WeakG.refl _, WeakG.refl _, WeakG.refl _, WeakG.lst rfl (fun k h y hy => ?_) ⟨WeakG.refl _, WeakG.refl _, WeakG.refl _, WeakG.refl _, WeakG.refl _, WeakG.refl _, WeakG.froze, WeakG.refl _, trivial⟩, trivial⟩, WeakG.refl _, trivial⟩ ?_
  · have h1 : (4 : Nat) = k := h _ List.mem_cons_self
    subst h1
    simp only [List.mem_cons, List.not_mem_nil, or_false] at hy
    rcases hy with rfl | rfl <;> rfl
  refine ACalls.weakA (args' := [.ptr 4 0, (consT x r).av, (refT [108]).av]) (h.any (LowL.at ⟨low_ta _ _, low_ta _ _, trivial⟩) (.bool _) hE hk) ⟨Weak.refl _, ?_, weak_ref, trivial⟩
  show Weak T.L _ (AVal.agg [.int .i64 7, .str [], .lst (strA []) .none, .lst (TA.avs [tText, recHT x r]) .none])
  refine Weak.agg ⟨Weak.refl _, Weak.refl _, Weak.tok _ _, Weak.lstW rfl (fun k h y hy => ?_) ⟨Weak.refl _, Weak.refl _, Weak.tok _ _, Weak.tok _ _, Weak.refl _, Weak.refl _, Weak.refl _, Weak.refl _, trivial⟩, trivial⟩
  have h1 : (4 : Nat) = k := h _ List.mem_cons_self
  subst h1
  simp only [TA.avs, List.mem_cons, List.not_mem_nil, or_false] at hy
  rcases hy with rfl | rfl <;> rfl

open Classical in
theorem SubLists_spec (F : Law9Fns T) (a b : Bytes) (ha : a.length ≤ 2 ^ 31) (hb : b.length ≤ 2 ^ 31) : Pure T.L 326 [.str a, .str b] (.bool true) := by
  have hA := Type_spec F.toTypeFns a ha
  have hB := Type_spec F.toTypeFns b hb
  have gA := typeP_good a ha
  have gB := typeP_good b hb
  refine Pure.run (LowL.at ⟨.str _, .str _, trivial⟩) (.bool _) ?_
  refine acalls_of F.h326 (by simp [c_326]) ?_
  show xcode T.L c_326.body (fun i => [AVal.str a, .str b].getD i .undef) [] _
  -- up to the conditions
  refine spine_cut (P := fun e H => ∃ x y : TA, GT x ∧ GT y ∧ wtT x ≤ 20000 ∧ wtT y ≤ 20000 ∧ H = s9 x y ∧ envHas e [(5, .ptr 0 0), (7, .ptr 1 0)]) 5 _ _ _ (xcodeG_sound _ _ _ _ ?_) fun e1 H1 ⟨x, y, hx, hy, wx, wy, eH, he⟩ => ?_
  · conv => whnf
    refine (alive_spec9 F).to ?_
    conv => whnf
    generalize typeP a = q at hA gA ⊢
    generalize typeP b = q' at hB gB ⊢
    obtain ⟨x, p⟩ := q
    obtain ⟨y, p'⟩ := q'
    dsimp only at hA gA hB gB
    have hbig : p = true → a.length ≤ 100 → GT x ∧ wtT x ≤ 20000 := fun h hl => ⟨(gA h).1, Nat.le_trans (gA h).2 (by
      have : (a.length + 82) * (a.length + 1) ≤ 182 * 101 := Nat.mul_le_mul (by omega) (by omega)
      omega)⟩
    have hbig' : p' = true → b.length ≤ 100 → GT y ∧ wtT y ≤ 20000 := fun h hl => ⟨(gB h).1, Nat.le_trans (gB h).2 (by
      have : (b.length + 82) * (b.length + 1) ≤ 182 * 101 := Nat.mul_le_mul (by omega) (by omega)
      omega)⟩
    obtain ⟨xk, xm, xs, xl⟩ := x
    obtain ⟨yk, ym, ys, yl⟩ := y
    refine hA.to ?_
    conv => whnf
    refine hB.to ?_
    conv => whnf
    cases p
    · conv => whnf
      exact ret_weak (Weak.refl _)
    cases p'
    · conv => whnf
      exact ret_weak (Weak.refl _)
    by_cases hla : a.length ≤ 100
    · have h1 : decide ((a.length : Int) > 100) = false := decide_eq_false (by omega)
      conv => whnf
      rw [h1]
      by_cases hlb : b.length ≤ 100
      · have h2 : decide ((b.length : Int) > 100) = false := decide_eq_false (by omega)
        conv => whnf
        rw [h2]
        conv => whnf
        exact ⟨.mk xk xm xs xl, .mk yk ym ys yl, (hbig rfl hla).1, (hbig' rfl hlb).1, (hbig rfl hla).2, (hbig' rfl hlb).2, rfl, rfl, rfl, trivial⟩
      · have h2 : decide ((b.length : Int) > 100) = true := decide_eq_true (by omega)
        conv => whnf
        rw [h2]
        conv => whnf
        exact ret_weak (Weak.refl _)
    · have h1 : decide ((a.length : Int) > 100) = true := decide_eq_true (by omega)
      conv => whnf
      rw [h1]
      conv => whnf
      exact ret_weak (Weak.refl _)
  subst eH
  have hty : ∀ (s : Bytes) (t : TA), s.length ≤ 100 → typeP s = (t, true) → Pure T.L 172 [.str s] t.av := fun s t hs h => by
    have := typ9_spec F s (by omega)
    rw [h] at this
    exact this
  have ti := hty _ _ (by decide) typ_int
  have tu := hty _ _ (by decide) typ_at
  have tv := hty _ _ (by decide) typ_v
  have tt := hty _ _ (by decide) typ_text
  have hL := list_spec9 F [108] x
  have hM := list_spec9 F [109] y
  have hgt : ∀ p ∈ defs9 x y, GT p.2 ∧ wtT p.2 ≤ 20200 := fun p hp => by
    have hwc : ∀ n p : TA, wtT (consT n p) = 16 + (24 + (16 + 10 + (wtT n + 8 + (wtT p + 8))) + 8) := fun n p => by
      unfold consT tText recHT
      simp only [wtT, wtL, List.length_nil, List.map_nil, List.sum_nil, List.map_cons, List.sum_cons, List.length_cons]
      omega
    unfold defs9 at hp
    simp only [List.mem_cons, List.not_mem_nil, or_false] at hp
    rcases hp with rfl | rfl | rfl | rfl | rfl
    · exact ⟨gt_cons hx (gt_ref g_l), by rw [listT_eq, hwc]; have : wtT (refT [108]) = 17 := rfl; omega⟩
    · exact ⟨gt_cons hy (gt_ref g_m), by rw [listT_eq, hwc]; have : wtT (refT [109]) = 17 := rfl; omega⟩
    · exact ⟨.int, by decide⟩
    · exact ⟨gt_u, by decide⟩
    · exact ⟨gt_ref g_v, by decide⟩
  have hnew := New_at F.toAliFns2 (defs9 x y) (by simp [defs9]) (fun p hp => okN_gt (hgt p hp).1 (by have := (hgt p hp).2; omega)) (fun p hp => by
    rw [newBy9] at hp
    have hw : ∀ t : TA, wtT t ≤ 20200 → wtT (normT t) ≤ 2 ^ 40 := fun t h => by have := wt_normT t; omega
    simp only [List.mem_cons, List.not_mem_nil, or_false] at hp
    rcases hp with rfl | rfl | rfl | rfl | rfl
    · exact hw _ (hgt ([108], listT [108] x) (by simp [defs9])).2
    · exact hw _ (hgt ([109], listT [109] y) (by simp [defs9])).2
    · exact hw _ (by decide)
    · exact hw _ (by decide)
    · exact hw _ (by decide)) .full
  -- the environment
  refine spine_cut (P := fun e H => ∃ en : EnvA, NewOK (newBy (defs9 x y)) en ∧ H = [tcell x, tcell y, .map (entsT en.by_ 0) en.by_.length, .map (entsE en.empty 0) en.empty.length, .cells [.map 2, .map 3] 234, rcell [108], rcell [109]] ∧
    envHas e [(5, .ptr 0 0), (7, .ptr 1 0), (9, .fn (.func 327) [] []), (10, .ptr 4 0), (11, .ptr 5 0), (12, .ptr 6 0)]) 3 _ _ _ (xcodeG_sound _ _ _ _ ?_) fun e2 H2 ⟨en, hok, eH, he2⟩ => ?_
  · rw [← setL_id he]
    clear hgt
    obtain ⟨xk, xm, xs, xl⟩ := x
    obtain ⟨yk, ym, ys, yl⟩ := y
    have hdA : (listT [108] (.mk xk xm xs xl)).av = .agg [.int .i64 7, .str [], .lst (strA []) .none, .lst (TA.avs [tText, recHT (.mk xk xm xs xl) (refT [108])]) .none] := rfl
    conv => whnf
    refine ⟨?_, ?_⟩
    all_goals
      conv => whnf
      refine hL.to ?_
      conv => whnf
      refine hM.to ?_
      conv => whnf
      refine ti.to ?_
      conv => whnf
      refine tu.to ?_
      conv => whnf
      refine tv.to ?_
      conv => whnf
      refine (hnew _).mono fun r H' ⟨en, hok, e1, e2⟩ => ?_
      subst e1 e2
      conv => whnf
      exact ⟨en, hok, rfl, rfl, rfl, rfl, rfl, rfl, rfl, trivial⟩
  subst eH
  obtain ⟨C, A⟩ := law9_w hx hy wx wy hok
  have hlow : ∀ s t : TA, ∀ z ∈ [s.av, t.av], Low 0 z := fun s t => LowL.at ⟨low_ta _ _, low_ta _ _, trivial⟩
  obtain ⟨s, hs⟩ : ∃ s, decide (LE (GC' C) (hdE en) false x y) = s := ⟨_, rfl⟩
  obtain ⟨f, hf⟩ : ∃ f, decide (LE (GC' C) (hdE en) true x y) = f := ⟨_, rfl⟩
  have r1 := A.W.sub F.toSubFns A.gx A.gy
  rw [hs] at r1
  have r2 := A.W.fits F.toSubFns A.gx A.gy
  rw [hf] at r2
  have r3 := A.W.sub F.toSubFns A.gl A.gm
  rw [show decide (LE (GC' C) (hdE en) false (refT [108]) (refT [109])) = s from by rw [← hs]; exact decide_eq_decide.2 (A.lists false)] at r3
  have r4 := A.W.fits F.toSubFns A.gl A.gm
  rw [show decide (LE (GC' C) (hdE en) true (refT [108]) (refT [109])) = f from by rw [← hf]; exact decide_eq_decide.2 (A.lists true)] at r4
  have r5 := A.W.sub F.toSubFns A.gl A.gr
  rw [decide_eq_true (A.rolled false).1] at r5
  have r6 := A.W.sub F.toSubFns A.gr A.gl
  rw [decide_eq_true (A.rolled false).2] at r6
  have r7 := A.W.sub F.toSubFns A.ga A.gl
  rw [decide_eq_true (A.again false).1] at r7
  have r8 := A.W.sub F.toSubFns A.gl A.ga
  rw [decide_eq_true (A.again false).2] at r8
  have r9 := A.W.sub F.toSubFns A.gl A.gt
  rw [decide_eq_false (A.no_text false)] at r9
  have r10 := A.W.sub F.toSubFns A.gt A.gm
  rw [decide_eq_true (A.text_m false)] at r10
  have q1 := Equal_spec F.toSubFns _ _ _ _ r5 r6
  have q2 := Equal_spec F.toSubFns _ _ _ _ r7 r8
  clear r5 r6 r7 r8 hs hf A
  have hEn : ∀ (o5 o6 : AObj) (J : Heap), EnvAt en ([tcell x, tcell y, .map (entsT en.by_ 0) en.by_.length, .map (entsE en.empty 0) en.empty.length, .cells [.map 2, .map 3] 234, o5, o6] ++ J) 2 := fun o5 o6 J => ⟨rfl, rfl, rfl⟩
  -- what fits
  refine spine_cut (P := fun e H => H = [tcell x, tcell y, .map (entsT en.by_ 0) en.by_.length, .map (entsE en.empty 0) en.empty.length, .cells [.map 2, .map 3] 234, rcell [108], rcell [109]] ∧
    envHas e [(5, .ptr 0 0), (7, .ptr 1 0), (9, .fn (.func 327) [] []), (10, .ptr 4 0), (11, .ptr 5 0), (12, .ptr 6 0), (13, .bool s), (14, .bool f)]) 1 _ _ _ (xcodeG_sound _ _ _ _ ?_) fun e3 H3 ⟨eH, he3⟩ => ?_
  · rw [← setL_id he2]
    have hE2 := hEn (rcell [108]) (rcell [109]) []
    have hl := hlow x y
    clear hnew hgt hL hM ti tu tv tt r3 r4 r9 r10 q1 q2
    obtain ⟨xk, xm, xs, xl⟩ := x
    obtain ⟨yk, ym, ys, yl⟩ := y
    conv => whnf
    refine ⟨?a1, ?a2, ?a3⟩
    case' a2 =>
      conv => whnf
      refine ⟨?_, ?_⟩
    case' a3 =>
      conv => whnf
      refine ⟨?_, ?_⟩
    all_goals conv => whnf
    all_goals
      refine r1.any hl (.bool _) hE2 ?_
      conv => whnf
      refine r2.any hl (.bool _) hE2 ?_
      conv => whnf
      exact ⟨rfl, rfl, rfl, rfl, rfl, rfl, rfl, rfl, rfl, trivial⟩
  subst eH
  -- a list that is written
  refine spine_cut (P := fun e H => ∃ o8 o9 : AObj, H = [tcell x, tcell y, .map (entsT en.by_ 0) en.by_.length, .map (entsE en.empty 0) en.empty.length, .cells [.map 2, .map 3] 234, rcell [108], rcell [109], tcell (listT [108] x), o8, o9,
      .arr 2 [.str [104], .str [116]] 10, .arr 2 [x.av, (listT [108] x).av] 175, .arr 2 [.agg [.int .i64 3, .str [], .lst [] .nil, .lst [] .nil], .agg [.int .i64 5, .str [], .vec 10 2 1 0 2, .vec 11 2 4 0 2]] 175, .cells [.int .i64 7, .str [], .lst [] .nil, .vec 12 2 4 0 2] 175] ∧
    envHas e [(10, .ptr 4 0), (11, .ptr 5 0), (12, .ptr 6 0), (13, .bool s), (14, .bool f), (15, .ptr 7 0), (16, .ptr 13 0)]) 3 _ _ _ (xcodeG_sound _ _ _ _ ?_) fun e4 H4 ⟨o8, o9, eH, he4⟩ => ?_
  · rw [← setL_id he3]
    clear hnew hgt hM ti tu tv tt r1 r2 r3 r4 r9 r10 q1 q2
    obtain ⟨xk, xm, xs, xl⟩ := x
    obtain ⟨yk, ym, ys, yl⟩ := y
    conv => whnf
    refine hL.to ?_
    conv => whnf
    refine acallsG F.h327v (by simp [c_327v]) ?_
    conv => whnf
    refine ⟨fun p hp => ?_, ?_⟩
    · simp only [List.mem_cons, List.not_mem_nil, or_false] at hp
      rcases hp with rfl | rfl <;> exact ⟨rfl, rfl⟩
    conv => whnf
    refine ⟨fun p hp => ?_, ?_⟩
    · simp only [List.mem_cons, List.not_mem_nil, or_false] at hp
      rcases hp with rfl | rfl <;> exact ⟨rfl, rfl⟩
    conv => whnf
    refine ⟨fun p hp => ?_, ?_⟩
    · simp only [List.mem_cons, List.not_mem_nil, or_false] at hp
      rcases hp with rfl | rfl <;> exact ⟨rfl, rfl⟩
    conv => whnf
    refine ⟨⟨by decide, by decide, rfl⟩, ?_⟩
    conv => whnf
    refine ⟨⟨by decide, by decide, rfl⟩, ?_⟩
    conv => whnf
    exact ⟨_, _, rfl, rfl, rfl, rfl, rfl, rfl, rfl, rfl, trivial⟩
  subst eH
  -- the answers
  have hE4 : EnvAt en [tcell x, tcell y, .map (entsT en.by_ 0) en.by_.length, .map (entsE en.empty 0) en.empty.length, .cells [.map 2, .map 3] 234, rcell [108], rcell [109], tcell (listT [108] x), o8, o9,
      .arr 2 [.str [104], .str [116]] 10, .arr 2 [x.av, (listT [108] x).av] 175, .arr 2 [.agg [.int .i64 3, .str [], .lst [] .nil, .lst [] .nil], .agg [.int .i64 5, .str [], .vec 10 2 1 0 2, .vec 11 2 4 0 2]] 175, .cells [.int .i64 7, .str [], .lst [] .nil, .vec 12 2 4 0 2] 175] 2 := ⟨rfl, rfl, rfl⟩
  have hE5 : EnvAt en [tcell x, tcell y, .map (entsT en.by_ 0) en.by_.length, .map (entsE en.empty 0) en.empty.length, .cells [.map 2, .map 3] 234, rcell [108], rcell [109], tcell (listT [108] x), o8, o9,
      .gone, .gone, .gone, .cells [.int .i64 7, .str [], .lst [] .nil, .vec 12 2 4 0 2] 175] 2 := ⟨rfl, rfl, rfl⟩
  have hlr := hlow (refT [108]) (refT [109])
  have hlq := hlow (refT [108]) (listT [108] x)
  have hlt := hlow (refT [108]) tText
  have hlu := hlow tText (refT [109])
  have qa := fun K KP hk => again_call q2 (H := [tcell x, tcell y, .map (entsT en.by_ 0) en.by_.length, .map (entsE en.empty 0) en.empty.length, .cells [.map 2, .map 3] 234, rcell [108], rcell [109], tcell (listT [108] x), o8, o9,
      .arr 2 [.str [104], .str [116]] 10, .arr 2 [x.av, (listT [108] x).av] 175, .arr 2 [vtext, vrec (.vec 10 2 1 0 2) (.vec 11 2 4 0 2)] 175, .cells [.int .i64 7, .str [], .lst [] .nil, .vec 12 2 4 0 2] 175]) hE5 rfl rfl rfl (K := K) (KP := KP) hk
  clear hnew hgt hL hM ti tu tv r1 r2 q2
  refine spine_cut (P := fun e H => envHas e [(4, .bool true)]) 1 _ _ _ ?_ fun e5 H5 he5 => ?_
  · -- the region
    show xcode T.L (.seq d_326 .skip) e4 _ _
    have hseq : ∀ {c : AC} {e : Env} {H : Heap} {Q : XPost}, xcode T.L c e H Q → xcode T.L (.seq c .skip) e H Q := fun {c e H Q} h => by
      show xcode T.L c e H (seqQ (fun e' H' => Q .normal e' H') Q)
      refine xcode_mono (fun x e' H' hx => ?_) h
      cases x <;> exact hx
    refine hseq ?_
    refine drawt_cut (soft := (soft9)) (t := (tree9)) 13 (fun e H => H = [tcell x, tcell y, .map (entsT en.by_ 0) en.by_.length, .map (entsE en.empty 0) en.empty.length, .cells [.map 2, .map 3] 234, rcell [108], rcell [109], tcell (listT [108] x), o8, o9,
      .arr 2 [.str [104], .str [116]] 10, .arr 2 [x.av, (listT [108] x).av] 175, .arr 2 [vtext, vrec (.vec 10 2 1 0 2) (.vec 11 2 4 0 2)] 175, .cells [.int .i64 7, .str [], .lst [] .nil, .vec 12 2 4 0 2] 175] ∧ envHas e [(10, .ptr 4 0), (11, .ptr 5 0), (12, .ptr 6 0), (15, .ptr 7 0), (16, .ptr 13 0), (98, .bool true)]) (by kernel_rfl) (by kernel_rfl) (by kernel_rfl) (fun v e1 e2 H h => h) (xcodeG_sound _ _ _ _ ?_) fun e5 H5 ⟨eH, he5⟩ => ?_
    · rw [← setL_id he4]
      obtain ⟨xk, xm, xs, xl⟩ := x
      obtain ⟨yk, ym, ys, yl⟩ := y
      conv => whnf
      refine ACalls.weakA (args := [.ptr 4 0, vref [108], vref [109]]) (args' := [.ptr 4 0, (refT [108]).av, (refT [109]).av]) (r3.any hlr (.bool _) hE4 ?_) ⟨Weak.refl _, weak_ref, weak_ref, trivial⟩
      conv => whnf
      rw [show ((s == s) != false) = true from by cases s <;> rfl]
      conv => whnf
      refine ⟨?_, ?_⟩
      all_goals
        conv => whnf
        refine ACalls.weakA (args := [.ptr 4 0, vref [108], vref [109]]) (args' := [.ptr 4 0, (refT [108]).av, (refT [109]).av]) (r4.any hlr (.bool _) hE4 ?_) ⟨Weak.refl _, weak_ref, weak_ref, trivial⟩
        conv => whnf
        rw [show ((f == f) != false) = true from by cases f <;> rfl]
        exact ⟨rfl, rfl, rfl, rfl, rfl, rfl, rfl, trivial⟩
    subst eH
    refine drawt_cut 12 (fun e H => H = [tcell x, tcell y, .map (entsT en.by_ 0) en.by_.length, .map (entsE en.empty 0) en.empty.length, .cells [.map 2, .map 3] 234, rcell [108], rcell [109], tcell (listT [108] x), o8, o9,
      .gone, .gone, .gone, .cells [.int .i64 7, .str [], .lst [] .nil, .vec 12 2 4 0 2] 175] ∧ envHas e [(10, .ptr 4 0), (11, .ptr 5 0), (12, .ptr 6 0), (110, .bool true)]) (by kernel_rfl) (by kernel_rfl) (by kernel_rfl) (fun v e1 e2 H h => h) (xcodeG_sound _ _ _ _ ?_) fun e6 H6 ⟨eH, he6⟩ => ?_
    · rw [← setL_id he5]
      obtain ⟨xk, xm, xs, xl⟩ := x
      obtain ⟨yk, ym, ys, yl⟩ := y
      conv => whnf
      refine ACalls.weakA (args := [.ptr 4 0, vref [108], (listT [108] (.mk xk xm xs xl)).av]) (args' := [.ptr 4 0, (refT [108]).av, (listT [108] (.mk xk xm xs xl)).av]) (q1.any hlq (.bool _) hE4 ?_) ⟨Weak.refl _, weak_ref, Weak.refl _, trivial⟩
      conv => whnf
      refine qa _ _ ?_
      conv => whnf
      exact ⟨rfl, rfl, rfl, rfl, rfl, trivial⟩
    subst eH
    refine drawt_cut 7 (fun e H => H = [tcell x, tcell y, .map (entsT en.by_ 0) en.by_.length, .map (entsE en.empty 0) en.empty.length, .cells [.map 2, .map 3] 234, rcell [108], rcell [109], tcell (listT [108] x), o8, o9,
      .gone, .gone, .gone, .cells [.int .i64 7, .str [], .lst [] .nil, .vec 12 2 4 0 2] 175] ∧ envHas e [(10, .ptr 4 0), (11, .ptr 5 0), (12, .ptr 6 0), (117, .bool true)]) (by kernel_rfl) (by kernel_rfl) (by kernel_rfl) (fun v e1 e2 H h => h) (xcodeG_sound _ _ _ _ ?_) fun e7 H7 ⟨eH, he7⟩ => ?_
    · rw [← setL_id he6]
      conv => whnf
      refine ⟨?_, ?_⟩
      all_goals
        conv => whnf
        refine tt.to ?_
        conv => whnf
        refine ACalls.weakA (args := [.ptr 4 0, vref [108], tText.av]) (args' := [.ptr 4 0, (refT [108]).av, tText.av]) (r9.any hlt (.bool _) hE5 ?_) ⟨Weak.refl _, weak_ref, Weak.refl _, trivial⟩
        conv => whnf
        exact ⟨rfl, rfl, rfl, rfl, rfl, trivial⟩
    subst eH
    refine xcodeG_sound _ _ _ _ ?_
    rw [← setL_id he7]
    conv => whnf
    refine ⟨?_, ?_⟩
    all_goals
      conv => whnf
      refine tt.to ?_
      conv => whnf
      refine ACalls.weakA (args := [.ptr 4 0, tText.av, vref [109]]) (args' := [.ptr 4 0, tText.av, (refT [109]).av]) (r10.any hlu (.bool _) hE5 ?_) ⟨Weak.refl _, Weak.refl _, weak_ref, trivial⟩
      conv => whnf
      exact ⟨rfl, trivial⟩
  · refine xcodeG_sound _ _ _ _ ?_
    rw [← setL_id he5]
    conv => whnf
    exact ret_weak (Weak.refl _)

end Go.Ag
