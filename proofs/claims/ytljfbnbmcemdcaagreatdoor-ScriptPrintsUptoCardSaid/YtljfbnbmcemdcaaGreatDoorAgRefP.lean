/- Package cupelref05: the reader, its small methods. -/
import Derived.Test.YtljfbnbmcemdcaaGreatDoorAgRefLex
set_option linter.unusedVariables false
namespace Go.Ag
open Go

variable {T : Tab} {L : Lnk}

inductive TA where
  | mk (kind : Int) (name : Bytes) (names : List Bytes) (l : List TA)
inductive EA where
  | mk (kind at_ : Int) (name : Bytes) (n : Int) (names : List Bytes) (l : List EA) (ts : List TA)
structure DeclA where
  kind : Int
  at_ : Int
  name : Bytes
  ts : List TA
  es : List EA

def strA (l : List Bytes) : List AVal := l.map .str
mutual
def TA.av : TA → AVal
  | .mk k n ns l => .agg [.int .i64 k, .str n, .lst (strA ns) .none, .lst (TA.avs l) .none]
def TA.avs : List TA → List AVal
  | [] => []
  | t :: l => t.av :: TA.avs l
end
mutual
def EA.av : EA → AVal
  | .mk k p n m ns l ts => .agg [.int .i64 k, .int .i64 p, .str n, .int .i64 m, .lst (strA ns) .none, .lst (EA.avs l) .none, .lst (TA.avs ts) .none]
def EA.avs : List EA → List AVal
  | [] => []
  | t :: l => t.av :: EA.avs l
end
def DeclA.av (d : DeclA) : AVal := .agg [.int .i64 d.kind, .int .i64 d.at_, .str d.name, .lst (TA.avs d.ts) .none, .lst (EA.avs d.es) .none]

theorem low_strs' (n : Nat) (l : List Bytes) (tk : Tok) (h : tokLow n tk) : Low n (.lst (strA l) tk) := .lst _ _ h fun x hx => by
  obtain ⟨s, _, rfl⟩ := List.mem_map.1 hx
  exact .str s
theorem low_ta (n : Nat) (t : TA) : Low n t.av := TA.rec (motive_1 := fun t => Low n t.av) (motive_2 := fun l => ∀ x ∈ TA.avs l, Low n x)
  (fun k nm ns l ih => .agg _ fun y hy => by
    simp only [List.mem_cons, List.not_mem_nil, or_false] at hy
    rcases hy with rfl | rfl | rfl | rfl
    · exact .int _ _
    · exact .str _
    · exact low_strs' n ns _ trivial
    · exact .lst _ _ trivial ih)
  (fun x hx => by cases hx) (fun t l h1 h2 x hx => by
    rcases List.mem_cons.1 hx with rfl | hx
    · exact h1
    · exact h2 x hx) t
theorem low_tas (n : Nat) : ∀ (l : List TA), ∀ x ∈ TA.avs l, Low n x
  | [], x, hx => by cases hx
  | t :: l, x, hx => by
    rcases List.mem_cons.1 hx with rfl | hx
    · exact low_ta n t
    · exact low_tas n l x hx
theorem low_ea (n : Nat) (t : EA) : Low n t.av := EA.rec (motive_1 := fun t => Low n t.av) (motive_2 := fun l => ∀ x ∈ EA.avs l, Low n x)
  (fun k p nm m ns l ts ih => .agg _ fun y hy => by
    simp only [List.mem_cons, List.not_mem_nil, or_false] at hy
    rcases hy with rfl | rfl | rfl | rfl | rfl | rfl | rfl
    · exact .int _ _
    · exact .int _ _
    · exact .str _
    · exact .int _ _
    · exact low_strs' n ns _ trivial
    · exact .lst _ _ trivial ih
    · exact .lst _ _ trivial (low_tas n ts))
  (fun x hx => by cases hx) (fun t l h1 h2 x hx => by
    rcases List.mem_cons.1 hx with rfl | hx
    · exact h1
    · exact h2 x hx) t
theorem low_eas (n : Nat) : ∀ (l : List EA), ∀ x ∈ EA.avs l, Low n x
  | [], x, hx => by cases hx
  | t :: l, x, hx => by
    rcases List.mem_cons.1 hx with rfl | hx
    · exact low_ea n t
    · exact low_eas n l x hx
theorem sized_tas : ∀ (l : List TA), Sized 4 (TA.avs l)
  | [], x, hx => by cases hx
  | .mk k n ns ll :: l, x, hx => by
    rcases List.mem_cons.1 hx with rfl | hx
    · exact okB_ok (by rw [TA.av]; rfl)
    · exact sized_tas l x hx
theorem sized_eas : ∀ (l : List EA), Sized 7 (EA.avs l)
  | [], x, hx => by cases hx
  | .mk k p n m ns ll ts :: l, x, hx => by
    rcases List.mem_cons.1 hx with rfl | hx
    · exact okB_ok (by rw [EA.av]; rfl)
    · exact sized_eas l x hx
theorem tas_append (a b : List TA) : TA.avs (a ++ b) = TA.avs a ++ TA.avs b := by
  induction a with
  | nil => rfl
  | cons x a ih => rw [List.cons_append, TA.avs, TA.avs, ih]; rfl
theorem eas_append (a b : List EA) : EA.avs (a ++ b) = EA.avs a ++ EA.avs b := by
  induction a with
  | nil => rfl
  | cons x a ih => rw [List.cons_append, EA.avs, EA.avs, ih]; rfl
theorem tas_len (a : List TA) : (TA.avs a).length = a.length := by
  induction a with
  | nil => rfl
  | cons x a ih => rw [TA.avs, List.length_cons, ih]; rfl
theorem eas_len (a : List EA) : (EA.avs a).length = a.length := by
  induction a with
  | nil => rfl
  | cons x a ih => rw [EA.avs, List.length_cons, ih]; rfl

/-! the reader -/
structure RS where
  toks : List TokA
  i : Nat
  diags : List DiagA
  bad : Bool

def zeroTok : TokA := ⟨0, 0, []⟩
def RS.tok (s : RS) : TokA := s.toks.getD s.i zeroTok
def RS.pot (s : RS) : Nat := s.diags.length + 2 * (s.toks.length - s.i) + if s.bad then 0 else 1
structure RS.ok (s : RS) : Prop where
  lt : s.i < s.toks.length
  more : ∀ j t, s.toks[j]? = some t → t.kind ≠ 6 → j + 1 < s.toks.length
  len : s.toks.length ≤ 2 ^ 33
  txt : ∀ t ∈ s.toks, t.text.length ≤ 2 ^ 40
  room : s.pot ≤ 2 ^ 35
def robj (s : RS) : AObj := .cells [.lst (s.toks.map TokA.av) .none, .int .i64 s.i, .lst (s.diags.map DiagA.av) (dtok s.diags.length 0), .bool s.bad] 83
def dobjR (s : RS) : AObj := dobj s.diags.length 127

theorem low_robj (s : RS) : LowO 2 (robj s) := fun x hx => by
  simp only [List.mem_cons, List.not_mem_nil, or_false] at hx
  rcases hx with rfl | rfl | rfl | rfl
  · exact low_toks _ _ _ trivial
  · exact .int _ _
  · exact low_diags _ _ _ (dtok_low (by omega))
  · exact .bool _

theorem low_robjN {n : Nat} (h : 0 < n) (s : RS) : LowO n (robj s) := lowC ⟨low_toks _ _ _ trivial, .int _ _, low_diags _ _ _ (dtok_low h), .bool _, trivial⟩

/-- A method's contract: what it gives, and the reader behind it. -/
def RC (L : Lnk) (f : Nat) (args : List AVal) (s : RS) (y : AVal) (s' : RS) : Prop := Call2 L f (.ptr 1 0 :: args) (dobjR s) (robj s) y (dobjR s') (robj s')

theorem RC.of {f : Nat} {args : List AVal} {s s' : RS} {y : AVal} (k : Nat) (hy : Low 2 y)
    (h : ACalls L f (.ptr 1 0 :: args) ([dobjR s, robj s] ++ List.replicate k .dead) fun r H1 => ∃ x, r = .ret x ∧ Weak L x y ∧ H1.take 2 = [dobjR s', robj s']) : RC L f args s y s' :=
  Call2.of k hy (dobj_low _ _ _) (low_robj s') (h.mono fun r H1 ⟨x, e1, e2, e3⟩ => ⟨x, H1.drop 2, e1, e2, by
    conv => lhs; rw [← List.take_append_drop 2 H1, e3]
    rfl⟩)

theorem RC.to {f : Nat} {args : List AVal} {s s' : RS} {y : AVal} (h : RC L f args s y s') (hargs : ∀ x ∈ args, Low 2 x) (hy : Low 2 y) {H : Heap} {K KP : AVal → Heap → Prop} (J : Heap) (hH : H = dobjR s :: robj s :: J)
    (hk : K y (dobjR s' :: robj s' :: J)) : ACalls L f (.ptr 1 0 :: args) H (contR K KP) := by
  subst hH
  refine (Call2.at h (fun x hx => ?_) (dobj_low _ _ _) (low_robj s) hy (dobj_low _ _ _) (low_robj s') J).mono fun r H' ⟨e1, e2⟩ => by subst e1 e2; exact hk
  rcases List.mem_cons.1 hx with rfl | hx
  · exact .ptr _ _ (by omega)
  · exact hargs x hx

theorem tok_at {s : RS} (h : s.ok) : s.toks[s.i]? = some s.tok := by
  unfold RS.tok
  rw [List.getD_eq_getElem?_getD, List.getElem?_eq_getElem h.lt]; rfl
theorem step_tok {s : RS} (h : s.ok) {P : AVal → Prop} (hp : P (.agg [.int .i64 s.tok.kind, .int .i64 s.tok.at_, .str s.tok.text])) : 0 ≤ (s.i : Int) ∧ (match (s.toks.map TokA.av)[((s.i : Nat) : Int).toNat]? with
    | some y => y.cells.length = 3 ∧ P y
    | none => False) := ⟨by omega, by rw [Int.toNat_natCast, List.getElem?_map, tok_at h]; exact ⟨rfl, hp⟩⟩

/-! is, give, take, name -/
def isR (s : RS) (w : Bytes) : Bool := !s.bad && ((s.tok.kind == 2 || s.tok.kind == 5) && s.tok.text == w)
def giveR (s : RS) (code : Int) : RS := if s.bad then s else { s with diags := s.diags ++ [⟨s.tok.at_, code, if code = 2 then s.tok.text else []⟩], bad := true }
def takeR (s : RS) (w : Bytes) : RS := if isR s w then { s with i := s.i + 1 } else giveR s 2
def nameR (s : RS) : TokA × RS := if s.bad then (zeroTok, s) else if s.tok.kind = 1 then (s.tok, { s with i := s.i + 1 }) else (zeroTok, giveR s 2)

theorem is_spec (h41 : T.has 41 c_41) (s : RS) (hs : s.ok) (w : Bytes) : RC T.L 41 [.str w] s (.bool (isR s w)) s := by
  refine RC.of 0 (.bool _) (acallsG h41 (by simp [c_41]) ?_)
  have hv : isR s w = (!s.bad && ((s.tok.kind == 2 || s.tok.kind == 5) && s.tok.text == w)) := rfl
  rw [hv]
  clear hv
  conv => whnf
  refine step_tok hs ?_
  conv => whnf
  cases s.bad
  · conv => whnf
    cases s.tok.kind == 2
    · conv => whnf
      cases s.tok.kind == 5
      · conv => whnf
        exact ⟨_, rfl, Weak.refl _, rfl⟩
      · conv => whnf
        exact ⟨_, rfl, Weak.refl _, rfl⟩
    · conv => whnf
      exact ⟨_, rfl, Weak.refl _, rfl⟩
  · conv => whnf
    exact ⟨_, rfl, Weak.refl _, rfl⟩

theorem app_diag {s : RS} (hs : s.ok) (d : DiagA) {y : AVal} (hy : y = d.av) {tk0 : Tok} {H : Heap} {K : AVal → Heap → Prop} (h0 : H[0]? = some (dobjR s))
    (h : K (.lst ((s.diags ++ [d]).map DiagA.av) (dtok (s.diags ++ [d]).length 0)) (H.set 0 (dobj (s.diags ++ [d]).length 127))) : appK 3 32 127 (.lst (s.diags.map DiagA.av) (dtok s.diags.length 0)) (.lst [y] tk0) H K := by
  have hl : s.diags.length ≤ 2 ^ 35 := by have := hs.room; unfold RS.pot at this; omega
  have e1 : s.diags.length = (s.diags.map DiagA.av).length := by simp
  have := app_slot (xs := s.diags.map DiagA.av) (ys := [y]) (k := 3) (bytes := 32) (t := 127) (id := 0) (tk0 := tk0) (H := H) (K := K) (sized_diags _) (sized_one (by rw [hy]; rfl)) (by simp; omega) (by simp; omega) (by simp) (by rw [← e1]; exact h0) (by
    rw [hy]
    rw [List.map_append, List.length_append, e1] at h
    rw [List.length_append]
    exact h)
  rw [← e1] at this
  exact this

theorem give_spec (h60 : T.has 60 c_60) (s : RS) (hs : s.ok) (code : Int) : RC T.L 60 [.int .i64 code] s (.tup []) (giveR s code) := by
  refine RC.of 0 (.tup _ fun x hx => by cases hx) (acallsG h60 (by simp [c_60]) ?_)
  cases hb : s.bad
  · have hv : giveR s code = { s with diags := s.diags ++ [⟨s.tok.at_, code, if code = 2 then s.tok.text else []⟩], bad := true } := by unfold giveR; rw [hb]; rfl
    rw [hv]
    clear hv
    conv => whnf
    rw [hb]
    conv => whnf
    refine step_tok hs ?_
    conv => whnf
    cases h2 : (code == 2)
    · rw [if_neg (by simpa using h2)]
      conv => whnf
      refine app_diag hs ⟨s.tok.at_, code, []⟩ rfl rfl ?_
      conv => whnf
      exact ⟨_, rfl, Weak.refl _, rfl⟩
    · rw [if_pos (by simpa using h2)]
      conv => whnf
      refine app_diag hs ⟨s.tok.at_, code, s.tok.text⟩ rfl rfl ?_
      conv => whnf
      exact ⟨_, rfl, Weak.refl _, rfl⟩
  · have hv : giveR s code = s := by unfold giveR; rw [hb]; rfl
    rw [hv]
    conv => whnf
    rw [hb]
    conv => whnf
    exact ⟨_, rfl, Weak.refl _, rfl⟩

structure RS.le (s s' : RS) : Prop where
  toks : s'.toks = s.toks
  i : s.i ≤ s'.i
  lt : s'.i < s.toks.length
  pot : s'.pot ≤ s.pot
theorem RS.le.refl {s : RS} (h : s.ok) : s.le s := ⟨rfl, Nat.le_refl _, h.lt, Nat.le_refl _⟩
theorem RS.le.trans {a b c : RS} (h : a.le b) (h' : b.le c) : a.le c := ⟨h'.toks.trans h.toks, Nat.le_trans h.i h'.i, by rw [← h.toks]; exact h'.lt, Nat.le_trans h'.pot h.pot⟩
theorem RS.ok.of {s s' : RS} (hs : s.ok) (h : s.le s') : s'.ok := ⟨by rw [h.toks]; exact h.lt, by rw [h.toks]; exact hs.more, by rw [h.toks]; exact hs.len, by rw [h.toks]; exact hs.txt, Nat.le_trans h.pot hs.room⟩
/-- What is left of the tokens. -/
def RS.rem (s : RS) : Nat := s.toks.length - s.i
theorem RS.le.rem {s s' : RS} (h : s.le s') : s'.rem ≤ s.rem := by unfold RS.rem; rw [h.toks]; have := h.i; omega

theorem give_le {s : RS} (hs : s.ok) (code : Int) : s.le (giveR s code) := by
  unfold giveR
  cases hb : s.bad
  · refine ⟨rfl, Nat.le_refl _, hs.lt, ?_⟩
    simp only [RS.pot, hb]
    simp
    omega
  · exact RS.le.refl hs
theorem next_le {s : RS} (hs : s.ok) (h : s.tok.kind ≠ 6) : s.le { s with i := s.i + 1 } :=
  ⟨rfl, Nat.le_succ _, hs.more s.i s.tok (tok_at hs) h, by simp only [RS.pot]; omega⟩
theorem is_kind {s : RS} {w : Bytes} (h : isR s w = true) : s.tok.kind ≠ 6 ∧ s.bad = false ∧ s.tok.text = w ∧ (s.tok.kind = 2 ∨ s.tok.kind = 5) := by
  simp only [isR, Bool.and_eq_true, Bool.or_eq_true, beq_iff_eq, Bool.not_eq_true'] at h
  refine ⟨by rcases h.2.1 with h | h <;> omega, h.1, h.2.2, h.2.1⟩
theorem take_le {s : RS} (hs : s.ok) (w : Bytes) : s.le (takeR s w) := by
  unfold takeR
  split
  · rename_i h; exact next_le hs (is_kind h).1
  · exact give_le hs 2
theorem name_le {s : RS} (hs : s.ok) : s.le (nameR s).2 := by
  unfold nameR
  split
  · exact RS.le.refl hs
  · split
    · rename_i h; exact next_le hs (by omega)
    · exact give_le hs 2

theorem low1 {n : Nat} {x : AVal} (h : Low n x) : ∀ y ∈ [x], Low n y := fun y hy => by simp only [List.mem_singleton] at hy; subst hy; exact h
theorem low0 {n : Nat} : ∀ y ∈ ([] : List AVal), Low n y := fun y hy => by cases hy
theorem low_unit {n : Nat} : Low n (.tup []) := .tup _ low0
theorem addN {k : Nat} (h : k ≤ 2 ^ 60) : IntKind.i64.wrap ((k : Int) + 1) = ((k + 1 : Nat) : Int) := by rw [IntWalk.i64_in _ (by omega)]; omega
theorem RS.ok.i {s : RS} (h : s.ok) : s.i ≤ 2 ^ 60 := by have := h.lt; have := h.len; omega

/-- The reader's functions are those of the program. -/
structure RFns (T : Tab) : Prop where
  h41 : T.has 41 c_41
  h60 : T.has 60 c_60
  h59 : T.has 59 c_59
  h61 : T.has 61 c_61
  h62 : T.has 62 c_62
  h83 : T.has 83 c_83
  h96 : T.has 96 c_96
  h85 : T.has 85 c_85
  h104 : T.has 104 c_104
  h42 : T.has 42 c_42
  h63 : T.has 63 c_63
  h84 : T.has 84 c_84
  h40 : T.has 40 c_40

theorem RFns.is (F : RFns T) {s : RS} (hs : s.ok) (w : Bytes) {H : Heap} {K KP : AVal → Heap → Prop} (J : Heap) (hH : H = dobjR s :: robj s :: J) (hk : K (.bool (isR s w)) (dobjR s :: robj s :: J)) :
    ACalls T.L 41 [.ptr 1 0, .str w] H (contR K KP) := (is_spec F.h41 s hs w).to (low1 (.str w)) (.bool _) J hH hk
theorem RFns.give (F : RFns T) {s : RS} (hs : s.ok) (c : Int) {H : Heap} {K KP : AVal → Heap → Prop} (J : Heap) (hH : H = dobjR s :: robj s :: J) (hk : K (.tup []) (dobjR (giveR s c) :: robj (giveR s c) :: J)) :
    ACalls T.L 60 [.ptr 1 0, .int .i64 c] H (contR K KP) := (give_spec F.h60 s hs c).to (low1 (.int _ _)) low_unit J hH hk

theorem take_spec (F : RFns T) (s : RS) (hs : s.ok) (w : Bytes) : RC T.L 59 [.str w] s (.tup []) (takeR s w) := by
  refine RC.of 0 low_unit (acallsG F.h59 (by simp [c_59]) ?_)
  conv => whnf
  refine F.is hs w [] rfl ?_
  cases h : isR s w
  · conv => whnf
    refine F.give hs 2 [] rfl ?_
    conv => whnf
    rw [show takeR s w = giveR s 2 from by unfold takeR; rw [h]; rfl]
    exact ⟨_, rfl, Weak.refl _, rfl⟩
  · conv => whnf
    rw [addN hs.i]
    rw [show takeR s w = { s with i := s.i + 1 } from by unfold takeR; rw [h]; rfl]
    exact ⟨_, rfl, Weak.refl _, rfl⟩

theorem RFns.take (F : RFns T) {s : RS} (hs : s.ok) (w : Bytes) {H : Heap} {K KP : AVal → Heap → Prop} (J : Heap) (hH : H = dobjR s :: robj s :: J) (hk : K (.tup []) (dobjR (takeR s w) :: robj (takeR s w) :: J)) :
    ACalls T.L 59 [.ptr 1 0, .str w] H (contR K KP) := (take_spec F s hs w).to (low1 (.str w)) low_unit J hH hk

theorem name_spec (F : RFns T) (s : RS) (hs : s.ok) : RC T.L 61 [] s (nameR s).1.av (nameR s).2 := by
  refine RC.of 0 (low_tok _ _) (acallsG F.h61 (by simp [c_61]) ?_)
  have hv : nameR s = if s.bad then (zeroTok, s) else if s.tok.kind = 1 then (s.tok, { s with i := s.i + 1 }) else (zeroTok, giveR s 2) := rfl
  conv => whnf
  refine step_tok hs ?_
  conv => whnf
  cases hb : s.bad
  · rw [if_neg (by simp [hb])] at hv
    conv => whnf
    cases hk : (s.tok.kind != 1)
    · rw [if_pos (by simpa using hk)] at hv
      rw [hv]
      conv => whnf
      rw [addN hs.i]
      exact ⟨_, rfl, Weak.refl _, rfl⟩
    · rw [if_neg (by simpa using hk)] at hv
      rw [hv]
      conv => whnf
      refine F.give hs 2 _ rfl ?_
      conv => whnf
      exact ⟨_, rfl, Weak.refl _, rfl⟩
  · rw [if_pos hb] at hv
    rw [hv]
    conv => whnf
    exact ⟨_, rfl, Weak.refl _, rfl⟩

theorem RFns.name (F : RFns T) {s : RS} (hs : s.ok) {H : Heap} {K KP : AVal → Heap → Prop} (J : Heap) (hH : H = dobjR s :: robj s :: J) (hk : K (nameR s).1.av (dobjR (nameR s).2 :: robj (nameR s).2 :: J)) :
    ACalls T.L 61 [.ptr 1 0] H (contR K KP) := (name_spec F s hs).to low0 (low_tok _ _) J hH hk

end Go.Ag
