/- How much a text grows, and what is looked at: these come to an end. -/
import Derived.Test.YtljfbnbmcemdcaaGreatDoorAgPrA
import Derived.Test.YtljfbnbmcemdcaaGreatDoorAgRefSm
set_option linter.unusedVariables false
namespace Go.Ag
open Go

variable {T : Tab} {L : Lnk}

/-- A call that hands back something of a kind, and leaves nothing that can be seen. -/
def PureE (L : Lnk) (f : Nat) (args : List AVal) (Q : AVal → Prop) : Prop := ∀ H, ACalls L f args H fun r H' => ∃ y, r = .ret y ∧ Q y ∧ H' = H

theorem PureE.run {f : Nat} {args : List AVal} {Q : AVal → Prop} (ha : ∀ x ∈ args, Low 0 x) (h : ACalls L f args [] fun r _ => ∃ x y, r = .ret x ∧ Weak L x y ∧ Low 0 y ∧ Q y) : PureE L f args Q := fun H => by
  have h1 : ACalls L f args [] fun r H' => ∃ y, r = .ret y ∧ H' = [] ∧ Low 0 y ∧ Q y := ACalls.gc (h.mono fun r H' ⟨x, y, e1, e2, e3, e4⟩ => ⟨H', x, y, by simp, e1, e2, e3, e3, e4⟩)
  have hp : Part H [] [] := ⟨List.nodup_nil, rfl, fun k i o hk => by cases hk⟩
  have h2 := h1.frame (H := H) [] hp (fun o ho => by cases ho)
  rw [map_low ha] at h2
  refine h2.mono fun r H' ⟨r1, H1, ⟨y, e1, e2, e3, e4⟩, _, e5, e6⟩ => ?_
  subst e1 e2
  refine ⟨y, by rw [e5]; simp only [renR]; rw [ren_low0 e3], e4, by rw [e6]; simp [putL]⟩

theorem PureE.to {f : Nat} {args : List AVal} {Q : AVal → Prop} (h : PureE L f args Q) {H : Heap} {K KP : AVal → Heap → Prop} (hk : ∀ y, Q y → K y H) : ACalls L f args H (contR K KP) :=
  (h H).mono fun r H' ⟨y, e1, e2, e3⟩ => by subst e1 e3; exact hk y e2

theorem step_ea {l : List EA} {k : Nat} (h : k < l.length) {P : AVal → Prop} (hp : ∀ a1 a2 a3 a4 a5 a6 a7, l[k] = .mk a1 a2 a3 a4 a5 a6 a7 → P (.agg [.int .i64 a1, .int .i64 a2, .str a3, .int .i64 a4, .lst (strA a5) .none, .lst (EA.avs a6) .none, .lst (TA.avs a7) .none])) :
    0 ≤ ((k : Nat) : Int) ∧ (match (EA.avs l)[((k : Nat) : Int).toNat]? with
    | some y => y.cells.length = 7 ∧ P y
    | none => False) := by
  refine ⟨by omega, ?_⟩
  have hget : ∀ (l : List EA) (k : Nat) (h : k < l.length), (EA.avs l)[k]? = some l[k].av := fun l => by
    induction l with
    | nil => intro k h; simp at h
    | cons x l ih =>
      intro k h
      cases k with
      | zero => rfl
      | succ k => simpa [EA.avs] using ih k (by simpa using h)
  rw [Int.toNat_natCast, hget l k h]
  obtain ⟨x, hx⟩ : ∃ x, l[k] = x := ⟨_, rfl⟩
  rw [hx]
  obtain ⟨a1, a2, a3, a4, a5, a6, a7⟩ := x
  exact ⟨rfl, hp _ _ _ _ _ _ _ hx⟩

def isInt (y : AVal) : Prop := ∃ v, y = .int .i64 v

theorem growsExpr_spec (h25 : T.has 25 c_25) (x : EA) : x.small → PureE T.L 25 [x.av] isInt := by
  refine EA.rec (motive_1 := fun x => x.small → PureE T.L 25 [x.av] isInt) (motive_2 := fun l => EA.smalls l → ∀ x ∈ l, PureE T.L 25 [x.av] isInt) (fun k p nm m ns l ts ih => ?_) (fun _ x hx => by cases hx) (fun x l h1 h2 hs y hy => ?_) x
  · intro hsm
    have hl := ih hsm.2
    have hb := hsm.1
    refine PureE.run (low1 (low_ea _ _)) (acallsG h25 (by simp [c_25]) ?_)
    have hlen : (EA.avs l).length = l.length := eas_len l
    conv => whnf
    cases h5 : (k == 5)
    case' true =>
      conv => whnf
      cases hg : decide (((EA.avs l).length : Int) > 1)
      case' true => conv => whnf
      case' false => conv => whnf
    case' false => conv => whnf
    all_goals
      conv => whnf
      cases h10 : (k == 10)
    all_goals
      conv => whnf
      intro I hI hG
      have key : ∀ (d j : Nat) (e : Env) (n : Int), l.length - j = d → j ≤ l.length → I (setL e [(1, .ptr 0 0), (3, .int .i64 n), (4, .int .i64 j)]) [.cells [.int .i64 k, .int .i64 p, .str nm, .int .i64 m, .lst (strA ns) .none, .lst (EA.avs l) .none, .lst (TA.avs ts) .none] 70] := by
        intro d
        induction d with
        | zero =>
          intro j e n hd hj
          apply hI
          conv => whnf
          rw [hlen, lt_false (by omega)]
          conv => whnf
          exact ⟨_, _, rfl, Weak.refl _, .int _ _, _, rfl⟩
        | succ d ihd =>
          intro j e n hd hj
          have hlt : j < l.length := by omega
          apply hI
          conv => whnf
          rw [hlen, lt_true hlt]
          conv => whnf
          refine step_ea hlt fun a1 a2 a3 a4 a5 a6 a7 hx => ?_
          conv => whnf
          have hc := hl l[j] (List.getElem_mem hlt)
          rw [hx] at hc
          refine hc.to fun y hy => ?_
          obtain ⟨v, rfl⟩ := hy
          conv => whnf
          exact inv_of [(1, .ptr 0 0), (3, .int .i64 _), (4, .int .i64 ((j + 1 : Nat) : Int))] ⟨rfl, rfl, add1 (by omega), trivial⟩ (ihd (j + 1) _ _ (by omega) (by omega))
      exact inv_of [(1, .ptr 0 0), (3, .int .i64 _), (4, .int .i64 0)] ⟨rfl, rfl, rfl, trivial⟩ (key _ 0 _ _ rfl (by omega))
  · rcases List.mem_cons.1 hy with rfl | hy
    · exact h1 hs.1
    · exact h2 hs.2 y hy

theorem step_decl {l : List DeclA} {k : Nat} (h : k < l.length) {P : AVal → Prop} (hp : P (.agg [.int .i64 l[k].kind, .int .i64 l[k].at_, .str l[k].name, .lst (TA.avs l[k].ts) .none, .lst (EA.avs l[k].es) .none])) :
    0 ≤ ((k : Nat) : Int) ∧ (match (l.map DeclA.av)[((k : Nat) : Int).toNat]? with
    | some y => y.cells.length = 5 ∧ P y
    | none => False) := by
  refine ⟨by omega, ?_⟩
  rw [Int.toNat_natCast, List.getElem?_map, List.getElem?_eq_getElem h]
  exact ⟨rfl, hp⟩

theorem grows_spec (F : PFns T) (h12 : T.has 12 c_12) (h25 : T.has 25 c_25) (src : List UInt8) (hs : src.length ≤ 2 ^ 32) : PureE T.L 12 [.str src] isInt := by
  refine PureE.run (low1 (.str _)) (acallsG h12 (by simp [c_12]) ?_)
  have hp := parse05_spec F src hs
  have hx := exprOf_spec F src hs
  obtain ⟨sm1, sm2⟩ := parse_small src hs
  have sm3 := exprOf_small src hs
  generalize parse05R src = R at hp sm1 sm2
  generalize exprOfR src = X at hx sm3
  obtain ⟨l, r⟩ := R
  obtain ⟨x, b⟩ := X
  dsimp only at hp hx sm1 sm2 sm3
  conv => whnf
  refine hp.to ?_
  conv => whnf
  intro I hI hG
  have hlen : (l.map DeclA.av).length = l.length := by simp
  have key : ∀ (d j : Nat) (e : Env) (n : Int), l.length - j = d → j ≤ l.length → I (setL e [(0, .str src), (3, .int .i64 n), (4, .lst (l.map DeclA.av) .none), (6, .int .i64 j)]) [] := by
    intro d
    induction d with
    | zero =>
      intro j e n hd hj
      apply hI
      conv => whnf
      rw [hlen, lt_false (by omega)]
      conv => whnf
      refine hx.to ?_
      obtain ⟨a1, a2, a3, a4, a5, a6, a7⟩ := x
      conv => whnf
      cases b
      · conv => whnf
        exact ⟨_, _, rfl, Weak.refl _, .int _ _, _, rfl⟩
      · conv => whnf
        refine (growsExpr_spec h25 _ sm3).to fun y hy => ?_
        obtain ⟨v, rfl⟩ := hy
        conv => whnf
        exact ⟨_, _, rfl, Weak.refl _, .int _ _, _, rfl⟩
    | succ d ihd =>
      intro j e n hd hj
      have hlt : j < l.length := by omega
      have hdsm := sm1 l[j] (List.getElem_mem hlt)
      have helen : (EA.avs l[j].es).length = l[j].es.length := eas_len _
      have hall : ∀ x ∈ l[j].es, x.small := by
        have : ∀ (es : List EA), EA.smalls es → ∀ x ∈ es, x.small := fun es => by
          induction es with
          | nil => intro _ x hx; cases hx
          | cons y es ih => intro h x hx; rcases List.mem_cons.1 hx with rfl | hx
                            · exact h.1
                            · exact ih h.2 x hx
        exact this _ hdsm.2
      apply hI
      conv => whnf
      rw [hlen, lt_true hlt]
      conv => whnf
      intro I2 hI2 hG2
      have key2 : ∀ (d2 j2 : Nat) (e : Env) (n : Int), l[j].es.length - j2 = d2 → j2 ≤ l[j].es.length → I2 (setL e [(0, .str src), (3, .int .i64 n), (4, .lst (l.map DeclA.av) .none), (6, .int .i64 j), (7, .int .i64 j2)]) [] := by
        intro d2
        induction d2 with
        | zero =>
          intro j2 e n hd2 hj2
          apply hI2
          conv => whnf
          refine step_decl hlt ?_
          conv => whnf
          refine ⟨by simp [AVal.cells], ?_⟩
          conv => whnf
          rw [helen, lt_false (by omega)]
          conv => whnf
          exact inv_of [(0, .str src), (3, .int .i64 _), (4, .lst (l.map DeclA.av) .none), (6, .int .i64 ((j + 1 : Nat) : Int))] ⟨rfl, rfl, rfl, add1 (by omega), trivial⟩ (ihd (j + 1) _ _ (by omega) (by omega))
        | succ d2 ihd2 =>
          intro j2 e n hd2 hj2
          have hlt2 : j2 < l[j].es.length := by omega
          apply hI2
          conv => whnf
          refine step_decl hlt ?_
          conv => whnf
          refine ⟨by simp [AVal.cells], ?_⟩
          conv => whnf
          rw [helen, lt_true hlt2]
          conv => whnf
          refine step_decl hlt ?_
          conv => whnf
          refine ⟨by simp [AVal.cells], ?_⟩
          conv => whnf
          refine step_ea hlt2 fun a1 a2 a3 a4 a5 a6 a7 hx2 => ?_
          conv => whnf
          have hc := growsExpr_spec h25 _ (hall _ (List.getElem_mem hlt2))
          rw [hx2] at hc
          refine hc.to fun y hy => ?_
          obtain ⟨v, rfl⟩ := hy
          conv => whnf
          exact inv_of [(0, .str src), (3, .int .i64 _), (4, .lst (l.map DeclA.av) .none), (6, .int .i64 j), (7, .int .i64 ((j2 + 1 : Nat) : Int))] ⟨rfl, rfl, rfl, rfl, add1 (by have := hdsm.1; omega), trivial⟩ (ihd2 (j2 + 1) _ _ (by omega) (by omega))
      exact inv_of [(0, .str src), (3, .int .i64 _), (4, .lst (l.map DeclA.av) .none), (6, .int .i64 j), (7, .int .i64 0)] ⟨rfl, rfl, rfl, rfl, rfl, trivial⟩ (key2 _ 0 _ _ rfl (by omega))
  exact inv_of [(0, .str src), (3, .int .i64 0), (4, .lst (l.map DeclA.av) .none), (6, .int .i64 0)] ⟨rfl, rfl, rfl, rfl, trivial⟩ (key _ 0 _ _ rfl (by omega))

end Go.Ag
