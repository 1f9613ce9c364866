/- Expressions that are read are small. -/
import Derived.Test.YtljfbnbmcemdcaaGreatDoorAgRefG
set_option linter.unusedVariables false
namespace Go.Ag
open Go

mutual
def EA.small : EA → Prop
  | .mk _ _ _ _ _ l _ => l.length ≤ 2 ^ 34 ∧ EA.smalls l
def EA.smalls : List EA → Prop
  | [] => True
  | x :: l => x.small ∧ EA.smalls l
end
theorem smalls_app {a : List EA} {x : EA} (h : EA.smalls a) (hx : x.small) : EA.smalls (a ++ [x]) := by
  induction a with
  | nil => exact ⟨hx, trivial⟩
  | cons y a ih => exact ⟨h.1, ih h.2⟩
theorem small_zero : zeroE.small := ⟨by simp, trivial⟩
theorem small0 (k p : Int) (nm : Bytes) (m : Int) (ns : List Bytes) (ts : List TA) : (EA.mk k p nm m ns [] ts).small := ⟨by simp, trivial⟩
theorem small1 {k p : Int} {nm : Bytes} {m : Int} {ns : List Bytes} {ts : List TA} {a : EA} (h : a.small) : (EA.mk k p nm m ns [a] ts).small := ⟨by simp, h, trivial⟩
theorem small2 {k p : Int} {nm : Bytes} {m : Int} {ns : List Bytes} {ts : List TA} {a b : EA} (h : a.small) (h' : b.small) : (EA.mk k p nm m ns [a, b] ts).small := ⟨by simp, h, h', trivial⟩
theorem small3 {k p : Int} {nm : Bytes} {m : Int} {ns : List Bytes} {ts : List TA} {a b c : EA} (h : a.small) (h' : b.small) (h'' : c.small) : (EA.mk k p nm m ns [a, b, c] ts).small := ⟨by simp, h, h', h'', trivial⟩

structure SmEx (n : Nat) : Prop where
  expr : ∀ (d : Nat) (s : RS), s.ok → (exprR n d s).1.small
  fn : ∀ (d : Nat) (a : Int) (p : TokA × RS), p.2.ok → (funR n d a p).1.small
  lt : ∀ (d : Nat) (a : Int) (p : TokA × RS), p.2.ok → (letR n d a p).1.small
  ie : ∀ (d : Nat) (a : Int) (s : RS), s.ok → (ifR n d a s).1.small
  el : ∀ (d : Nat) (a : Int) (x : EA) (q : EA × RS), q.2.ok → x.small → q.1.small → (elseR n d a x q).1.small
  post : ∀ (d : Nat) (x : EA) (s : RS), s.ok → x.small → (postR n d x s).1.small
  basic : ∀ (d : Nat) (s : RS), s.ok → (basicR n d s).1.small
  as_ : ∀ (d : Nat) (a : Int) (q : EA × RS), q.2.ok → q.1.small → (asR n d a q).1.small
  fields : ∀ (d : Nat) (a : Int) (names : List Bytes) (l : List EA) (s : RS), s.ok → EA.smalls l → l.length + s.rem ≤ 2 ^ 34 → (efieldsR n d a names l s).1.small

theorem sm_exprs : ∀ n : Nat, SmEx n := by
  intro n
  induction n with
  | zero => exact ⟨fun d s h => by unfold exprR; exact small_zero, fun d a p h => by unfold funR; exact small_zero, fun d a p h => by unfold letR; exact small_zero, fun d a s h => by unfold ifR; exact small_zero, fun d a x q h _ _ => by unfold elseR; exact small_zero, fun d x s h hx => by unfold postR; exact hx, fun d s h => by unfold basicR; exact small_zero, fun d a q h _ => by unfold asR; exact small_zero, fun d a ns l s h _ _ => by unfold efieldsR; exact small_zero⟩
  | succ n ih =>
    have le := le_exprs n
    have ty := fun (d : Nat) (s : RS) (h : s.ok) => h.of ((le_types n).1 d s h)
    have tk := fun (s : RS) (h : s.ok) (w : Bytes) => h.of (take_le h w)
    have nm := fun (s : RS) (h : s.ok) => h.of (name_le h)
    have ex := fun (d : Nat) (s : RS) (h : s.ok) => h.of (le.expr d s h)
    refine ⟨fun d s h => ?_, fun d a p h => ?_, fun d a p h => ?_, fun d a s h => ?_, fun d a x q h hx hq => ?_, fun d x s h hx => ?_, fun d s h => ?_, fun d a q h hq => ?_, fun d a ns l s h hl hll => ?_⟩
    · have ho := h.of (deep_le (d := d) h)
      unfold exprR
      generalize deepR d s = s1 at ho ⊢
      split
      · exact small_zero
      · split
        · exact ih.fn _ _ _ (nm _ (tk _ (tk _ ho _) _))
        · split
          · exact ih.lt _ _ _ (nm _ (tk _ ho _))
          · split
            · exact ih.ie _ _ _ (tk _ ho _)
            · exact ih.post _ _ _ (ho.of (le.basic d s1 ho)) (ih.basic d s1 ho)
    · unfold funR
      split
      · exact small_zero
      · split
        · exact small_zero
        · exact small1 (ih.expr _ _ (tk _ (ty _ _ (tk _ h _)) _))
    · unfold letR
      exact small2 (ih.expr _ _ (tk _ h _)) (ih.expr _ _ (tk _ (ex _ _ (tk _ h _)) _))
    · unfold ifR
      exact ih.el _ _ _ _ (ex _ _ (tk _ (ex _ _ h) _)) (ih.expr _ _ h) (ih.expr _ _ (tk _ (ex _ _ h) _))
    · unfold elseR
      exact small3 hx hq (ih.expr _ _ (tk _ h _))
    · unfold postR
      split
      · exact ih.post _ _ _ (tk _ (ex _ _ (tk _ h _)) _) (small2 hx (ih.expr _ _ (tk _ h _)))
      · split
        · exact ih.post _ _ _ (nm _ (tk _ h _)) (small1 hx)
        · exact hx
    · unfold basicR
      split
      · exact small_zero
      · split
        · exact small0 _ _ _ _ _ _
        · split
          · exact small0 _ _ _ _ _ _
          · split
            · exact small0 _ _ _ _ _ _
            · split
              · exact small0 _ _ _ _ _ _
              · split
                · exact small0 _ _ _ _ _ _
                · split
                  · refine ih.fields _ _ _ _ _ (tk _ h _) trivial ?_
                    have h1 := (take_le h kLb).rem
                    have h2 := h.len
                    unfold RS.rem at *
                    simp
                    omega
                  · split
                    · exact small_zero
                    · exact ih.as_ _ _ _ (ex _ _ (tk _ h _)) (ih.expr _ _ (tk _ h _))
    · rw [asR]
      split
      · exact small1 hq
      · exact hq
    · unfold efieldsR
      split
      · split
        · exact small_zero
        · rename_i hb
          have hb : (takeR (nameR s).2 kEq).bad = false := by simpa using hb
          have hr := two_rem h kEq hb
          have ok2 := tk _ (nm _ h) kEq
          split
          · have k1 := h.of (twice_le h kEq hb)
            have k2 := ex (d + 1) _ k1
            refine ih.fields _ _ _ _ _ (k2.of (comma_le k2)) hl ?_
            have e1 := (comma_le k2).rem
            have e2 := (le.expr (d + 1) _ k1).rem
            have e3 : (twiceR (takeR (nameR s).2 kEq) (nameR s).1).rem = (takeR (nameR s).2 kEq).rem := rfl
            omega
          · have k2 := ex (d + 1) _ ok2
            refine ih.fields _ _ _ _ _ (k2.of (comma_le k2)) (smalls_app hl (ih.expr _ _ ok2)) ?_
            have e1 := (comma_le k2).rem
            have e2 := (le.expr (d + 1) _ ok2).rem
            simp
            omega
      · exact ⟨by omega, hl⟩

/-! declarations -/
def DeclA.small (d : DeclA) : Prop := d.es.length ≤ 1 ∧ EA.smalls d.es
theorem decl_small {n : Nat} {s : RS} (hs : s.ok) : (declR n s).1.small := by
  have ty := fun (d : Nat) (s : RS) (h : s.ok) => h.of ((le_types n).1 d s h)
  have tk := fun (s : RS) (h : s.ok) (w : Bytes) => h.of (take_le h w)
  have nm := fun (s : RS) (h : s.ok) => h.of (name_le h)
  have hE : ∀ (t : TokA) (ts : List TA) (s : RS), s.ok → (declE n t ts s).1.small := fun t ts s hs => ⟨by simp [declE], (sm_exprs n).expr _ _ (tk _ hs _), trivial⟩
  unfold declR
  split
  · exact ⟨by simp [declU], trivial⟩
  · split
    · exact ⟨by simp [declT], trivial⟩
    · split
      · unfold declL
        split
        · exact hE _ _ _ (ty _ _ (tk _ (nm _ (tk _ hs _)) _))
        · exact hE _ _ _ (nm _ (tk _ hs _))
      · exact ⟨by simp, trivial⟩

theorem parseGo_small (n : Nat) : ∀ (k : Nat) (l : List DeclA) (s : RS), s.okN k → s.bad = false → s.rem ≤ k → (∀ d ∈ l, d.small) → (∀ d ∈ (parseGo n k l s).1, d.small) ∧ (parseGo n k l s).1.length ≤ l.length + k
  | 0, l, s, h, hb, hr, hl => ⟨hl, by simp [parseGo]⟩
  | k + 1, l, s, h, hb, hr, hl => by
    rw [parseGo]
    split
    · rename_i hk
      have hrr := round_rem (n := n) h hb (by simpa using hk)
      split
      · rename_i hb2
        obtain ⟨k1, k2, k3⟩ := hrr.2 hb2
        have := parseGo_small n k l _ k1 k3 (by omega) hl
        exact ⟨this.1, by omega⟩
      · rename_i hb2
        obtain ⟨k1, k2⟩ := hrr.1 (by simpa using hb2)
        have := parseGo_small n k (l ++ [(declR n s).1]) _ k1 (by simpa using hb2) (by omega) (fun d hd => by
          rcases List.mem_append.1 hd with hd | hd
          · exact hl d hd
          · simp only [List.mem_singleton] at hd; subst hd; exact decl_small h.ok)
        exact ⟨this.1, by have := this.2; simp at this; omega⟩
    · exact ⟨hl, by simp⟩

theorem parse_small (src : Bytes) (hs : src.length ≤ 2 ^ 32) : (∀ d ∈ (parse05R src).1, d.small) ∧ (parse05R src).1.length ≤ 2 ^ 33 := by
  obtain ⟨hok, hlen, hdl⟩ := start_ok src hs
  have hrem : (startR src).rem ≤ src.length + 1 := by unfold RS.rem; omega
  have hp : (startR src).pot ≤ (startR src).diags.length + 2 * (startR src).toks.length + 1 := by
    unfold RS.pot
    split <;> omega
  have := parseGo_small (exprFuel src) (startR src).rem [] (startR src) ⟨hok.lt, hok.more, hok.len, hok.txt, by omega⟩ rfl (Nat.le_refl _) (fun d hd => by cases hd)
  exact ⟨this.1, by have := this.2; simp at this; unfold parse05R; omega⟩
theorem exprOf_small (src : Bytes) (hs : src.length ≤ 2 ^ 32) : (exprOfR src).1.small := by
  unfold exprOfR
  split
  · exact small_zero
  · exact (sm_exprs _).expr _ _ (start_ok src hs).1

end Go.Ag
