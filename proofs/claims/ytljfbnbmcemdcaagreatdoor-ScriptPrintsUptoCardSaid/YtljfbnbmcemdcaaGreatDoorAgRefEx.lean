/- Package cupelref05: what the reader reads of an expression, as plain functions. -/
import Derived.Test.YtljfbnbmcemdcaaGreatDoorAgRefTy2
set_option linter.unusedVariables false
namespace Go.Ag
open Go

def kFun : Bytes := [102, 117, 110]
def kLet : Bytes := [108, 101, 116]
def kIf : Bytes := [105, 102]
def kEq : Bytes := [61]
def kIn : Bytes := [105, 110]
def kThen : Bytes := [116, 104, 101, 110]
def kElse : Bytes := [101, 108, 115, 101]
def kDot : Bytes := [46]
def kTrue : Bytes := [116, 114, 117, 101]
def kFalse : Bytes := [102, 97, 108, 115, 101]
def kSemi : Bytes := [59]

def zeroE : EA := .mk 0 0 [] 0 [] [] []
def EA.names : EA → List Bytes | .mk _ _ _ _ ns _ _ => ns
def EA.at_ : EA → Int | .mk _ p _ _ _ _ _ => p
def EA.l : EA → List EA | .mk _ _ _ _ _ l _ => l

def deepR (d : Nat) (s : RS) : RS := if 64 < d then giveR s 3 else s

mutual
def exprR : Nat → Nat → RS → EA × RS
  | 0, _, s => (zeroE, s)
  | n + 1, d, s =>
    if (deepR d s).bad then (zeroE, deepR d s)
    else if isR (deepR d s) kFun then funR n d (deepR d s).tok.at_ (nameR (takeR (takeR (deepR d s) kFun) kLp))
    else if isR (deepR d s) kLet then letR n d (deepR d s).tok.at_ (nameR (takeR (deepR d s) kLet))
    else if isR (deepR d s) kIf then ifR n d (deepR d s).tok.at_ (takeR (deepR d s) kIf)
    else postR n d (basicR n d (deepR d s)).1 (basicR n d (deepR d s)).2
def funR : Nat → Nat → Int → TokA × RS → EA × RS
  | 0, _, _, p => (zeroE, p.2)
  | n + 1, d, at_, p =>
    if (takeR p.2 kColon).bad then (zeroE, takeR p.2 kColon)
    else if (takeR (typeR n (d + 1) (takeR p.2 kColon)).2 kRp).bad then (zeroE, takeR (typeR n (d + 1) (takeR p.2 kColon)).2 kRp)
    else (.mk 8 at_ p.1.text 0 [] [(exprR n (d + 1) (takeR (typeR n (d + 1) (takeR p.2 kColon)).2 kRp)).1] [(typeR n (d + 1) (takeR p.2 kColon)).1],
      (exprR n (d + 1) (takeR (typeR n (d + 1) (takeR p.2 kColon)).2 kRp)).2)
def letR : Nat → Nat → Int → TokA × RS → EA × RS
  | 0, _, _, p => (zeroE, p.2)
  | n + 1, d, at_, p =>
    (.mk 9 at_ p.1.text 0 [] [(exprR n (d + 1) (takeR p.2 kEq)).1, (exprR n (d + 1) (takeR (exprR n (d + 1) (takeR p.2 kEq)).2 kIn)).1] [],
      (exprR n (d + 1) (takeR (exprR n (d + 1) (takeR p.2 kEq)).2 kIn)).2)
def ifR : Nat → Nat → Int → RS → EA × RS
  | 0, _, _, s => (zeroE, s)
  | n + 1, d, at_, s => elseR n d at_ (exprR n (d + 1) s).1 (exprR n (d + 1) (takeR (exprR n (d + 1) s).2 kThen))
def elseR : Nat → Nat → Int → EA → EA × RS → EA × RS
  | 0, _, _, _, q => (zeroE, q.2)
  | n + 1, d, at_, a, q => (.mk 10 at_ [] 0 [] [a, q.1, (exprR n (d + 1) (takeR q.2 kElse)).1] [], (exprR n (d + 1) (takeR q.2 kElse)).2)
def postR : Nat → Nat → EA → RS → EA × RS
  | 0, _, x, s => (x, s)
  | n + 1, d, x, s =>
    if isR s kLp then postR n d (.mk 7 s.tok.at_ [] 0 [] [x, (exprR n (d + 1) (takeR s kLp)).1] []) (takeR (exprR n (d + 1) (takeR s kLp)).2 kRp)
    else if isR s kDot then postR n d (.mk 6 (nameR (takeR s kDot)).1.at_ (nameR (takeR s kDot)).1.text 0 [] [x] []) (nameR (takeR s kDot)).2
    else (x, s)
def basicR : Nat → Nat → RS → EA × RS
  | 0, _, s => (zeroE, s)
  | n + 1, d, s =>
    if s.bad then (zeroE, s)
    else if s.tok.kind = 1 then (.mk 4 s.tok.at_ s.tok.text 0 [] [] [], { s with i := s.i + 1 })
    else if s.tok.kind = 3 then (.mk 1 s.tok.at_ [] (numberR s.tok.text) [] [] [], { s with i := s.i + 1 })
    else if s.tok.kind = 4 then (.mk 2 s.tok.at_ s.tok.text 0 [] [] [], { s with i := s.i + 1 })
    else if isR s kTrue then (.mk 3 s.tok.at_ [] 1 [] [] [], takeR s kTrue)
    else if isR s kFalse then (.mk 3 s.tok.at_ [] 0 [] [] [], takeR s kFalse)
    else if isR s kLb then efieldsR n d s.tok.at_ [] [] (takeR s kLb)
    else if (takeR s kLp).bad then (zeroE, takeR s kLp)
    else asR n d s.tok.at_ (exprR n (d + 1) (takeR s kLp))
def asR : Nat → Nat → Int → EA × RS → EA × RS
  | 0, _, _, q => (zeroE, q.2)
  | n + 1, d, at_, q =>
    if isR q.2 kColon then (.mk 11 at_ [] 0 [] [q.1] [(typeR n (d + 1) (takeR q.2 kColon)).1], takeR (typeR n (d + 1) (takeR q.2 kColon)).2 kRp)
    else (q.1, takeR q.2 kRp)
def efieldsR : Nat → Nat → Int → List Bytes → List EA → RS → EA × RS
  | 0, _, _, _, _, s => (zeroE, s)
  | n + 1, d, at_, names, l, s =>
    if !s.bad && !isR s kRb then
      if (takeR (nameR s).2 kEq).bad then (zeroE, takeR (nameR s).2 kEq)
      else if hasR names (nameR s).1.text then
        efieldsR n d at_ names l (commaR (exprR n (d + 1) (twiceR (takeR (nameR s).2 kEq) (nameR s).1)).2)
      else
        efieldsR n d at_ (names ++ [(nameR s).1.text]) (l ++ [(exprR n (d + 1) (takeR (nameR s).2 kEq)).1]) (commaR (exprR n (d + 1) (takeR (nameR s).2 kEq)).2)
    else (.mk 5 at_ [] 0 names l [], takeR s kRb)
end

theorem deep_le {d : Nat} {s : RS} (hs : s.ok) : s.le (deepR d s) := by
  unfold deepR
  split
  · exact give_le hs 3
  · exact RS.le.refl hs

structure LeEx (n : Nat) : Prop where
  expr : ∀ (d : Nat) (s : RS), s.ok → s.le (exprR n d s).2
  fn : ∀ (d : Nat) (a : Int) (p : TokA × RS), p.2.ok → p.2.le (funR n d a p).2
  lt : ∀ (d : Nat) (a : Int) (p : TokA × RS), p.2.ok → p.2.le (letR n d a p).2
  ie : ∀ (d : Nat) (a : Int) (s : RS), s.ok → s.le (ifR n d a s).2
  el : ∀ (d : Nat) (a : Int) (x : EA) (q : EA × RS), q.2.ok → q.2.le (elseR n d a x q).2
  post : ∀ (d : Nat) (x : EA) (s : RS), s.ok → s.le (postR n d x s).2
  basic : ∀ (d : Nat) (s : RS), s.ok → s.le (basicR n d s).2
  as_ : ∀ (d : Nat) (a : Int) (q : EA × RS), q.2.ok → q.2.le (asR n d a q).2
  fields : ∀ (d : Nat) (a : Int) (names : List Bytes) (l : List EA) (s : RS), s.ok → s.le (efieldsR n d a names l s).2

theorem le_exprs : ∀ n : Nat, LeEx n := by
  intro n
  induction n with
  | zero => exact ⟨fun d s h => by unfold exprR; exact RS.le.refl h, fun d a p h => by unfold funR; exact RS.le.refl h, fun d a p h => by unfold letR; exact RS.le.refl h, fun d a s h => by unfold ifR; exact RS.le.refl h, fun d a x q h => by unfold elseR; exact RS.le.refl h, fun d x s h => by unfold postR; exact RS.le.refl h, fun d s h => by unfold basicR; exact RS.le.refl h, fun d a q h => by unfold asR; exact RS.le.refl h, fun d a ns l s h => by unfold efieldsR; exact RS.le.refl h⟩
  | succ n ih =>
    have ty := fun (d : Nat) (s : RS) (h : s.ok) => (le_types n).1 d s h
    have tk := fun (s : RS) (h : s.ok) (w : Bytes) => take_le h w
    -- one step behind another
    have tt : ∀ {a b : RS} {f : RS → RS}, a.ok → a.le b → (∀ s : RS, s.ok → s.le (f s)) → a.le (f b) := fun ha hab hf => hab.trans (hf _ (ha.of hab))
    refine ⟨fun d s h => ?_, fun d a p h => ?_, fun d a p h => ?_, fun d a s h => ?_, fun d a x q h => ?_, fun d x s h => ?_, fun d s h => ?_, fun d a q h => ?_, fun d a ns l s h => ?_⟩
    · have hle : s.le (deepR d s) := deep_le h
      unfold exprR
      generalize deepR d s = s1 at hle ⊢
      have ho := h.of hle
      have k1 := tk s1 ho kFun
      have k2 := k1.trans (tk _ (ho.of k1) kLp)
      have k3 := k2.trans (name_le (ho.of k2))
      have k4 := tk s1 ho kLet
      have k5 := k4.trans (name_le (ho.of k4))
      have k6 := tk s1 ho kIf
      split
      · exact hle
      · split
        · exact hle.trans (k3.trans (ih.fn _ _ _ (ho.of k3)))
        · split
          · exact hle.trans (k5.trans (ih.lt _ _ _ (ho.of k5)))
          · split
            · exact hle.trans (k6.trans (ih.ie _ _ _ (ho.of k6)))
            · exact hle.trans (tt (f := fun s => (postR n d (basicR n d s1).1 s).2) ho (ih.basic d s1 ho) fun s h => ih.post _ _ s h)
    · unfold funR
      have k1 := tk p.2 h kColon
      have k2 := k1.trans (ty (d + 1) _ (h.of k1))
      have k3 := k2.trans (tk _ (h.of k2) kRp)
      split
      · exact k1
      · split
        · exact k3
        · exact k3.trans (ih.expr _ _ (h.of k3))
    · unfold letR
      have k1 := tk p.2 h kEq
      have k2 := k1.trans (ih.expr (d + 1) _ (h.of k1))
      have k3 := k2.trans (tk _ (h.of k2) kIn)
      exact k3.trans (ih.expr (d + 1) _ (h.of k3))
    · unfold ifR
      have k2 := ih.expr (d + 1) s h
      have k3 := k2.trans (tk _ (h.of k2) kThen)
      have k4 := k3.trans (ih.expr (d + 1) _ (h.of k3))
      exact k4.trans (ih.el _ _ _ _ (h.of k4))
    · unfold elseR
      have k1 := tk q.2 h kElse
      exact k1.trans (ih.expr (d + 1) _ (h.of k1))
    · unfold postR
      have k1 := tk s h kLp
      have k2 := k1.trans (ih.expr (d + 1) _ (h.of k1))
      have k3 := k2.trans (tk _ (h.of k2) kRp)
      have k4 := tk s h kDot
      have k5 := k4.trans (name_le (h.of k4))
      split
      · exact k3.trans (ih.post _ _ _ (h.of k3))
      · split
        · exact k5.trans (ih.post _ _ _ (h.of k5))
        · exact RS.le.refl h
    · unfold basicR
      have k1 := tk s h kLb
      have k2 := tk s h kLp
      have k3 := k2.trans (ih.expr (d + 1) _ (h.of k2))
      split
      · exact RS.le.refl h
      · split
        · exact next_le h (by omega)
        · split
          · exact next_le h (by omega)
          · split
            · exact next_le h (by omega)
            · split
              · exact tk s h _
              · split
                · exact tk s h _
                · split
                  · exact k1.trans (ih.fields _ _ _ _ _ (h.of k1))
                  · split
                    · exact k2
                    · exact k3.trans (ih.as_ _ _ _ (h.of k3))
    · rw [asR]
      have k1 := tk q.2 h kColon
      have k2 := k1.trans (ty (d + 1) _ (h.of k1))
      split
      · exact k2.trans (tk _ (h.of k2) kRp)
      · exact tk q.2 h kRp
    · unfold efieldsR
      split
      · have k0 := (name_le h).trans (tk _ (h.of (name_le h)) kEq)
        split
        · exact k0
        · rename_i hb
          have hb : (takeR (nameR s).2 kEq).bad = false := by simpa using hb
          split
          · have k1 := twice_le h kEq hb
            have k2 := k1.trans (ih.expr (d + 1) _ (h.of k1))
            have k3 := k2.trans (comma_le (h.of k2))
            exact k3.trans (ih.fields _ _ _ _ _ (h.of k3))
          · have k2 := k0.trans (ih.expr (d + 1) _ (h.of k0))
            have k3 := k2.trans (comma_le (h.of k2))
            exact k3.trans (ih.fields _ _ _ _ _ (h.of k3))
      · exact tk s h _

end Go.Ag
