/- Each operation of the machine does what its abstract operation says. -/
import Derived.Test.YtljfbnbmcemdcaaGreatDoorAgComp
import Derived.Laws.Entries
import Derived.Laws.OwnMore
import Derived.Laws.Strings
namespace Go.Ag
open Go
open Go.RowKit (Below)

variable {L : Lnk} {g g' : Ghost} {w w' : World} {H : Heap} {T : Tab}

structure RepT (L : Lnk) (g : Ghost) (n : Nat) (tmps : Array Value) (e : Env) : Prop where
  size : tmps.size = n
  rep : ∀ i, Rep L g (tmps.getD i undef) (e i)

theorem RepT.mono {n : Nat} {tmps : Array Value} {e : Env} (h : RepT L g n tmps e) (hg : g.le g') : RepT L g' n tmps e := ⟨h.size, fun i => (h.rep i).mono hg⟩

theorem str_eq (s : ByteArray) : (⟨s.data.toList.toArray⟩ : ByteArray) = s := by cases s; simp

theorem cScal_rep {v : Value} {x : AVal} (h : cScal v = some x) : Rep L g v x := by
  unfold cScal at h
  split at h <;> cases h
  · exact .bool _
  · exact .int _ _
  · rename_i s
    have := Rep.str (L := L) (g := g) s.data.toList
    rwa [str_eq] at this
  · exact .nilptr
  · have := Rep.lst (L := L) (g := g) none 0 0 0 0 [] [] .nil (fun h => absurd rfl h) (fun j v h => by simp at h) (fun x h => by simp at h) (Nat.le_refl _) ⟨rfl, rfl⟩ .nil
    exact this
  · exact .nilmap
  · exact .nilfn
  · exact .niliface
theorem cScals_rep {vs : List Value} {xs : List AVal} (h : cScals vs = some xs) : RepL L g vs xs := by
  induction vs generalizing xs with
  | nil => cases h; exact .nil
  | cons v vs ih =>
    simp only [cScals] at h
    cases h1 : cScal v with
    | none => rw [h1] at h; cases h
    | some x => cases h2 : cScals vs with
      | none => rw [h1, h2] at h; cases h
      | some xs' => rw [h1, h2] at h; cases h; exact .cons _ _ _ _ (cScal_rep h1) (ih h2)
theorem cVal_rep {v : Value} {x : AVal} (h : cVal v = some x) : Rep L g v x := by
  unfold cVal at h
  split at h
  · rename_i cs
    cases h1 : cScals cs.toList with
    | none => rw [h1] at h; cases h
    | some xs => rw [h1] at h; cases h; have := Rep.agg cs.toList xs (cScals_rep (L := L) (g := g) h1); simpa using this
  · exact cScal_rep h

theorem Tab.fn_callable {T : Tab} {f k : Nat} (h : T.fn f = some k) : f = T.L.num k ∧ T.L.callable k := by
  unfold Tab.fn at h
  split at h
  · rename_i hn
    split at h
    · rename_i fn hf
      split at h
      · rename_i hb
        cases h
        simp only [Bool.and_eq_true, Bool.not_eq_true'] at hb
        exact ⟨hn.symm, fn, by rw [hn]; exact hf, hb.1, hb.2⟩
      · cases h
    · cases h
  · cases h

theorem cX_rep {a : Act} {n : Nat} {e : Env} {x : Operand} {ax : AX} (h : cX T x = some ax) (hr : RepT T.L g n a.tmps e) : Rep T.L g (a.eval x) (ev e ax) := by
  cases x with
  | tmp t => cases h; exact hr.rep t
  | const v =>
    simp only [cX] at h
    cases h1 : cVal v with
    | none => rw [h1] at h; cases h
    | some y => rw [h1] at h; cases h; exact cVal_rep h1
  | global => cases h
  | func f =>
    simp only [cX] at h
    cases h1 : T.fn f with
    | none => rw [h1] at h; cases h
    | some k =>
      rw [h1] at h; cases h
      exact .fn (.func f) (.func k) [] [] [] [] (Tab.fn_callable h1) .nil .nil

theorem cXs_rep {a : Act} {n : Nat} {e : Env} {xs : List Operand} {axs : List AX} (h : cXs T xs = some axs) (hr : RepT T.L g n a.tmps e) : RepL T.L g (xs.map a.eval) (axs.map (ev e)) := by
  induction xs generalizing axs with
  | nil => cases h; exact .nil
  | cons x xs ih =>
    simp only [cXs] at h
    cases h1 : cX T x with
    | none => rw [h1] at h; cases h
    | some y => cases h2 : cXs T xs with
      | none => rw [h1, h2] at h; cases h
      | some ys => rw [h1, h2] at h; cases h; exact .cons _ _ _ _ (cX_rep h1 hr) (ih h2)

/-- What an operation comes to is as the abstract one says. -/
def Good (L : Lnk) (g : Ghost) (K KP : AVal → Heap → Prop) : Result Next → Prop
  | .ok (.value v) w' => ∃ x H' g', K x H' ∧ g.le g' ∧ St L g' w' H' ∧ Rep L g' v x
  | .ok .skip w' => ∃ H' g', K .undef H' ∧ g.le g' ∧ St L g' w' H'
  | .ok (.enter f args) w' => Calls L.P f args w' fun e w'' => match e with
    | .returned v => ∃ x H' g', K x H' ∧ g.le g' ∧ St L g' w'' H' ∧ Rep L g' v x
    | .panicked chain => ∃ v x H' g', chain = [⟨v, false, false⟩] ∧ KP x H' ∧ g.le g' ∧ St L g' w'' H' ∧ Rep L g' v x
    | .outgrown => False
  | .halt (.panic v) w' => ∃ x H' g', KP x H' ∧ g.le g' ∧ St L g' w' H' ∧ Rep L g' v x
  | _ => False

theorem good_value {K KP : AVal → Heap → Prop} {v : Value} {x : AVal} (hs : St L g w H) (hr : Rep L g v x) (h : K x H) : Good L g K KP (.ok (.value v) w) :=
  ⟨x, H, g, h, Ghost.le.refl g, hs, hr⟩

/-! inversion -/
theorem rep_bool {v : Value} {b : Bool} (h : Rep L g v (.bool b)) : v = .bool b := by cases h; rfl
theorem rep_int {v : Value} {k : IntKind} {n : Int} (h : Rep L g v (.int k n)) : v = .int k n := by cases h; rfl
theorem rep_str {v : Value} {s : List UInt8} (h : Rep L g v (.str s)) : v = .string ⟨s.toArray⟩ := by cases h; rfl

theorem toList_of (s : List UInt8) : (⟨s.toArray⟩ : ByteArray).toList = s := by
  rw [Go.ByteArray.toList_eq]

theorem bytesLess_eq (a b : List UInt8) : Op.bytesLess a b = bytesLess a b := by
  induction a generalizing b with
  | nil => cases b <;> rfl
  | cons x a ih => cases b with
    | nil => rfl
    | cons y b => simp only [Op.bytesLess, bytesLess, ih]

theorem good_run {K KP : AVal → Heap → Prop} {m : Sem Value} {v : Value} (h : m.run L.P w = .ok v w') (hg : Good L g K KP (.ok (.value v) w')) :
    Good L g K KP ((do pure (Next.value (← m)) : Sem Next).run L.P w) := by
  rw [Sem.run_bind, h]; exact hg
theorem good_unit {K KP : AVal → Heap → Prop} {m : Sem Unit} (h : m.run L.P w = .ok () w') (hg : Good L g K KP (.ok .skip w')) :
    Good L g K KP ((do m; pure Next.skip : Sem Next).run L.P w) := by
  rw [Sem.run_bind, h]; exact hg

theorem evInt_sound {P : Program} {op : BinOp} {k : IntKind} {a b : Int} {r : AVal} (t : TypeId) (h : evInt op k a b = some r) :
    ∃ z, (Go.binOp op t (.int k a) (.int k b)).run P w = .ok z w ∧ Rep L g z r := by
  cases op <;> simp only [evInt] at h <;> first
    | (cases h; done)
    | (simp only [Option.some.injEq] at h; subst h; exact ⟨_, by simp [Go.binOp, Op.intArith, Op.intBits, Op.intCmp]; rfl, by constructor⟩)
    | (simp only [Option.some.injEq] at h; subst h; exact ⟨_, by simp only [Go.binOp, Op.intBits, ne_eq, not_true, if_false]; rfl, by constructor⟩)
    | (split at h <;> first | (cases h; done) | (simp only [Option.some.injEq] at h; subst h; rename_i hb; exact ⟨_, by simp [Go.binOp, Op.intDiv, hb]; rfl, by constructor⟩))

theorem evStr_sound {P : Program} {op : BinOp} {a b : List UInt8} {r : AVal} (t : TypeId) (h : evStr op a b = some r) :
    ∃ z, (Go.binOp op t (.string ⟨a.toArray⟩) (.string ⟨b.toArray⟩)).run P w = .ok z w ∧ Rep L g z r := by
  have e : ∀ op', op' ≠ .shl → op' ≠ .shr → Go.binOp op' t (.string ⟨a.toArray⟩) (.string ⟨b.toArray⟩) = Op.stringOp op' ⟨a.toArray⟩ ⟨b.toArray⟩ := by
    intro op' _ _; cases op' <;> rfl
  cases op <;> simp only [evStr] at h <;> first
    | (cases h; done)
    | (simp only [Option.some.injEq] at h; subst h; exact ⟨_, by rw [e _ (by decide) (by decide)]; simp only [Op.stringOp, toList_of, bytesLess_eq]; rfl, by constructor⟩)
    | skip
  split at h
  · rename_i hl
    cases h
    refine ⟨.string ⟨(a ++ b).toArray⟩, ?_, .str _⟩
    rw [e _ (by decide) (by decide)]
    simp only [Op.stringOp]
    have h1 : (⟨a.toArray⟩ : ByteArray).size = a.length := by simp [ByteArray.size]
    have h2 : (⟨b.toArray⟩ : ByteArray).size = b.length := by simp [ByteArray.size]
    rw [if_neg (by rw [h1, h2, IntKind.max_i64]; unfold maxStr at hl; omega)]
    have h3 : (⟨a.toArray⟩ : ByteArray) ++ (⟨b.toArray⟩ : ByteArray) = ⟨(a ++ b).toArray⟩ := by
      apply ByteArray.ext
      simp
    rw [h3]; rfl
  · cases h

theorem evBin_sound {P : Program} {op : BinOp} {u v : Value} {a b r : AVal} (t : TypeId) (x y : Operand) (h : evBin op a b = some r) (h1 : Rep L g u a) (h2 : Rep L g v b) :
    ∃ z, (do eqGuard op t x y u v; Go.binOp op t u v : Sem Value).run P w = .ok z w ∧ Rep L g z r := by
  unfold evBin at h
  split at h
  · cases rep_int h1; cases rep_int h2
    split at h
    · cases h
    · rename_i hb
      cases h
      exact ⟨_, by simp [eqGuard, Go.binOp, Op.shift, hb], .int _ _⟩
  · cases rep_int h1; cases rep_int h2
    split at h
    · cases h
    · rename_i hb
      cases h
      exact ⟨_, by simp [eqGuard, Go.binOp, Op.shift, hb], .int _ _⟩
  · cases rep_int h1; cases rep_int h2
    split at h
    · rename_i hk
      subst hk
      obtain ⟨z, hz, hr⟩ := evInt_sound (P := P) (L := L) (g := g) (w := w) t h
      exact ⟨z, by rw [eqGuard_at_int]; simpa using hz, hr⟩
    · cases h
  · cases rep_str h1; cases rep_str h2
    obtain ⟨z, hz, hr⟩ := evStr_sound (P := P) (L := L) (g := g) (w := w) t h
    exact ⟨z, by rw [eqGuard_at_string]; simpa using hz, hr⟩
  · cases h

theorem evUn_sound {P : Program} {op : UnOp} {u : Value} {a r : AVal} (h : evUn op a = some r) (h1 : Rep L g u a) :
    ∃ z, (Op.unary op u).run P w = .ok z w ∧ Rep L g z r := by
  unfold evUn at h
  split at h
  · cases rep_bool h1; cases h; exact ⟨_, rfl, .bool _⟩
  · cases rep_int h1; cases h; exact ⟨_, by simp [Op.unary, Op.intArith], .int _ _⟩
  · cases h

end Go.Ag
