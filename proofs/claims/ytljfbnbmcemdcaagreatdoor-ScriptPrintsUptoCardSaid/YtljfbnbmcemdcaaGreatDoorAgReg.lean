/- Abstract code tells what the machine's code does. -/
import Derived.Test.YtljfbnbmcemdcaaGreatDoorAgOp
import Derived.Lib.UnsafeStr
set_option linter.unusedVariables false
namespace Go.Ag
open Go
open Go.RowKit (Below)

variable {T : Tab} {g : Ghost} {w : World} {H : Heap} {K KP : AVal → Heap → Prop} {e : Env} {a : Act} {n : Nat}

theorem toList_two {α : Type} {xs : Array α} {a b : α} (h : xs.toList = [a, b]) : xs = #[a, b] := by apply Array.ext'; exact h
theorem toList_one {α : Type} {xs : Array α} {a : α} (h : xs.toList = [a]) : xs = #[a] := by apply Array.ext'; exact h

theorem s_len {o : Oper} {q : AOp} {args : Array Operand} {ats : Array TypeId} (hop : o.op = .call { callee := .builtin .len, args := args, argTypes := ats }) (hq : cOp T o = some q) (hs : St T.L g w H) (hr : RepT T.L g n a.tmps e) (h : stepOp T.L q e H K KP) :
    Good T.L g K KP ((execOp a.eval o).run T.L.P w) := by
  simp only [cOp, hop] at hq
  simp only [execOp, hop]
  split at hq
  · rename_i t x e1 e2
    have h1 := toList_one e1
    have h2 := toList_one e2
    subst h1; subst h2
    cases hu : T.L.P.underlying t with
    | none => simp only [hu] at hq; cases hq
    | some d =>
      cases hx : cX T x with
      | none => cases d <;> simp only [hu, hx] at hq <;> cases hq
      | some ax =>
        have hrx := cX_rep hx hr
        have key : (∃ m, (Builtin.len_ #[t] o.type #[a.eval x]).run T.L.P w = .ok (.int .i64 m) w ∧ K (.int .i64 m) H) → Good T.L g K KP ((do let d ← resolve a.eval { callee := .builtin .len, args := #[x], argTypes := #[t] } o.type; invoke d.target d.args : Sem Next).run T.L.P w) := by
          rintro ⟨m, hm, hK⟩
          have : ((do let d ← resolve a.eval { callee := .builtin .len, args := #[x], argTypes := #[t] } o.type; invoke d.target d.args : Sem Next).run T.L.P w) = .ok (.value (.int .i64 m)) w := by
            simp [resolve, invoke, builtin, hm]
          rw [this]
          exact good_value hs (.int _ _) hK
        cases d <;> simp only [hu, hx] at hq <;> cases hq <;> simp only [stepOp] at h <;> apply key
        · cases hb : ev e ax <;> simp only [hb] at h
          rename_i s
          rw [hb] at hrx
          refine ⟨_, ?_, h⟩
          have hsz : (⟨s.toArray⟩ : ByteArray).size = s.length := by simp [ByteArray.size]
          rw [rep_str hrx, ← hsz]
          unfold Builtin.len_
          simp [run_underlying hu, goInt]
        · cases hb : ev e ax <;> simp only [hb] at h <;> rw [hb] at hrx <;> generalize a.eval x = v at hrx ⊢ <;> cases hrx <;> refine ⟨_, ?_, h⟩ <;> unfold Builtin.len_ <;> simp [run_underlying hu, goInt]
  · cases hq

theorem s_append {o : Oper} {q : AOp} {args : Array Operand} {ats : Array TypeId} (hop : o.op = .call { callee := .builtin .append, args := args, argTypes := ats }) (hq : cOp T o = some q) (hs : St T.L g w H) (hr : RepT T.L g n a.tmps e) (h : stepOp T.L q e H K KP) :
    Good T.L g K KP ((execOp a.eval o).run T.L.P w) := by
  simp only [cOp, hop] at hq
  simp only [execOp, hop]
  split at hq
  · rename_i t u s x e1 e2
    have h1 := toList_two e1
    have h2 := toList_two e2
    subst h1; subst h2
    cases hsx : cX T s with
    | none => simp only [hsx] at hq; cases hq
    | some as =>
      cases hx : cX T x with
      | none => simp only [hsx, hx] at hq; cases hq
      | some ax =>
        simp only [hsx, hx] at hq
        have hrs := cX_rep hsx hr
        have hrx := cX_rep hx hr
        have fin : (∃ z' w' x' H' g', (Builtin.append_ #[t, u] o.type #[a.eval s, a.eval x]).run T.L.P w = .ok z' w' ∧ K x' H' ∧ g.le g' ∧ St T.L g' w' H' ∧ Rep T.L g' z' x') →
            Good T.L g K KP ((do let d ← resolve a.eval { callee := .builtin .append, args := #[s, x], argTypes := #[t, u] } o.type; invoke d.target d.args : Sem Next).run T.L.P w) := by
          rintro ⟨z', w', x', H', g', r1, r2, r3, r4, r5⟩
          have : ((do let d ← resolve a.eval { callee := .builtin .append, args := #[s, x], argTypes := #[t, u] } o.type; invoke d.target d.args : Sem Next).run T.L.P w) = .ok (.value z') w' := by
            simp [resolve, invoke, builtin, r1]
          rw [this]
          exact ⟨x', H', g', r2, r3, r4, r5⟩
        apply fin
        split at hq
        · rename_i htu
          subst htu
          unfold cAppend at hq
          cases hu : T.L.P.underlying t with
          | none => simp only [hu] at hq; cases hq
          | some d =>
            cases d <;> simp only [hu] at hq <;> try (cases hq; done)
            rename_i el
            cases hi : T.L.P.info? el <;> cases htt : T.ty el <;> simp only [hi, htt] at hq <;> try (cases hq; done)
            rename_i i tt
            cases hz : i.zero with
            | none => simp only [hz] at hq; cases hq
            | some z =>
              simp only [hz] at hq
              split at hq
              · rename_i hc
                cases hq
                simp only [stepOp] at h
                unfold appK at h
                cases hb : ev e as <;> simp only [hb] at h
                rename_i xs tk
                cases hb2 : ev e ax <;> simp only [hb2] at h
                rename_i ys tk'
                rw [hb] at hrs
                rw [hb2] at hrx
                obtain ⟨k1, k2, k3, k4, k5⟩ := h
                exact append_sound hs (ty := o.type) hu hi hz hc.1 hc.2.1 (Tab.ty_eq htt) hrs hrx k1 k2 k3 k4 k5
              · cases hq
        · unfold cAppendS at hq
          cases hu : T.L.P.underlying t with
          | none => simp only [hu] at hq; cases hq
          | some d =>
            cases huu : T.L.P.underlying u with
            | none => cases d <;> simp only [hu, huu] at hq <;> cases hq
            | some d' =>
              cases d <;> cases d' <;> simp only [hu, huu] at hq <;> try (cases hq; done)
              rename_i el
              cases hi : T.L.P.info? el <;> cases htt : T.ty el <;> simp only [hi, htt] at hq <;> try (cases hq; done)
              rename_i i tt
              cases hz : i.zero with
              | none => simp only [hz] at hq; cases hq
              | some z =>
                simp only [hz] at hq
                split at hq
                · rename_i hc
                  cases hq
                  simp only [stepOp] at h
                  unfold appSK at h
                  cases hb : ev e as <;> simp only [hb] at h
                  rename_i xs tk
                  cases hb2 : ev e ax <;> simp only [hb2] at h
                  rename_i y
                  rw [hb] at hrs
                  rw [hb2] at hrx
                  obtain ⟨k1, k3, k4, k5⟩ := h
                  exact appendS_sound hs (ty := o.type) hu huu hi hz hc.1 hc.2.1 (Tab.ty_eq htt) hrs hrx k1 k3 k4 k5
                · cases hq
  · cases hq

theorem s_ssd {o : Oper} {q : AOp} {args : Array Operand} {ats : Array TypeId} (hop : o.op = .call { callee := .builtin .unsafeSliceData, args := args, argTypes := ats }) (hq : cOp T o = some q) (hs : St T.L g w H) (hr : RepT T.L g n a.tmps e) (h : stepOp T.L q e H K KP) :
    Good T.L g K KP ((execOp a.eval o).run T.L.P w) := by
  simp only [cOp, hop] at hq
  simp only [execOp, hop]
  split at hq
  · rename_i x e1
    have h1 := toList_one e1
    subst h1
    obtain ⟨ax, hx, rfl⟩ := map_some hq
    have hrx := cX_rep hx hr
    simp only [stepOp] at h
    cases hb : ev e ax <;> simp only [hb] at h
    rename_i xs tk
    rw [hb] at hrx
    obtain ⟨ad, c, k, b, off, vs, hv, ha, hf, hk, hc, ht, hrep⟩ := lst_inv hrx
    obtain ⟨hne, hK⟩ := h
    have hrun : (Builtin.unsafeSliceData_ ats o.type #[a.eval x]).run T.L.P w = .ok (.pointer ad) w := by
      rw [hv]
      cases ad with
      | none => rfl
      | some ad =>
        have hc0 : c ≠ 0 := by
          rcases hne with hne | rfl
          · intro e0
            have : xs.length = 0 := by omega
            exact hne (List.eq_nil_of_length_eq_zero this)
          · obtain ⟨e0, _⟩ := ht; cases e0
        exact Lib.run_unsafeSliceData_row _ _ _ _ _ _ hc0
    have : ((do let d ← resolve a.eval { callee := .builtin .unsafeSliceData, args := #[x], argTypes := ats } o.type; invoke d.target d.args : Sem Next).run T.L.P w) = .ok (.value (.pointer ad)) w := by
      simp [resolve, invoke, builtin, hrun]
    rw [this]
    exact good_value hs (.dptr ad c k b off xs vs tk ha hf hk hc ht hrep) hK
  · cases hq

theorem freeze_other (w : World) (a : Addr) (m b : Nat) (h : b ≠ a.block) : (w.freeze a m).heap[b]? = w.heap[b]? := by
  unfold World.freeze
  split
  · rfl
  · simp [Array.getElem?_modify, Ne.symm h]
theorem freeze_size (w : World) (a : Addr) (m : Nat) : (w.freeze a m).heap.size = w.heap.size := by
  unfold World.freeze
  split
  · rfl
  · simp
theorem freeze_cell (w : World) (a : Addr) (m : Nat) (c : Addr) : (w.freeze a m).cell? c = w.cell? c := by
  by_cases hb : c.block = a.block
  · unfold World.freeze
    split
    · rfl
    · simp only [World.cell?, Array.getElem?_modify, hb, if_true]
      cases ho : w.heap[a.block]? with
      | none => rfl
      | some o => cases o <;> rfl
  · simp only [World.cell?, freeze_other w a m c.block hb]

/-- A row whose bytes are frozen for a string: nobody may append to it. -/
theorem St.gone {H : Heap} {id k t : Nat} {s : Spot} (h : St T.L g w H) (hid : H[id]? = some (.tail k t)) (hs : g.ob id k = some s) (m : Nat) : St T.L g (w.freeze ⟨s.b, 0, none⟩ m) (H.set id .gone) := by
  have hlt : id < H.length := by
    rcases Nat.lt_or_ge id H.length with h' | h'
    · exact h'
    · rw [List.getElem?_eq_none h'] at hid; cases hid
  have hget : ∀ (i : Nat) (o : AObj), (H.set id .gone)[i]? = some o → (i ≠ id ∧ H[i]? = some o) ∨ (i = id ∧ o = .gone) := by
    intro i o hi
    by_cases hii : i = id
    · subst hii; simp [hlt] at hi; exact .inr ⟨rfl, hi.symm⟩
    · rw [List.getElem?_set_ne (Ne.symm hii)] at hi; exact .inl ⟨hii, hi⟩
  obtain ⟨s0, vs0, e1, _, _, _, _, _, e6⟩ := h.obj id _ hid
  rw [hs] at e1
  cases e1
  refine ⟨fun b o v hv => (freeze_cell w _ m _).trans (h.fz b o v hv), fun i o ho => ?_, fun i v hi => h.new i v (by simpa using hi), fun i v s' hs' => by rw [freeze_size]; exact h.bnd i v s' hs', fun i j o o' s1 s2 hi hj ha ha' f1 f2 hb => ?_, ?_, h.bs, h.fact, fun b o hk => (freeze_other w _ m _ (h.kp_ne e6 hk)).trans (h.kp b o hk)⟩
  · rcases hget i o ho with ⟨hii, ho⟩ | ⟨_, rfl⟩
    · refine (h.obj i o ho).keep (Ghost.le.refl g) (fun _ => rfl) fun ha s' hs' => ⟨freeze_other w _ m _ fun e => hii ?_, fun _ => rfl⟩
      exact h.inj i id o _ s' s ho hid ha rfl hs' hs e
    · trivial
  · rcases hget i o hi with ⟨_, hi⟩ | ⟨_, rfl⟩
    · rcases hget j o' hj with ⟨_, hj⟩ | ⟨_, rfl⟩
      · exact h.inj i j o o' s1 s2 hi hj ha ha' f1 f2 hb
      · cases ha'
    · cases ha
  · refine h.below.trans ⟨?_, ?_, ?_, by rw [freeze_size]; omega, fun b hb => freeze_other w _ m b ?_⟩
    · unfold World.freeze; split <;> rfl
    · unfold World.freeze; split <;> rfl
    · unfold World.freeze; split <;> rfl
    · have : g.base ≤ s.b := e6.1
      have : b < g.base := hb
      show b ≠ s.b
      omega

theorem s_ustr {o : Oper} {q : AOp} {args : Array Operand} {ats : Array TypeId} (hop : o.op = .call { callee := .builtin .unsafeString, args := args, argTypes := ats }) (hq : cOp T o = some q) (hs : St T.L g w H) (hr : RepT T.L g n a.tmps e) (h : stepOp T.L q e H K KP) :
    Good T.L g K KP ((execOp a.eval o).run T.L.P w) := by
  simp only [cOp, hop] at hq
  simp only [execOp, hop]
  split at hq
  · rename_i pt it p m e1 e2
    have h1 := toList_two e1
    have h2 := toList_two e2
    subst h1; subst h2
    cases hu : T.L.P.underlying pt with
    | none => simp only [hu] at hq; cases hq
    | some d =>
      cases hp : cX T p with
      | none => cases d <;> simp only [hu, hp] at hq <;> cases hq
      | some ap =>
        cases hm : cX T m with
        | none => cases d <;> simp only [hu, hp, hm] at hq <;> cases hq
        | some am =>
          cases d <;> simp only [hu, hp, hm] at hq <;> try (cases hq; done)
          rename_i el
          split at hq
          · rename_i hcells
            obtain ⟨te, hte, rfl⟩ := map_some hq
            have hrp := cX_rep hp hr
            have hrm := cX_rep hm hr
            simp only [stepOp] at h
            cases hb1 : ev e ap <;> cases hb2 : ev e am <;> simp only [hb1, hb2] at h
            rename_i xs tk kk mm
            cases kk <;> simp only at h
            obtain ⟨rfl, hbig, h⟩ := h
            cases hby : bytesA xs <;> simp only [hby] at h
            rename_i s
            rw [hb1] at hrp
            rw [hb2] at hrm
            have hmv := rep_int hrm
            generalize hpv : a.eval p = pv at hrp
            cases hrp with
            | dptr ad c k b off _ vs _ ha hf hk hc ht hrep =>
              have fin : ∀ s' w', (Builtin.unsafeString_ #[pt, it] o.type #[.pointer ad, .int .i64 xs.length]).run T.L.P w = .ok (.string s') w' →
                  Good T.L g K KP (.ok (.value (.string s')) w') → Good T.L g K KP ((do let d ← resolve a.eval { callee := .builtin .unsafeString, args := #[p, m], argTypes := #[pt, it] } o.type; invoke d.target d.args : Sem Next).run T.L.P w) := by
                intro s' w' hrun hg
                have : ((do let d ← resolve a.eval { callee := .builtin .unsafeString, args := #[p, m], argTypes := #[pt, it] } o.type; invoke d.target d.args : Sem Next).run T.L.P w) = .ok (.value (.string s')) w' := by
                  simp [resolve, invoke, builtin, hpv, hmv, hrun]
                rw [this]; exact hg
              cases tk with
              | full => exact h.elim
              | none => exact h.elim
              | nil =>
                obtain ⟨rfl, rfl⟩ := ht
                have hx0 : xs = [] := List.eq_nil_of_length_eq_zero (by omega)
                subst hx0
                exact fin _ _ (Lib.run_unsafeString_none w pt it o.type none) (good_value hs (.str _) h)
              | tail id =>
                dsimp only at h
                cases hH : H[id]? with
                | none => rw [hH] at h; exact h.elim
                | some ob =>
                  cases ob <;> simp only [hH] at h
                  rename_i kk tt
                  obtain ⟨⟨rfl, rfl, hne⟩, hK⟩ := h
                  obtain ⟨sp, hs1, hs2, hs3, hs4, hs5, hs6⟩ := ht
                  obtain ⟨s0, cur, f1, f0, f2, f3, f4, f5, f6⟩ := hs.obj id _ hH
                  rw [hs1] at f1
                  cases f1
                  have hab := ha hne
                  rw [hs2, f0] at hab
                  cases hab
                  have hxs := bytesA_eq xs s hby
                  subst hxs
                  have hvs := byteL_inv hrep
                  have hln : (byteL s).length = s.length := by simp [byteL]
                  have hsl : s ≠ [] := fun e0 => by subst e0; exact hne rfl
                  have hk1 : k = 1 := by
                    cases s with
                    | nil => exact absurd rfl hsl
                    | cons x s => exact (hk (.int .u8 x.toNat) (by simp [byteL])).symm
                  have hsh : w.shape? sp.b = some (el, cur.size) := by
                    have : T.L.ty tt = el := Tab.ty_eq hte
                    simp [World.shape?, f3, this]
                  have hfit : s.length ≤ cur.size := by
                    rw [f4]
                    have h5 : sp.s + c * k ≤ sp.z := hs4
                    rw [hk1] at h5
                    omega
                  have hrun := Lib.run_unsafeString_row w pt it o.type el hu hcells sp.b cur.size hsh s hsl hfit (by omega) (fun j x hj => by
                    rw [addr_add]
                    refine hs.fz _ _ _ (hf j _ ?_)
                    rw [hvs]
                    simp [hj])
                  rw [← hln] at hrun
                  rw [hs2, f0] at fin
                  refine fin _ _ hrun ?_
                  exact ⟨.str s, _, g, hK, Ghost.le.refl g, hs.gone hH hs1 _, .str _⟩
          · cases hq
  · cases hq

theorem s_callf {o : Oper} {q : AOp} {f : FuncId} {args : Array Operand} {ats : Array TypeId} (hop : o.op = .call { callee := .value (.func f), args := args, argTypes := ats }) (hq : cOp T o = some q) (hs : St T.L g w H) (hr : RepT T.L g n a.tmps e) (h : stepOp T.L q e H K KP) :
    Good T.L g K KP ((execOp a.eval o).run T.L.P w) := by
  simp only [cOp, hop] at hq
  simp only [execOp, hop]
  cases hf : T.fn f with
  | none => simp only [hf] at hq; cases hq
  | some k =>
    cases h1 : cXs T args.toList with
    | none => simp only [hf, h1] at hq; cases hq
    | some as =>
      simp only [hf, h1] at hq
      cases hq
      obtain ⟨hk, hc⟩ := Tab.fn_callable hf
      have := good_call (KP := KP) hs hc h (cXs_rep h1 hr)
      have e1 : ((do let d ← resolve a.eval { callee := .value (.func f), args := args, argTypes := ats } o.type; invoke d.target d.args : Sem Next).run T.L.P w) = (callFunc (T.L.num k) (args.toList.map a.eval).toArray).run T.L.P w := by
        rw [← hk]
        have e2 : (args.toList.map a.eval).toArray = args.map a.eval := by rw [← Array.toList_map]
        rw [e2]
        simp [resolve, invoke, Deferred.ofValue, Act.eval]
      rw [e1]
      exact this

theorem s_callv {o : Oper} {q : AOp} {t : Tmp} {args : Array Operand} {ats : Array TypeId} (hop : o.op = .call { callee := .value (.tmp t), args := args, argTypes := ats }) (hq : cOp T o = some q) (hs : St T.L g w H) (hr : RepT T.L g n a.tmps e) (h : stepOp T.L q e H K KP) :
    Good T.L g K KP ((execOp a.eval o).run T.L.P w) := by
  simp only [cOp, hop] at hq
  simp only [execOp, hop]
  obtain ⟨as, h1, rfl⟩ := map_some hq
  have hrf : Rep T.L g (a.eval (.tmp t)) (e t) := hr.rep t
  simp only [stepOp, ev] at h
  cases hb : e t <;> simp only [hb] at h
  rename_i af fi ca
  cases af <;> simp only at h
  rename_i k
  rw [hb] at hrf
  generalize hv : a.eval (.tmp t) = v at hrf
  cases hrf with
  | fn f _ vfi vca _ _ hfr hr1 hr2 =>
    cases f <;> simp only [FnRep] at hfr
    obtain ⟨rfl, hc⟩ := hfr
    have hargs := (hr1.append (cXs_rep h1 hr)).append hr2
    have := good_call (KP := KP) hs hc h hargs
    have e1 : ((do let d ← resolve a.eval { callee := .value (.tmp t), args := args, argTypes := ats } o.type; invoke d.target d.args : Sem Next).run T.L.P w) = (callFunc (T.L.num k) (vfi ++ args.toList.map a.eval ++ vca).toArray).run T.L.P w := by
      have e2 : (vfi ++ args.toList.map a.eval ++ vca).toArray = vfi.toArray ++ args.map a.eval ++ vca.toArray := by
        apply Array.ext'; simp
      rw [e2]
      simp [resolve, invoke, Deferred.ofValue, hv]
    rw [e1]
    exact this

theorem s_panic {o : Oper} {q : AOp} {x : Operand} (hop : o.op = .panic x) (hq : cOp T o = some q) (hs : St T.L g w H) (hr : RepT T.L g n a.tmps e) (h : stepOp T.L q e H K KP) :
    Good T.L g K KP ((execOp a.eval o).run T.L.P w) := by
  simp only [cOp, hop] at hq
  obtain ⟨ax, h1, rfl⟩ := map_some hq
  simp only [execOp, hop]
  have hrx := cX_rep h1 hr
  simp only [stepOp] at h
  cases hb : ev e ax <;> simp only [hb] at h
  rename_i tt yy
  rw [hb] at hrx
  generalize hv : a.eval x = v at hrx ⊢
  cases hrx with
  | iface t u y hy =>
    have : ((do pure (Next.value (← Instr.panic (.iface (T.L.ty tt) u))) : Sem Next).run T.L.P w) = .halt (.panic (.iface (T.L.ty tt) u)) w := by
      simp [Instr.panic]
    rw [this]
    exact ⟨_, H, g, h, Ghost.le.refl g, hs, .iface _ _ _ hy⟩

theorem op_sound {o : Oper} {q : AOp} (hq : cOp T o = some q) (hs : St T.L g w H) (hr : RepT T.L g n a.tmps e) (h : stepOp T.L q e H K KP) : Good T.L g K KP ((execOp a.eval o).run T.L.P w) := by
  cases hop : o.op with
  | move => exact s_move hop hq hs hr h
  | assign => exact s_assign hop hq hs hr h
  | pick => exact s_pick hop hq hs hr h
  | alloc => exact s_alloc hop hq hs hr h
  | box => exact s_box hop hq hs hr h
  | build => exact s_build hop hq hs hr h
  | buildSlice => exact s_buildSlice hop hq hs hr h
  | load => exact s_load hop hq hs hr h
  | store => exact s_store hop hq hs hr h
  | nilCheck => exact s_nilCheck hop hq hs hr h
  | binOp => exact s_binOp hop hq hs hr h
  | unOp => exact s_unOp hop hq hs hr h
  | convert => exact s_convert hop hq hs hr h
  | makeInterface => exact s_makeInterface hop hq hs hr h
  | makeFunc => exact s_makeFunc hop hq hs hr h
  | slice => exact s_slice hop hq hs hr h
  | fieldAddr => exact s_fieldAddr hop hq hs hr h
  | field => exact s_field hop hq hs hr h
  | indexAddr => exact s_indexAddr hop hq hs hr h
  | makeSlice => exact s_makeSlice hop hq hs hr h
  | index => exact s_index hop hq hs hr h
  | extract => exact s_extract hop hq hs hr h
  | panic => exact s_panic hop hq hs hr h
  | call c =>
    obtain ⟨cal, args, ats⟩ := c
    cases cal with
    | value f => cases f with
      | tmp t => exact s_callv hop hq hs hr h
      | func f => exact s_callf hop hq hs hr h
      | const v => simp only [cOp, hop] at hq; cases hq
      | global v => simp only [cOp, hop] at hq; cases hq
    | invoke r m => simp only [cOp, hop] at hq; cases hq
    | builtin b => cases b with
      | len => exact s_len hop hq hs hr h
      | append => exact s_append hop hq hs hr h
      | unsafeSliceData => exact s_ssd hop hq hs hr h
      | unsafeString => exact s_ustr hop hq hs hr h
      | _ => simp only [cOp, hop] at hq; cases hq
  | _ => simp only [cOp, hop] at hq; cases hq

/-! ### regions -/
/-- What a frame's slots and the world stand for, at the ends of a piece of code. -/
def SOK (L : Lnk) (g : Ghost) (n : Nat) (K : Env → Heap → Prop) (a : Act) (w : World) : Prop :=
  a.defers = [] ∧ ∃ e H g', K e H ∧ g.le g' ∧ St L g' w H ∧ RepT L g' n a.tmps e

def QOK (L : Lnk) (g : Ghost) (n : Nat) (Q : AExit → Env → Heap → Prop) : Exit → Act → World → Prop
  | .normal, a, w => SOK L g n (Q .normal) a w
  | .exit i, a, w => SOK L g n (Q (.exit i)) a w
  | .ret, a, w => SOK L g n (Q .ret) a w
  | .panic chain, a, w => a.defers = [] ∧ ∃ v x e H g', chain = [⟨v, false, false⟩] ∧ Q (.pan x) e H ∧ g.le g' ∧ St L g' w H ∧ Rep L g' v x
  | _, _, _ => False

theorem RepT.put {g : Ghost} {tmps : Array Value} (h : RepT T.L g n tmps e) {d : Nat} (hd : d < n) {v : Value} {x : AVal} (hv : Rep T.L g v x) : RepT T.L g n (tmps.setIfInBounds d v) (upd e d x) := by
  refine ⟨by simp [h.size], fun i => ?_⟩
  simp only [upd]
  by_cases hi : i = d
  · subst hi
    rw [if_pos rfl]
    have : (tmps.setIfInBounds i v).getD i undef = v := by
      have hs := h.size
      simp [Array.getD, hs, hd]
    rw [this]; exact hv
  · rw [if_neg hi]
    have : (tmps.setIfInBounds d v).getD i undef = tmps.getD i undef := by
      simp only [Array.getD_eq_getD_getElem?]
      rw [Array.getElem?_setIfInBounds, if_neg (Ne.symm hi)]
    rw [this]; exact h.rep i

theorem RepT.putO {g : Ghost} {a : Act} (h : RepT T.L g n a.tmps e) {d : Option Nat} (hd : dstOK n d = true) {v : Value} {x : AVal} (hv : Rep T.L g v x) :
    RepT T.L g n (a.put d v).tmps (putA e d x) ∧ (a.put d v).defers = a.defers := by
  cases d with
  | none => exact ⟨h, rfl⟩
  | some d => exact ⟨h.put (by simpa [dstOK] using hd) hv, rfl⟩

theorem cOper_some {n : Nat} {ops : Array Oper} {o : Oper} {ao : AO} (h : cOper T n ops o = some ao) :
    cOp T o = some ao.op ∧ ao.dst = o.dst ∧ dstOK n o.dst = true ∧
      (match o.guard with | none => ao.guard = none | some (j, want) => ∃ oj t, ops[j]? = some oj ∧ oj.dst = some t ∧ ao.guard = some (t, want)) := by
  unfold cOper at h
  cases hq : cOp T o with
  | none => simp only [hq] at h; cases h
  | some q =>
    simp only [hq] at h
    split at h
    · rename_i hd
      cases hg : o.guard with
      | none => simp only [hg] at h; cases h; exact ⟨rfl, rfl, hd, rfl⟩
      | some p =>
        obtain ⟨j, want⟩ := p
        simp only [hg] at h
        cases hj : ops[j]? with
        | none => simp only [hj] at h; cases h
        | some oj =>
          simp only [hj] at h
          cases ht : oj.dst with
          | none => simp only [ht] at h; cases h
          | some t => simp only [ht] at h; cases h; exact ⟨rfl, rfl, hd, oj, t, hj, ht, rfl⟩
    · cases h

/-- One operation, as the region's rule asks for it. -/
theorem oper_sound {L : Lnk} {o : Oper} {a : Act} {w : World} {K KP : AVal → Heap → Prop} {next : Act → World → Prop} {Q : Exit → Act → World → Prop} (h : Good L g K KP ((execOp a.eval o).run L.P w))
    (hn : ∀ v x w' H' g', K x H' → g.le g' → St L g' w' H' → Rep L g' v x → next (a.put o.dst v) w')
    (hp : ∀ v x w' H' g', KP x H' → g.le g' → St L g' w' H' → Rep L g' v x → Q (.panic [⟨v, false, false⟩]) a w') : Oper.wp L.P o a w next Q := by
  unfold Oper.wp
  generalize (execOp a.eval o).run L.P w = r at h
  cases r with
  | ok x w' =>
    cases x <;> try exact h.elim
    · obtain ⟨x, H', g', k1, k2, k3, k4⟩ := h; exact hn _ x _ H' g' k1 k2 k3 k4
    · obtain ⟨H', g', k1, k2, k3⟩ := h; exact hn _ _ _ H' g' k1 k2 k3 (.undef _)
    · rw [Oper.upon_enter]
      refine Calls.mono h fun en w'' hh => ?_
      cases en with
      | returned v => obtain ⟨x, H', g', k1, k2, k3, k4⟩ := hh; exact hn _ x _ H' g' k1 k2 k3 k4
      | panicked chain => obtain ⟨v, x, H', g', rfl, k1, k2, k3, k4⟩ := hh; exact hp v x _ H' g' k1 k2 k3 k4
      | outgrown => exact hh.elim
  | halt x w' =>
    cases x <;> try exact h.elim
    obtain ⟨x, H', g', k1, k2, k3, k4⟩ := h; exact hp _ x _ H' g' k1 k2 k3 k4

theorem yielded_rep {ops : Array Oper} {j : Nat} {oj : Oper} {t : Nat} {b : Bool} {tmps : Array Value} {g : Ghost} {L : Lnk} (hj : ops[j]? = some oj) (ht : oj.dst = some t) (h : Rep L g (tmps.getD t undef) (.bool b)) : yielded ops tmps j = some b := by
  have hb := rep_bool h
  have h1 : tmps[t]? = some (.bool b) := by
    cases hx : tmps[t]? with
    | none =>
      have : tmps.getD t undef = undef := by simp [Array.getD_eq_getD_getElem?, hx]
      rw [this] at hb; cases hb
    | some v =>
      have : tmps.getD t undef = v := by simp [Array.getD_eq_getD_getElem?, hx]
      rw [this] at hb; rw [hb]
  unfold yielded
  simp [hj, ht, h1]

theorem rep_skip {L : Lnk} (g : Ghost) : Rep L g undef (.tup []) := .tup [] [] .nil
theorem yielded_none {ops : Array Oper} {j : Nat} {oj : Oper} {t : Nat} {tmps : Array Value} {g : Ghost} {L : Lnk} (hj : ops[j]? = some oj) (ht : oj.dst = some t) (h : Rep L g (tmps.getD t undef) (.tup [])) : yielded ops tmps j = none := by
  have hb : tmps.getD t undef = .tuple #[] := by
    generalize tmps.getD t undef = v at h
    cases h with
    | tup vs cs h => cases h; rfl
  unfold yielded
  cases hx : tmps[t]? with
  | none => simp [hj, ht, hx]
  | some v =>
    have : tmps.getD t undef = v := by simp [Array.getD_eq_getD_getElem?, hx]
    rw [this] at hb
    subst hb
    simp [hj, ht, hx]

theorem cOpers_at {n : Nat} {ops : Array Oper} : ∀ (os : List Oper) (as : List AO), cOpers T n ops os = some as → as.length = os.length ∧ ∀ (i : Nat) (o : Oper), os[i]? = some o → ∃ ao, as[i]? = some ao ∧ cOper T n ops o = some ao
  | [], as, h => by cases h; exact ⟨rfl, fun i o h => by simp at h⟩
  | o :: os, as, h => by
    simp only [cOpers] at h
    cases h1 : cOper T n ops o with
    | none => simp only [h1] at h; cases h
    | some ao =>
      cases h2 : cOpers T n ops os with
      | none => simp only [h1, h2] at h; cases h
      | some aos =>
        simp only [h1, h2] at h
        cases h
        obtain ⟨k1, k2⟩ := cOpers_at os aos h2
        refine ⟨by simp [k1], fun i o' ho => ?_⟩
        cases i with
        | zero => simp at ho; subst ho; exact ⟨ao, rfl, h1⟩
        | succ i => simpa using k2 i o' (by simpa using ho)

/-- One operation of a region, its guard looked at. -/
theorem op_step {n : Nat} {ops : Array Oper} {o : Oper} {ao : AO} {aos : List AO} {g0 : Ghost} {K : Env → Heap → Prop} {KP : AVal → Heap → Prop} {next : Act → World → Prop} {Q : Exit → Act → World → Prop} (hc : cOper T n ops o = some ao)
    (hP : ∀ v x a w H g, KP x H → g0.le g → St T.L g w H → Rep T.L g v x → a.defers = [] → Q (.panic [⟨v, false, false⟩]) a w)
    (hn : ∀ a w e H g, g0.le g → St T.L g w H → RepT T.L g n a.tmps e → a.defers = [] → xops T.L aos e H K KP → next a w)
    {a : Act} {w : World} {e : Env} {H : Heap} {g : Ghost} (hg : g0.le g) (hs : St T.L g w H) (hr : RepT T.L g n a.tmps e) (hdf : a.defers = []) (h : xops T.L (ao :: aos) e H K KP) :
    (if Region.wanted o (yielded ops a.tmps) then o.wp T.L.P a w next Q ∨ (o.asks T.L.P a w ∧ LetsOut Q) else next (a.put o.dst undef) w) := by
  obtain ⟨q1, q2, q3, q4⟩ := cOper_some hc
  have perform : stepOp T.L ao.op e H (fun v H' => xops T.L aos (putA e ao.dst v) H' K KP) KP → Oper.wp T.L.P o a w next Q := fun hst =>
    oper_sound (op_sound q1 hs hr hst)
      (fun v x w' H' g' k1 k2 k3 k4 => by
        obtain ⟨p1, p2⟩ := (hr.mono k2).putO q3 k4
        rw [q2] at k1
        exact hn _ _ _ _ g' (hg.trans k2) k3 p1 (p2.trans hdf) k1)
      (fun v x w' H' g' k1 k2 k3 k4 => hP v x a w' H' g' k1 (hg.trans k2) k3 k4 hdf)
  simp only [xops] at h
  cases hgd : o.guard with
  | none =>
    rw [hgd] at q4
    simp only [q4] at h
    rw [if_pos (by simp [Region.wanted, hgd])]
    exact .inl (perform h)
  | some p =>
    obtain ⟨j, want⟩ := p
    rw [hgd] at q4
    obtain ⟨oj, t, e1, e2, e3⟩ := q4
    simp only [e3] at h
    have skip : xops T.L aos (putA e ao.dst (.tup [])) H K KP → next (a.put o.dst undef) w := fun h => by
      obtain ⟨p1, p2⟩ := hr.putO q3 (rep_skip (L := T.L) g)
      rw [q2] at h
      exact hn _ _ _ _ g hg hs p1 (p2.trans hdf) h
    cases hb : e t <;> simp only [hb] at h
    · rename_i b
      have hy := yielded_rep (tmps := a.tmps) e1 e2 (hb ▸ hr.rep t)
      cases want <;> cases b <;> first
        | (rw [if_pos (by simp [Region.wanted, hgd, hy])]; exact .inl (perform h))
        | (rw [if_neg (by simp [Region.wanted, hgd, hy])]; exact skip h)
    · rename_i vs
      cases vs with
      | cons => exact False.elim h
      | nil =>
        have hy := yielded_none (tmps := a.tmps) e1 e2 (hb ▸ hr.rep t)
        rw [if_neg (by simp [Region.wanted, hgd, hy])]
        exact skip h

theorem ops_sound {n : Nat} {ops : Array Oper} {g0 : Ghost} {K : Env → Heap → Prop} {KP : AVal → Heap → Prop} {Q : Exit → Act → World → Prop}
    (hK : ∀ a w e H g, K e H → g0.le g → St T.L g w H → RepT T.L g n a.tmps e → a.defers = [] → Q .normal a w)
    (hP : ∀ v x a w H g, KP x H → g0.le g → St T.L g w H → Rep T.L g v x → a.defers = [] → Q (.panic [⟨v, false, false⟩]) a w) :
    ∀ (os : List Oper) (i : Nat) (as : List AO), ops.toList.drop i = os → cOpers T n ops os = some as → ∀ (a : Act) (w : World) (e : Env) (H : Heap) (g : Ghost), g0.le g → St T.L g w H → RepT T.L g n a.tmps e → a.defers = [] →
      xops T.L as e H K KP → wpOps T.L.P ops Q (List.range' i os.length) a w
  | [], i, as, hd, hc, a, w, e, H, g, hg, hs, hr, hdf, h => by
    cases hc
    exact hK a w e H g h hg hs hr hdf
  | o :: os, i, as, hd, hc, a, w, e, H, g, hg, hs, hr, hdf, h => by
    simp only [cOpers] at hc
    cases h1 : cOper T n ops o with
    | none => simp only [h1] at hc; cases hc
    | some ao =>
      cases h2 : cOpers T n ops os with
      | none => simp only [h1, h2] at hc; cases hc
      | some aos =>
        simp only [h1, h2] at hc
        cases hc
        have hi : ops[i]? = some o := by
          have : (ops.toList.drop i)[0]? = some o := by rw [hd]; rfl
          rw [List.getElem?_drop] at this
          simpa using this
        have hd' : ops.toList.drop (i + 1) = os := by
          have : (ops.toList.drop i).drop 1 = os := by rw [hd]; rfl
          rwa [List.drop_drop] at this
        have ih := ops_sound hK hP os (i + 1) aos hd' h2
        simp only [List.length_cons, List.range'_succ, wpOps, hi]
        exact op_step h1 hP (fun a w e H g k1 k2 k3 k4 k5 => ih a w e H g k1 k2 k3 k4 k5) hg hs hr hdf h

end Go.Ag
