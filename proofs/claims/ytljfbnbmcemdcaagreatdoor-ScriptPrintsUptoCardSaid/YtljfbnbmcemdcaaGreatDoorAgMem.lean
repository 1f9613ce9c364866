/- The operations that read and write memory. -/
import Derived.Test.YtljfbnbmcemdcaaGreatDoorAgOps
import Derived.Deep.AppendSrc
import Derived.Laws.CopyRow
import Derived.Maps.AppendAt
namespace Go.Ag
open Go
open Go.RowKit (Below)

variable {L : Lnk} {g g' : Ghost} {w w' : World} {H : Heap} {T : Tab} {P : Program}

theorem addr_add (b o n : Nat) : (⟨b, o, none⟩ : Addr).add n = ⟨b, o + n, none⟩ := by unfold Addr.add; split <;> simp_all

theorem oneA_rep {v : Value} {x : AVal} (h : Rep L g v x) (h1 : oneA x = true) : v.oneCell' = true := by
  cases h <;> first | rfl | cases h1
theorem oneA_reps {vs : List Value} {xs : List AVal} (h : RepL L g vs xs) (h1 : xs.all oneA = true) : ∀ v ∈ vs, v.oneCell' = true := by
  induction vs generalizing xs with
  | nil => intro v hv; cases hv
  | cons u vs ih =>
    cases h with
    | cons _ x _ xs h hs =>
      simp only [List.all_cons, Bool.and_eq_true] at h1
      intro v hv
      rcases List.mem_cons.1 hv with rfl | hv
      · exact oneA_rep h h1.1
      · exact ih hs h1.2 v hv
theorem rep_cells {v : Value} {x : AVal} (h : Rep L g v x) (h1 : x.cells.all oneA = true) : RepL L g v.cells.toList x.cells :=
  h.cells fun e => by subst e; cases h1

/-- Cells that a pointer leads to. -/
theorem cellsAt_sound (hs : St L g w H) {a : AVal} {k : Nat} {cs : List AVal} (h : cellsAt H a k = some cs) {v : Value} (hr : Rep L g v a) :
    ∃ b o vs, v = .pointer (some ⟨b, o, none⟩) ∧ vs.length = k ∧ (∀ j u, vs[j]? = some u → w.cell? ⟨b, o + j, none⟩ = some u) ∧ RepL L g vs cs := by
  unfold cellsAt at h
  split at h
  · rename_i id off
    split at h
    · rename_i cs0 t0 hH
      split at h
      · rename_i hk
        cases h
        obtain ⟨s, vs, h1, h2, h3, h4, h5, h6⟩ := hs.obj id _ hH
        cases hr with
        | ptr _ _ s' hs' h0' =>
          rw [hs'] at h1; cases h1
          have hl := h4.length
          refine ⟨s.b, off, (vs.toList.drop off).take k, rfl, ?_, fun j u hu => ?_, (h4.drop off).take k⟩
          · simp only [List.length_take, List.length_drop]; omega
          · rw [List.getElem?_take] at hu
            split at hu
            · rw [List.getElem?_drop] at hu
              simp only [World.cell?, h3, Option.isSome_none, Bool.false_eq_true, if_false]
              simpa using hu
            · cases hu
      · cases h
    · cases h
  · rename_i cs0
    split at h
    · rename_i hk
      cases h
      cases hr with
      | lptr b o vs _ hf hr' =>
        have hl := hr'.length
        refine ⟨b, o, vs.take k, rfl, ?_, fun j u hu => ?_, hr'.take k⟩
        · simp only [List.length_take]; omega
        · rw [List.getElem?_take] at hu
          split at hu
          · exact hs.fz _ _ _ (hf j u hu)
          · cases hu
    · cases h
  · cases h

theorem run_loadAgg {t : TypeId} {i : TypeInfo} {d : TypeDesc} (hu : P.underlying t = some d) (hd : (∃ fs, d = .struct fs) ∨ ∃ n e, d = .array n e) (hi : P.info? t = some i) (b o : Nat) (vs : List Value) (hl : vs.length = i.size)
    (hc : ∀ j u, vs[j]? = some u → w.cell? ⟨b, o + j, none⟩ = some u) : (loadVar t ⟨b, o, none⟩).run P w = .ok (.agg vs.toArray) w := by
  have h1 : (isAgg t).run P w = .ok true w := by
    unfold isAgg
    rw [Sem.run_bind, run_underlying hu]
    rcases hd with ⟨fs, rfl⟩ | ⟨n, e, rfl⟩ <;> rfl
  have h2 : (loadCells ⟨b, o, none⟩ i.size).run P w = .ok vs.toArray w := by
    rw [← hl]
    exact run_loadCells_list w ⟨b, o, none⟩ vs fun j u hu => by rw [addr_add]; exact hc j u hu
  unfold loadVar
  simp [h1, sizeOf, typeInfo, hi, h2]
theorem run_loadOne {t : TypeId} {d : TypeDesc} (hu : P.underlying t = some d) (hd : ∀ fs, d ≠ .struct fs) (hd' : ∀ n e, d ≠ .array n e) (b o : Nat) (v : Value)
    (hc : w.cell? ⟨b, o, none⟩ = some v) : (loadVar t ⟨b, o, none⟩).run P w = .ok v w := by
  have h1 : (isAgg t).run P w = .ok false w := by
    unfold isAgg
    rw [Sem.run_bind, run_underlying hu]
    cases d <;> first | rfl | exact absurd rfl (hd _) | exact absurd rfl (hd' _ _)
  unfold loadVar
  simp [h1, hc]

theorem agg_some {t k : Nat} (h : T.agg t = some (some k)) : ∃ d i, T.L.P.underlying t = some d ∧ ((∃ fs, d = .struct fs) ∨ ∃ n e, d = .array n e) ∧ T.L.P.info? t = some i ∧ i.size = k := by
  unfold Tab.agg at h
  split at h
  · rename_i fs i h1 h2; cases h; exact ⟨_, i, h1, .inl ⟨_, rfl⟩, h2, rfl⟩
  · rename_i n e i h1 h2; cases h; exact ⟨_, i, h1, .inr ⟨_, _, rfl⟩, h2, rfl⟩
  · cases h
  · cases h
theorem agg_none {t : Nat} (h : T.agg t = some none) : ∃ d, T.L.P.underlying t = some d ∧ (∀ fs, d ≠ .struct fs) ∧ ∀ n e, d ≠ .array n e := by
  unfold Tab.agg at h
  split at h
  · cases h
  · cases h
  · rename_i h2 h3 h1 _
    exact ⟨_, h1, fun fs e => h2 fs e, fun n e h => h3 n e h⟩
  · cases h

theorem load_sound (hs : St T.L g w H) {t : Nat} {k : Option Nat} {a x : AVal} (hk : T.agg t = some k) (h : loadAt H k a = some x) {v : Value} (hr : Rep T.L g v a) :
    ∃ z, (Instr.loadAt t v).run T.L.P w = .ok z w ∧ Rep T.L g z x := by
  unfold loadAt at h
  cases k with
  | none =>
    dsimp only at h
    split at h
    · rename_i c hc
      cases h
      obtain ⟨b, o, vs, rfl, hl, hcell, hrep⟩ := cellsAt_sound hs hc hr
      obtain ⟨d, h1, h2, h3⟩ := agg_none hk
      match vs, hl with
      | [u], _ =>
        refine ⟨u, ?_, by cases hrep; assumption⟩
        unfold Instr.loadAt
        have := run_loadOne (w := w) h1 h2 h3 b o u (hcell 0 u rfl)
        simp [Instr.sureAddr, this]
    · cases h
  | some k =>
    dsimp only at h
    cases hc : cellsAt H a k with
    | none => rw [hc] at h; cases h
    | some cs =>
      rw [hc] at h; cases h
      obtain ⟨b, o, vs, rfl, hl, hcell, hrep⟩ := cellsAt_sound hs hc hr
      obtain ⟨d, i, h1, h2, h3, h4⟩ := agg_some hk
      refine ⟨.agg vs.toArray, ?_, .agg _ _ hrep⟩
      unfold Instr.loadAt
      have := run_loadAgg (w := w) h1 h2 h3 b o vs (hl.trans h4.symm) hcell
      simp [Instr.sureAddr, this]

theorem store_sound (hs : St L g w H) {t : Nat} {i : TypeInfo} {a x : AVal} {H' : Heap} (hi : L.P.info? t = some i) (hx : okCells i.size x) (h : storeAt H i.size a x = some H') {v u : Value} (hr : Rep L g v a) (hu : Rep L g u x) :
    ∃ w', (Instr.storeAt t v u).run L.P w = .ok () w' ∧ St L g w' H' := by
  unfold storeAt at h
  split at h
  · rename_i id off
    split at h
    · rename_i cs t0 hH
      split at h
      · rename_i hk
        cases h
        obtain ⟨s, vs, h1, h2, h3, h4, h5, h6⟩ := hs.obj id _ hH
        cases hr with
        | ptr _ _ s' hs' h0' =>
          rw [hs'] at h1; cases h1
          have hl := h4.length
          simp only [Array.length_toList] at hl
          have hc := rep_cells hu hx.2
          have hcl : u.cells.toList.length = i.size := hc.length.trans hx.1
          have hsz : u.cells.size = i.size := by simpa using hcl
          have hst := run_storeCells_at L.P s.b off (L.ty t0) u.cells.toList 0 vs w h3 (by rw [hcl]; omega) (oneA_reps hc hx.2)
          simp only [Nat.add_zero] at hst
          refine ⟨w.setRow s.b (vs.toList.take off ++ u.cells.toList ++ vs.toList.drop (off + u.cells.toList.length)).toArray, ?_, ?_⟩
          · unfold Instr.storeAt
            simp [Instr.sureAddr, storeVar, sizeOf, typeInfo, hi, hsz]
            simpa [hsz] using hst
          · refine hs.store hH hs' _ _ (setRow_heap w s.b vs _ (L.ty t0) (0, 0) h3) (fun b hb => setRow_other w s.b b _ hb) (by simp) rfl rfl rfl _ ?_
            rw [hcl]
            exact ((h4.take off).append hc).append (h4.drop (off + i.size))
      · cases h
    · cases h
  · cases h

theorem flat_cons (x : AVal) (xs : List AVal) : flat (x :: xs) = x.cells ++ flat xs := rfl
theorem flat_append (xs ys : List AVal) : flat (xs ++ ys) = flat xs ++ flat ys := by simp [flat]
theorem flat_length {k : Nat} {xs : List AVal} (h : ∀ x ∈ xs, x.cells.length = k) : (flat xs).length = xs.length * k := by
  induction xs with
  | nil => simp [flat]
  | cons x xs ih =>
    rw [flat_cons, List.length_append, h x (by simp), ih fun y hy => h y (by simp [hy]), List.length_cons, Nat.succ_mul]
    omega
theorem flat_ones {xs : List AVal} {k : Nat} (h : Sized k xs) : (flat xs).all oneA = true := by
  induction xs with
  | nil => rfl
  | cons x xs ih =>
    rw [flat_cons, List.all_append, Bool.and_eq_true]
    exact ⟨(h x (by simp)).2, ih fun y hy => h y (by simp [hy])⟩
theorem Sized.len {k : Nat} {xs : List AVal} (h : Sized k xs) : ∀ x ∈ xs, x.cells.length = k := fun x hx => (h x hx).1

theorem List_eq_nil_of_flat {k : Nat} {xs : List AVal} (_h : Sized k xs) (hn : xs.length = 0) : xs = [] := List.eq_nil_of_length_eq_zero hn

/-- What is known of a list's value. -/
theorem lst_inv {v : Value} {xs : List AVal} {tk : Tok} (h : Rep L g v (.lst xs tk)) :
    ∃ a c k b o vs, v = .slice a xs.length c ∧ (xs ≠ [] → a = some ⟨b, o, none⟩) ∧ (∀ j u, vs[j]? = some u → g.fz b (o + j) = some u) ∧ (∀ x ∈ xs, x.cells.length = k) ∧ xs.length ≤ c ∧ TokOK g a xs.length c k tk ∧ RepL L g vs (flat xs) := by
  cases h with
  | lst a c k b o _ vs _ ha hf hk hc ht hr => exact ⟨a, c, k, b, o, vs, rfl, ha, hf, hk, hc, ht, hr⟩

/-- A world that is one more of itself. -/
theorem St.wider (h : St L g w H) (hb : Below w.heap.size w w') : St L g w' H :=
  ⟨fun b o v hv => (hb.cell (h.fz_lt hv)).trans (h.fz b o v hv),
   fun id o ho => (h.obj id o ho).keep (Ghost.le.refl g) (fun _ => rfl) fun _ _ hs => ⟨hb.block _ (h.bnd _ _ _ hs), fun _ => rfl⟩,
   h.new, fun id v _ hs => Nat.lt_of_lt_of_le (h.bnd id v _ hs) hb.size, h.inj, h.below.trans (hb.mono h.base_le), h.bs, h.fact, fun b o hk => (hb.block _ (h.kp_lt hk)).trans (h.kp b o hk)⟩

theorem St.drew (h : St L g w H) : St L g w.drew H :=
  ⟨h.fz, fun id o ho => (h.obj id o ho).keep (Ghost.le.refl g) (fun _ => rfl) fun _ _ _ => ⟨rfl, fun _ => rfl⟩, h.new, h.bnd, h.inj, h.below.drew, h.bs, h.fact, h.kp⟩

/-- The cells of the first operand of append, read once the tape has been asked. -/
theorem olds_read (hs : St L g w H) {a : Option Addr} {c k : Nat} {xs : List AVal} {vs : List Value} {b o : Nat} (ha : xs ≠ [] → a = some ⟨b, o, none⟩) (hf : ∀ j u, vs[j]? = some u → g.fz b (o + j) = some u)
    (hvl : vs.length = xs.length * k) : (Builtin.firstCells k xs.length (.slice a xs.length c)).run L.P w.drew = .ok vs.toArray w.drew := by
  cases a with
  | none =>
    have hx : xs = [] := Classical.byContradiction fun hn => by have := ha hn; cases this
    subst hx
    have hv0 : vs = [] := List.eq_nil_of_length_eq_zero (by simpa using hvl)
    subst hv0
    exact run_firstCells_none w.drew k 0 0 c
  | some ad =>
    refine run_firstCells_some w.drew k xs.length ad xs.length c vs hvl fun j u hu => ?_
    have hxn : xs ≠ [] := by
      intro e0; subst e0
      have : vs = [] := List.eq_nil_of_length_eq_zero (by simpa using hvl)
      subst this; simp at hu
    have := ha hxn
    cases this
    rw [addr_add]; exact hs.drew.fz _ _ _ (hf j u hu)

theorem append_gen (hs : St L g w H) {t tx ty e tt : Nat} {i : TypeInfo} {z : Value} (ht : L.P.underlying t = some (.slice e)) (hi : L.P.info? e = some i) (hz : i.zero = some z) (hzs : z.cells.size = i.size) (h0 : 0 < i.size) (htt : L.ty tt = e)
    {v u : Value} {xs ys : List AVal} {us : List Value} {tk : Tok} (hv : Rep L g v (.lst xs tk)) (hsrc : Src L.P i.size tx u ys.length us w) (hr' : RepL L g us (flat ys)) (hy : ys ≠ []) (hk : Sized i.size xs) (hk' : Sized i.size ys)
    (hb : (xs.length + ys.length) * i.bytes ≤ 2 ^ 46) (hl : xs.length + ys.length ≤ 2 ^ 46) {K : AVal → Heap → Prop}
    (h : match tk with
        | .nil | .full => K (.lst (xs ++ ys) (.tail H.length)) (H ++ [.tail (xs.length + ys.length) tt]) ∨ ∃ id, H[id]? = some .dead ∧ K (.lst (xs ++ ys) (.tail id)) (H.set id (.tail (xs.length + ys.length) tt))
        | .tail id => match H[id]? with
          | some (.tail m t') => (m = xs.length ∧ t' = tt) ∧ K (.lst (xs ++ ys) (.tail id)) (H.set id (.tail (xs.length + ys.length) tt))
          | _ => False
        | .none => False) :
    ∃ z' w' x H' g', (Builtin.append_ #[t, tx] ty #[v, u]).run L.P w = .ok z' w' ∧ K x H' ∧ g.le g' ∧ St L g' w' H' ∧ Rep L g' z' x := by
  obtain ⟨a, c, k, b, o, vs, rfl, ha, hf, hkx, hc, htk, hr⟩ := lst_inv hv
  have hvl : vs.length = xs.length * i.size := hr.length.trans (flat_length hk.len)
  have hul : us.length = ys.length * i.size := hr'.length.trans (flat_length hk'.len)
  have hpos : 0 < ys.length := by cases ys with | nil => exact absurd rfl hy | cons y ys => simp
  have hxy : Sized i.size (xs ++ ys) := fun x hx => by
    rcases List.mem_append.1 hx with hx | hx
    · exact hk x hx
    · exact hk' x hx
  have hflat : RepL L g (vs ++ us) (flat (xs ++ ys)) := by rw [flat_append]; exact hr.append hr'
  have hlen : (vs ++ us).length = (xs ++ ys).length * i.size := by rw [List.length_append, List.length_append, hvl, hul, Nat.add_mul]
  have hxl : (xs ++ ys).length = xs.length + ys.length := List.length_append
  -- a new block
  have hnew : ∀ cap, xs.length + ys.length ≤ cap → ((vs ++ us).toArray ++ Builtin.zeroCells z.cells (cap - (xs.length + ys.length))).size = cap * i.size ∧
      RepL L g (((vs ++ us).toArray ++ Builtin.zeroCells z.cells (cap - (xs.length + ys.length))).toList.take ((xs ++ ys).length * i.size)) (flat (xs ++ ys)) := by
    intro cap hcap
    constructor
    · simp only [Array.size_append, List.size_toArray, size_zeroCells, hzs]
      rw [hlen, List.length_append, ← Nat.add_mul]
      congr 1; omega
    · rw [Array.toList_append, ← hlen, List.take_left]
      exact hflat
  have grow : c < xs.length + ys.length → ∃ cap, xs.length + ys.length ≤ cap ∧ (Builtin.append_ #[t, tx] ty #[.slice a xs.length c, u]).run L.P w =
      .ok (.slice (some ⟨w.heap.size, 0, none⟩) (xs.length + ys.length) cap) (w.drew.alloc (.cells ((vs ++ us).toArray ++ Builtin.zeroCells z.cells (cap - (xs.length + ys.length))) (L.ty tt))) := fun hroom => by
    refine ⟨grownCap w (xs.length + ys.length) c e, grownCap_ge _ _ _ _, ?_⟩
    rw [htt]
    exact run_append_grow_src (P := L.P) w t tx ty e i z ht hi hz a xs.length c vs (olds_read hs ha hf hvl) u ys.length us hsrc hroom (by omega) (growslice_fits hroom (by omega))
  have tailNew : c < xs.length + ys.length → (K (.lst (xs ++ ys) (.tail H.length)) (H ++ [.tail (xs.length + ys.length) tt]) ∨ ∃ id, H[id]? = some .dead ∧ K (.lst (xs ++ ys) (.tail id)) (H.set id (.tail (xs.length + ys.length) tt))) →
      ∃ z' w' x H' g', (Builtin.append_ #[t, tx] ty #[.slice a xs.length c, u]).run L.P w = .ok z' w' ∧ K x H' ∧ g.le g' ∧ St L g' w' H' ∧ Rep L g' z' x := by
    intro hroom hK
    obtain ⟨cap, hcap, hrun⟩ := grow hroom
    obtain ⟨h1, h2⟩ := hnew cap hcap
    rcases hK with hK | ⟨id, hid, hK⟩
    · obtain ⟨g', k1, k2, k3⟩ := hs.drew.newTail ((vs ++ us).toArray ++ Builtin.zeroCells z.cells (cap - (xs.length + ys.length))) tt (xs ++ ys) i.size cap h0 (by rw [List.length_append]; omega) hxy.len (by rw [List.length_append]; exact hcap) h1 h2
      rw [hxl] at k2 k3
      exact ⟨_, _, _, _, g', hrun, hK, k1, k2, k3⟩
    · obtain ⟨g', k1, k2, k3⟩ := hs.drew.deadTail hid ((vs ++ us).toArray ++ Builtin.zeroCells z.cells (cap - (xs.length + ys.length))) tt (xs ++ ys) i.size cap h0 (by rw [List.length_append]; omega) hxy.len (by rw [List.length_append]; exact hcap) h1 h2
      rw [hxl] at k2 k3
      exact ⟨_, _, _, _, g', hrun, hK, k1, k2, k3⟩
  cases tk with
  | none => exact h.elim
  | nil =>
    obtain ⟨e1, e2⟩ := htk
    exact tailNew (by omega) h
  | full =>
    have htk : c = xs.length := htk
    exact tailNew (by omega) h
  | tail id =>
    dsimp only at h
    obtain ⟨s, hs1, hs2, hs3, hs4, hs5, hs6⟩ := htk
    cases hH : H[id]? with
    | none => rw [hH] at h; exact h.elim
    | some ob =>
      cases ob <;> simp only [hH] at h
      case tail m t' =>
        obtain ⟨⟨rfl, rfl⟩, hK⟩ := h
        obtain ⟨s0, cur, e1, e00, e2, e3, e4, e5, e6⟩ := hs.obj id _ hH
        rw [hs1] at e1
        cases e1
        subst hs2
        have hkk : s.k = i.size := by
          cases xs with
          | nil => simp at hs6
          | cons x xs => exact hs3.trans ((hkx x (by simp)).symm.trans (hk x (by simp)).1)
        by_cases hroom : xs.length + ys.length ≤ c
        · have hvk : vs.length = xs.length * s.k := by rw [hkk]; exact hvl
          have huk : us.length = ys.length * s.k := by rw [hkk]; exact hul
          have hfit : s.s + xs.length * s.k + us.length ≤ cur.size := by
            have h1 : (xs.length + ys.length) * s.k ≤ c * s.k := Nat.mul_le_mul_right _ hroom
            rw [Nat.add_mul] at h1
            rw [← hs3] at hs4
            omega
          have hst := run_storeCells_at L.P s.b (s.s + xs.length * s.k) (L.ty t') us 0 cur w e3 (by simpa using hfit) (oneA_reps hr' (flat_ones hk'))
          simp only [Nat.add_zero] at hst
          let cur' := (cur.toList.take (s.s + xs.length * s.k) ++ us ++ cur.toList.drop (s.s + xs.length * s.k + us.length)).toArray
          have hrun : (Builtin.append_ #[t, tx] ty #[.slice (some ⟨s.b, s.s, none⟩) xs.length c, u]).run L.P w =
              .ok (.slice (some ⟨s.b, s.s, none⟩) (xs.length + ys.length) c) (w.setRow s.b cur') := by
            simp only [cur', hkk] at hst ⊢
            rcases hsrc.kind with ⟨e', hk0⟩ | hk0 <;>
              (simp [Builtin.append_, run_underlying ht, run_underlying hk0, sizeOf, typeInfo, hi, hsrc.len, hroom, hsrc.cells, addr_add]
               rw [hst]
               simp)
          have hcs : cur'.size = cur.size := by
            simp only [cur', List.size_toArray, List.length_append, List.length_take, List.length_drop, Array.length_toList]
            omega
          obtain ⟨g', k1, k2, k3, k4⟩ := hs.appendIn hH hs1 hpos (w.setRow s.b cur') cur cur' e3 (setRow_heap w s.b cur _ (L.ty t') (0, 0) e3) (fun b hb => setRow_other w s.b b _ hb) (by simp) rfl rfl rfl hcs
            (fun j hj => by
              have h1 : j < (cur.toList.take (s.s + xs.length * s.k)).length := by simp; omega
              simp only [cur', List.getElem?_toArray, List.append_assoc]
              rw [List.getElem?_append_left h1, List.getElem?_take, if_pos (by omega), Array.getElem?_toList]) us huk
            (fun j u hu => by
              have h1 : (cur.toList.take (s.s + xs.length * s.k)).length = s.s + xs.length * s.k := by simp; omega
              have h2 : j < us.length := by
                rcases Nat.lt_or_ge j us.length with h' | h'
                · exact h'
                · rw [List.getElem?_eq_none h'] at hu; cases hu
              simp only [cur', List.getElem?_toArray, List.append_assoc]
              rw [List.getElem?_append_right (by omega), h1, Nat.add_sub_cancel_left, List.getElem?_append_left h2]
              exact hu)
          refine ⟨_, _, _, _, g', hrun, hK, k1, k2, ?_⟩
          have hbo : b = s.b ∧ o = s.s := by
            have := ha (fun e0 => by subst e0; simp at hs6)
            cases this; exact ⟨rfl, rfl⟩
          obtain ⟨rfl, rfl⟩ := hbo
          have hres := Rep.lst (L := L) (g := g') (some ⟨s.b, s.s, none⟩) c s.k s.b s.s (xs ++ ys) (vs ++ us) (.tail id) (fun _ => rfl) (fun j u hu => by
              by_cases hj : j < vs.length
              · rw [List.getElem?_append_left hj] at hu; exact k1.fz _ _ _ (hf j u hu)
              · rw [List.getElem?_append_right (by omega)] at hu
                have := k4 _ _ hu
                rwa [show s.s + xs.length * s.k + (j - vs.length) = s.s + j from by omega] at this)
            (fun x hx => by rw [hkk]; exact (hxy x hx).1) (by rw [List.length_append]; exact hroom) ⟨s, by rw [List.length_append]; exact k3, rfl, rfl, by rw [hs3]; exact hs4, by omega, by rw [List.length_append]; omega⟩ (hflat.mono k1)
          rw [List.length_append] at hres
          exact hres
        · obtain ⟨cap, hcap, hrun⟩ := grow (by omega)
          obtain ⟨h1, h2⟩ := hnew cap hcap
          obtain ⟨g', k1, k2, k3⟩ := hs.drew.appendNew hH ((vs ++ us).toArray ++ Builtin.zeroCells z.cells (cap - (xs.length + ys.length))) (xs ++ ys) i.size cap h0 (by rw [List.length_append]; omega) hxy.len (by rw [List.length_append]; exact hcap) h1 h2
          rw [hxl] at k2 k3
          exact ⟨_, _, _, _, g', hrun, hK, k1, k2, k3⟩
      all_goals exact h.elim

theorem append_sound (hs : St L g w H) {t e ty tt : Nat} {i : TypeInfo} {z : Value} (ht : L.P.underlying t = some (.slice e)) (hi : L.P.info? e = some i) (hz : i.zero = some z) (hzs : z.cells.size = i.size) (h0 : 0 < i.size) (htt : L.ty tt = e)
    {v u : Value} {xs ys : List AVal} {tk tk' : Tok} (hv : Rep L g v (.lst xs tk)) (hu : Rep L g u (.lst ys tk')) (hk : Sized i.size xs) (hk' : Sized i.size ys)
    (hb : (xs.length + ys.length) * i.bytes ≤ 2 ^ 46) (hl : xs.length + ys.length ≤ 2 ^ 46) {K : AVal → Heap → Prop}
    (h : if ys = [] then K (.lst xs tk) H else match tk with
        | .nil | .full => K (.lst (xs ++ ys) (.tail H.length)) (H ++ [.tail (xs ++ ys).length tt]) ∨ ∃ id, H[id]? = some .dead ∧ K (.lst (xs ++ ys) (.tail id)) (H.set id (.tail (xs ++ ys).length tt))
        | .tail id => match H[id]? with
          | some (.tail m t') => (m = xs.length ∧ t' = tt) ∧ K (.lst (xs ++ ys) (.tail id)) (H.set id (.tail (xs ++ ys).length tt))
          | _ => False
        | .none => False) :
    ∃ z' w' x H' g', (Builtin.append_ #[t, t] ty #[v, u]).run L.P w = .ok z' w' ∧ K x H' ∧ g.le g' ∧ St L g' w' H' ∧ Rep L g' z' x := by
  obtain ⟨a', c', k', b', o', us, rfl, ha', hf', hkx', hc', htk', hr'⟩ := lst_inv hu
  have hul : us.length = ys.length * i.size := hr'.length.trans (flat_length hk'.len)
  by_cases hy : ys = []
  · rw [if_pos hy] at h
    obtain ⟨a, c, k, b, o, vs, rfl, ha, hf, hkx, hc, htk, hr⟩ := lst_inv hv
    subst hy
    refine ⟨.slice a xs.length c, w, _, H, g, ?_, h, Ghost.le.refl g, hs, hv⟩
    have hf0 : ∀ (a'' : Option Addr), (Builtin.firstCells i.size 0 (.slice a'' 0 c')).run L.P w = .ok #[] w := fun a'' => by
      cases a'' <;> simp [Builtin.firstCells, loadCells, loadCellsFrom]
    cases a <;> simp [Builtin.append_, run_underlying ht, sizeOf, typeInfo, hi, Builtin.lenOf, hc, hf0, storeCells]
  · rw [if_neg hy, List.length_append] at h
    have hy' := ha' hy
    subst hy'
    refine append_gen hs ht hi hz hzs h0 htt hv (Src.ofSlice w ht _ _ _ us hul (fun j u hu => by rw [addr_add]; exact hs.fz _ _ _ (hf' j u hu)) ?_) hr' hy hk hk' hb hl h
    exact oneA_reps hr' (flat_ones hk')

theorem byteL_flat (s : List UInt8) : flat (byteL s) = byteL s := by
  induction s with
  | nil => rfl
  | cons b s ih => simp only [byteL, List.map_cons] at ih ⊢; rw [flat_cons, ih]; rfl
theorem byteL_sized (s : List UInt8) : Sized 1 (byteL s) := fun x hx => by
  simp only [byteL, List.mem_map] at hx
  obtain ⟨b, _, rfl⟩ := hx
  exact ⟨rfl, rfl⟩
theorem byteL_rep (s : List UInt8) : RepL L g (byteCells ⟨s.toArray⟩) (byteL s) := by
  simp only [byteCells, byteL]
  induction s with
  | nil => exact .nil
  | cons b s ih => exact .cons _ _ _ _ (.int _ _) ih

theorem byteL_inv {vs : List Value} {s : List UInt8} (h : RepL L g vs (flat (byteL s))) : vs = s.map fun b => Value.int .u8 b.toNat := by
  rw [byteL_flat] at h
  induction s generalizing vs with
  | nil => cases h; rfl
  | cons b s ih =>
    simp only [byteL, List.map_cons] at h ⊢
    cases h with
    | cons v _ vs' _ hv hvs => rw [rep_int hv, ih hvs]

theorem appendS_sound (hs : St L g w H) {t tx e ty tt : Nat} {i : TypeInfo} {z : Value} (ht : L.P.underlying t = some (.slice e)) (htx : L.P.underlying tx = some .string) (hi : L.P.info? e = some i) (hz : i.zero = some z) (hzs : z.cells.size = i.size) (h1 : i.size = 1) (htt : L.ty tt = e)
    {v u : Value} {xs : List AVal} {y : List UInt8} {tk : Tok} (hv : Rep L g v (.lst xs tk)) (hu : Rep L g u (.str y)) (hk : Sized 1 xs)
    (hb : (xs.length + y.length) * i.bytes ≤ 2 ^ 46) (hl : xs.length + y.length ≤ 2 ^ 46) {K : AVal → Heap → Prop}
    (h : if y = [] then K (.lst xs tk) H else match tk with
        | .nil | .full => K (.lst (xs ++ byteL y) (.tail H.length)) (H ++ [.tail (xs.length + y.length) tt])
        | .tail id => match H[id]? with
          | some (.tail m t') => (m = xs.length ∧ t' = tt) ∧ K (.lst (xs ++ byteL y) (.tail id)) (H.set id (.tail (xs.length + y.length) tt))
          | _ => False
        | .none => False) :
    ∃ z' w' x H' g', (Builtin.append_ #[t, tx] ty #[v, u]).run L.P w = .ok z' w' ∧ K x H' ∧ g.le g' ∧ St L g' w' H' ∧ Rep L g' z' x := by
  have hus := rep_str hu
  subst hus
  have hbl : (byteL y).length = y.length := by simp [byteL]
  by_cases hy : y = []
  · rw [if_pos hy] at h
    obtain ⟨a, c, k, b, o, vs, rfl, ha, hf, hkx, hc, htk, hr⟩ := lst_inv hv
    subst hy
    refine ⟨.slice a xs.length c, w, _, H, g, ?_, h, Ghost.le.refl g, hs, hv⟩
    cases a <;> simp [Builtin.append_, run_underlying ht, run_underlying htx, sizeOf, typeInfo, hi, Builtin.lenOf, hc, storeCells, Builtin.firstCells, ByteArray.size]
  · rw [if_neg hy] at h
    have hsrc := Src.ofString (P := L.P) w htx ⟨y.toArray⟩
    have hsz : (⟨y.toArray⟩ : ByteArray).size = (byteL y).length := by simp [ByteArray.size, byteL]
    rw [hsz, ← h1] at hsrc
    refine append_gen hs ht hi hz hzs (by omega) htt hv hsrc (by rw [byteL_flat]; exact byteL_rep y) (fun e0 => hy ?_) (by rw [h1]; exact hk) (by rw [h1]; exact byteL_sized y) (by rw [hbl]; exact hb) (by rw [hbl]; exact hl) (by
      rw [hbl]
      cases tk with
      | nil => exact .inl h
      | full => exact .inl h
      | tail id => exact h
      | none => exact h)
    have := congrArg List.length e0
    rw [hbl] at this
    exact List.eq_nil_of_length_eq_zero this

/-! ### building -/
theorem cScals_len {vs : List Value} {xs : List AVal} (h : cScals vs = some xs) : vs.length = xs.length := (cScals_rep (L := ⟨default, id, id, fun _ _ => True⟩) (g := ⟨default, 0, fun _ _ => none, fun _ _ => none, fun _ => none⟩) h).length

theorem foldl_zipIdx_set (off : Nat) : ∀ (us : List Value) (i : Nat) (cur : Array Value), off + i + us.length ≤ cur.size →
    ((us.zipIdx i).foldl (fun cs (p : Value × Nat) => cs.setIfInBounds (off + p.2) p.1) cur).toList = cur.toList.take (off + i) ++ us ++ cur.toList.drop (off + i + us.length)
  | [], i, cur, _ => by simp
  | u :: us, i, cur, h => by
    simp only [List.zipIdx_cons, List.foldl_cons, List.length_cons] at h ⊢
    rw [foldl_zipIdx_set off us (i + 1) (cur.setIfInBounds (off + i) u) (by simp; omega)]
    have e := list_seg_step cur.toList (off + i) u us (by simp; omega)
    simpa [Array.toList_setIfInBounds, Nat.add_assoc, Nat.add_comm, Nat.add_left_comm] using e

theorem fill_sound {L : Lnk} {g : Ghost} {place : Nat → Option (Nat × Nat)} : ∀ (ps : List (Nat × Value)) (as : List (Nat × Nat × AVal)) (cur : Array Value) (cs : List AVal),
    RepL L g cur.toList cs → ps.length = as.length →
    (∀ (j : Nat) (p : Nat × Value) (a : Nat × Nat × AVal), ps[j]? = some p → as[j]? = some a → place p.1 = some (a.1, a.2.1) ∧ Rep L g p.2 a.2.2 ∧ okCells a.2.1 a.2.2 ∧ a.1 + a.2.1 ≤ cs.length) →
    ∃ cur', Instr.fill place cur ps = some cur' ∧ RepL L g cur'.toList (fillA cs (as.map fun a => (a.1, a.2.2.cells)))
  | [], [], cur, cs, h, _, _ => ⟨cur, rfl, h⟩
  | [], _ :: _, _, _, _, h, _ => by simp at h
  | _ :: _, [], _, _, _, h, _ => by simp at h
  | (i, v) :: ps, (o, k, a) :: as, cur, cs, h, hl, hp => by
    obtain ⟨h1, h2, h3, h4⟩ := hp 0 (i, v) (o, k, a) rfl rfl
    have hc := rep_cells h2 h3.2
    have hcl : v.cells.toList.length = k := hc.length.trans h3.1
    have hcs : v.cells.size = k := by simpa using hcl
    have hcur := h.length
    simp only [Array.length_toList] at hcur
    dsimp only at h1 h4
    have hz : v.cells.zipIdx.foldl (fun cs (p : Value × Nat) => cs.setIfInBounds (o + p.2) p.1) cur = (cur.toList.take o ++ v.cells.toList ++ cur.toList.drop (o + v.cells.toList.length)).toArray := by
      apply Array.ext'
      have := foldl_zipIdx_set o v.cells.toList 0 cur (by omega)
      rw [← Array.foldl_toList, Array.toList_zipIdx]
      simpa using this
    have hrep : RepL L g (cur.toList.take o ++ v.cells.toList ++ cur.toList.drop (o + v.cells.toList.length)) (cs.take o ++ a.cells ++ cs.drop (o + a.cells.length)) := by
      rw [hcl, h3.1]
      exact ((h.take o).append hc).append (h.drop (o + k))
    obtain ⟨cur', e1, e2⟩ := fill_sound ps as (cur.toList.take o ++ v.cells.toList ++ cur.toList.drop (o + v.cells.toList.length)).toArray (cs.take o ++ a.cells ++ cs.drop (o + a.cells.length)) hrep (by simpa using hl) (fun j p b hj hj' => by
      obtain ⟨q1, q2, q3, q4⟩ := hp (j + 1) p b hj hj'
      refine ⟨q1, q2, q3, ?_⟩
      simp only [List.length_append, List.length_take, List.length_drop]
      omega)
    refine ⟨cur', ?_, e2⟩
    unfold Instr.fill
    simp only [h1]
    rw [if_neg (by rw [hcs]; simp; omega)]
    have : v.cells.zipIdx.foldl (fun cs (c, j) => cs.setIfInBounds (o + j) c) cur = (cur.toList.take o ++ v.cells.toList ++ cur.toList.drop (o + v.cells.toList.length)).toArray := hz
    rw [this]
    exact e1

theorem cParts_sound {places : List (Nat × Nat)} {a : Act} {n : Nat} {e : Env} (hr : RepT T.L g n a.tmps e) : ∀ (ps : List (Nat × Operand)) (as : List (Nat × Nat × AX)), cParts T places ps = some as →
    ps.length = as.length ∧ ∀ (j : Nat) (p : Nat × Operand) (x : Nat × Nat × AX), ps[j]? = some p → as[j]? = some x → places[p.1]? = some (x.1, x.2.1) ∧ Rep T.L g (a.eval p.2) (ev e x.2.2)
  | [], as, h => by cases h; exact ⟨rfl, fun j p x hj => by simp at hj⟩
  | (i, x) :: ps, as, h => by
    simp only [cParts] at h
    cases h1 : places[i]? with
    | none => rw [h1] at h; cases h
    | some f => cases h2 : cX T x with
      | none => rw [h1, h2] at h; cases h
      | some y => cases h3 : cParts T places ps with
        | none => rw [h1, h2, h3] at h; cases h
        | some ys =>
          rw [h1, h2, h3] at h; cases h
          obtain ⟨k1, k2⟩ := cParts_sound hr ps ys h3
          refine ⟨by simp [k1], fun j p x' hj hj' => ?_⟩
          cases j with
          | zero => simp at hj hj'; subst hj; subst hj'; exact ⟨h1, cX_rep h2 hr⟩
          | succ j => simp at hj hj'; exact k2 j p x' hj hj'

theorem cElems_sound {a : Act} {n : Nat} {e : Env} (hr : RepT T.L g n a.tmps e) : ∀ (ps : List (Nat × Operand)) (m : Nat) (as : List (Nat × AX)), cElems T m ps = some as →
    ps.length = as.length ∧ ∀ (j : Nat) (p : Nat × Operand) (x : Nat × AX), ps[j]? = some p → as[j]? = some x → p.1 = m + j ∧ x.1 = m + j ∧ Rep T.L g (a.eval p.2) (ev e x.2)
  | [], m, as, h => by cases h; exact ⟨rfl, fun j p x hj => by simp at hj⟩
  | (i, x) :: ps, m, as, h => by
    simp only [cElems] at h
    split at h
    · rename_i him
      cases h2 : cX T x with
      | none => rw [h2] at h; cases h
      | some y => cases h3 : cElems T (m + 1) ps with
        | none => rw [h2, h3] at h; cases h
        | some ys =>
          rw [h2, h3] at h; cases h
          obtain ⟨k1, k2⟩ := cElems_sound hr ps (m + 1) ys h3
          refine ⟨by simp [k1], fun j p x' hj hj' => ?_⟩
          cases j with
          | zero => simp at hj hj'; subst hj; subst hj'; exact ⟨by simp [him], by simp [him], cX_rep h2 hr⟩
          | succ j => simp at hj hj'; obtain ⟨q1, q2, q3⟩ := k2 j p x' hj hj'; exact ⟨by omega, by omega, q3⟩
    · cases h

theorem undefs (vs : List Value) : RepL L g vs (List.replicate vs.length .undef) := by
  induction vs with
  | nil => exact .nil
  | cons v vs ih => exact .cons _ _ _ _ (.undef v) ih

/-- Parts of k cells each, one behind the other: the row that they make. -/
theorem fillA_all (k : Nat) : ∀ (as : List (Nat × AVal)) (m : Nat) (done rest : List AVal), done.length = m * k → rest.length = as.length * k → (∀ j p, as[j]? = some p → p.1 = (m + j) * k ∧ p.2.cells.length = k) →
    fillA (done ++ rest) (as.map fun p => (p.1, p.2.cells)) = done ++ flat (as.map (·.2))
  | [], m, done, rest, _, h2, _ => by
    have : rest = [] := List.eq_nil_of_length_eq_zero (by simpa using h2)
    subst this; simp [fillA, flat]
  | (i, x) :: as, m, done, rest, h1, h2, h3 => by
    obtain ⟨e1, e2⟩ := h3 0 (i, x) rfl
    dsimp only at e1 e2
    have hi : i = done.length := by rw [e1, h1]; simp
    have hk : k ≤ rest.length := by rw [h2, List.length_cons, Nat.succ_mul]; omega
    simp only [List.map_cons, fillA]
    have e3 : (done ++ rest).take i ++ x.cells ++ (done ++ rest).drop (i + x.cells.length) = (done ++ x.cells) ++ rest.drop k := by
      rw [hi, List.take_left, e2, ← List.drop_drop, List.drop_left]
    rw [e3, fillA_all k as (m + 1) (done ++ x.cells) (rest.drop k) (by rw [List.length_append, h1, e2, Nat.succ_mul]) (by rw [List.length_drop, h2, List.length_cons, Nat.succ_mul]; omega)
      (fun j p hj => by
        obtain ⟨q1, q2⟩ := h3 (j + 1) p hj
        exact ⟨by rw [q1]; congr 1; omega, q2⟩)]
    simp [flat_cons]

end Go.Ag
