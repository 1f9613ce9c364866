/- Every operation that the compiling function knows does what its abstract operation says. -/
import Derived.Test.YtljfbnbmcemdcaaGreatDoorAgMem
import Derived.Great.BuildSlice
import Derived.Laws.StructEq
import Derived.Laws.BytesArg
set_option linter.unusedVariables false
namespace Go.Ag
open Go
open Go.RowKit (Below)

variable {T : Tab} {g : Ghost} {w : World} {H : Heap} {K KP : AVal → Heap → Prop} {e : Env} {a : Act} {n : Nat}

theorem good_call {f : Nat} {args : List AVal} {vs : List Value} (hs : St T.L g w H) (hf : T.L.callable f) (h : ACalls T.L f args H (contR K KP)) (hr : RepL T.L g vs args) :
    Good T.L g K KP ((callFunc (T.L.num f) vs.toArray).run T.L.P w) := by
  obtain ⟨fn, h1, h2, h3⟩ := hf
  have hrun : (callFunc (T.L.num f) vs.toArray).run T.L.P w = .ok (.enter (T.L.num f) vs.toArray) w := by
    unfold callFunc
    have h4 : ¬ fn.body = none := by intro e0; rw [e0] at h2; cases h2
    have h5 : ¬ fn.name = "runtime.NumGoroutine" := by simpa using h3
    simp [h1, h4, h5]
  rw [hrun]
  show Calls _ _ _ _ _
  refine (h g w vs hs hr).mono fun en w' hh => ?_
  obtain ⟨r, H', g', q, hle, hst, hrep⟩ := hh
  cases r with
  | ret x => obtain ⟨v, rfl, hrep⟩ := hrep; exact ⟨x, H', g', q, hle, hst, hrep⟩
  | pan x => obtain ⟨v, rfl, hrep⟩ := hrep; exact ⟨v, x, H', g', rfl, q, hle, hst, hrep⟩

/-- A slice's bound, as the machine has it. -/
def boundV (x : Option Value) (d i : Nat) : Prop := match x with
  | some v => ∃ k, v = .int k (i : Int)
  | none => i = d
def repO (T : Tab) (g : Ghost) (x : Option Value) (b : Option AVal) : Prop := match x, b with
  | some v, some a => Rep T.L g v a
  | none, none => True
  | _, _ => False

theorem boundI_sound {g : Ghost} {x : Option Value} {b : Option AVal} {d i : Nat} (h : boundI b d = some i) (hx : repO T g x b) : boundV x d i := by
  cases x with
  | none => cases b with
    | none => simp only [boundI, Option.some.injEq] at h; exact h.symm
    | some a => exact hx.elim
  | some v => cases b with
    | none => exact hx.elim
    | some a =>
      cases a <;> simp only [boundI] at h <;> try cases h
      rename_i k m
      split at h
      · rename_i hm
        cases h
        refine ⟨k, ?_⟩
        rw [Int.toNat_of_nonneg hm]
        exact rep_int hx
      · cases h

theorem cXo_rep {x : Option Operand} {ax : Option AX} (h : cXo T x = some ax) (hr : RepT T.L g n a.tmps e) :
    repO T g (x.map a.eval) (ax.map (ev e)) := by
  cases x with
  | none => cases h; trivial
  | some x =>
    simp only [cXo] at h
    cases h1 : cX T x with
    | none => rw [h1] at h; cases h
    | some y => rw [h1] at h; cases h; exact cX_rep h1 hr

theorem extract_str (s : List UInt8) (l h : Nat) : (⟨s.toArray⟩ : ByteArray).extract l h = ⟨((s.take h).drop l).toArray⟩ := by
  apply ByteArray.ext
  simp [ByteArray.data_extract, List.drop_take]

theorem slice_str_run {P : Program} {t : TypeId} {s : List UInt8} {lo hi : Option Value} {l h : Nat} (ht : P.underlying t = some .string)
    (h1 : boundV lo 0 l) (h2 : boundV hi s.length h) (hlh : l ≤ h) (hhs : h ≤ s.length) :
    (Instr.sliceAt t (.string ⟨s.toArray⟩) lo hi none).run P w = .ok (.string ⟨((s.take h).drop l).toArray⟩) w := by
  have hsz : (⟨s.toArray⟩ : ByteArray).size = s.length := by simp [ByteArray.size]
  have hb : (Instr.sliceBounds false s.length s.length lo hi none).run P w = .ok (l, h, s.length) w := by
    unfold Instr.sliceBounds
    cases lo with
    | none => cases hi with
      | none => have h1 : l = 0 := h1; have h2 : h = _ := h2; subst h1; subst h2; simp
      | some v => obtain ⟨k, rfl⟩ := h2; have h1 : l = 0 := h1; subst h1; simp [Instr.sliceBound, asIntOf, hhs]
    | some u => obtain ⟨k', rfl⟩ := h1; cases hi with
      | none => have h2 : h = _ := h2; subst h2; simp [Instr.sliceBound, asIntOf, hlh]
      | some v => obtain ⟨k, rfl⟩ := h2; simp [Instr.sliceBound, asIntOf, hhs, hlh]
  unfold Instr.sliceAt
  simp only [Sem.run_bind, run_underlying ht, Result.andThen_ok, Instr.slice, hsz, hb, Option.isSome_none, Bool.false_eq_true, if_false]
  rw [extract_str]; rfl

theorem slice_lst_run {P : Program} {t el : TypeId} {i : TypeInfo} {x : Option Addr} {len c : Nat} {lo hi : Option Value} {l h : Nat} (ht : P.underlying t = some (.slice el)) (hi' : P.info? el = some i)
    (h1 : boundV lo 0 l) (h2 : boundV hi len h) (hlh : l ≤ h) (hhs : h ≤ len) (hc : len ≤ c) :
    (Instr.sliceAt t (.slice x len c) lo hi none).run P w = .ok (.slice (if c = l then x else x.map (·.add (l * i.size))) (h - l) (c - l)) w := by
  have hhc : h ≤ c := Nat.le_trans hhs hc
  have hb : (Instr.sliceBounds true len c lo hi none).run P w = .ok (l, h, c) w := by
    unfold Instr.sliceBounds
    cases lo with
    | none => cases hi with
      | none => have h1 : l = 0 := h1; have h2 : h = _ := h2; subst h1; subst h2; simp
      | some v => obtain ⟨k, rfl⟩ := h2; have h1 : l = 0 := h1; subst h1; simp [Instr.sliceBound, asIntOf, hhc]
    | some u => obtain ⟨k', rfl⟩ := h1; cases hi with
      | none => have h2 : h = _ := h2; subst h2; simp [Instr.sliceBound, asIntOf, hlh]
      | some v => obtain ⟨k, rfl⟩ := h2; simp [Instr.sliceBound, asIntOf, hhc, hlh]
  unfold Instr.sliceAt
  simp [run_underlying ht, Instr.slice, hb, sizeOf, typeInfo, hi']

theorem map_some {α β : Type} {f : α → β} {x : Option α} {b : β} (h : x.map f = some b) : ∃ a, x = some a ∧ b = f a := by
  cases x with
  | none => cases h
  | some a => cases h; exact ⟨a, rfl, rfl⟩

theorem Tab.ty_eq {t tt : Nat} (ht : T.ty t = some tt) : T.L.ty tt = t := by
  unfold Tab.ty at ht
  split at ht
  · rename_i hh; cases ht; exact hh
  · cases ht

theorem s_move {o : Oper} {q : AOp} {x : _} (hop : o.op = .move x) (hq : cOp T o = some q) (hs : St T.L g w H) (hr : RepT T.L g n a.tmps e) (h : stepOp T.L q e H K KP) : Good T.L g K KP ((execOp a.eval o).run T.L.P w) := by
  simp only [cOp, hop] at hq
  obtain ⟨ax, h1, rfl⟩ := map_some hq
  simp only [execOp, hop]
  exact good_value hs (cX_rep h1 hr) h

theorem s_assign {o : Oper} {q : AOp} {x : _} (hop : o.op = .assign x) (hq : cOp T o = some q) (hs : St T.L g w H) (hr : RepT T.L g n a.tmps e) (h : stepOp T.L q e H K KP) : Good T.L g K KP ((execOp a.eval o).run T.L.P w) := by
  simp only [cOp, hop] at hq
  obtain ⟨ax, h1, rfl⟩ := map_some hq
  simp only [execOp, hop]
  exact good_value hs (cX_rep h1 hr) h

theorem s_pick {o : Oper} {q : AOp} {c : _} {x : _} {y : _} (hop : o.op = .pick c x y) (hq : cOp T o = some q) (hs : St T.L g w H) (hr : RepT T.L g n a.tmps e) (h : stepOp T.L q e H K KP) : Good T.L g K KP ((execOp a.eval o).run T.L.P w) := by
  simp only [cOp, hop] at hq; simp only [execOp, hop]
  cases hc : cX T c <;> cases hx : cX T x <;> cases hy : cX T y <;> simp only [hc, hx, hy] at hq <;> cases hq
  rename_i ac ax ay
  have h1 := cX_rep hc hr
  simp only [stepOp] at h
  cases hb : ev e ac <;> simp only [hb] at h
  rename_i b
  rw [hb] at h1
  have h2 := rep_bool h1
  have hrun : (do pure (Next.value (if ← asBool (a.eval c) then a.eval x else a.eval y)) : Sem Next).run T.L.P w = .ok (.value (if b then a.eval x else a.eval y)) w := by
    rw [h2]; simp [asBool]
  rw [hrun]
  refine good_value hs ?_ h
  cases b
  · exact cX_rep hy hr
  · exact cX_rep hx hr

theorem s_alloc {o : Oper} {q : AOp} {t : _} (hop : o.op = .alloc t) (hq : cOp T o = some q) (hs : St T.L g w H) (hr : RepT T.L g n a.tmps e) (h : stepOp T.L q e H K KP) : Good T.L g K KP ((execOp a.eval o).run T.L.P w) := by
  simp only [cOp, hop] at hq; simp only [execOp, hop]
  cases hi : T.L.P.info? t with
  | none => simp only [hi] at hq; cases hq
  | some i =>
   cases htt : T.ty t with
   | none => simp only [hi, htt] at hq; cases hq
   | some tt =>
    simp only [hi, htt] at hq
    cases hz : i.zero with
    | none => simp only [hz] at hq; cases hq
    | some z =>
      simp only [hz] at hq
      obtain ⟨zs, h1, rfl⟩ := map_some hq
      have hrep : RepL T.L g z.cells.toList zs := cScals_rep h1
      obtain ⟨g', k1, k2, k3⟩ := hs.box z.cells tt zs hrep
      rw [Tab.ty_eq htt] at k2
      refine good_run (w' := w.alloc (.cells z.cells t)) (v := .pointer (some ⟨w.heap.size, 0, none⟩)) ?_ ⟨_, _, g', h, k1, k2, k3⟩
      unfold Instr.alloc
      simp [zeroValue, typeInfo, hi, hz, newVar, newRow]

theorem s_box {o : Oper} {q : AOp} {t : _} {x : _} (hop : o.op = .box t x) (hq : cOp T o = some q) (hs : St T.L g w H) (hr : RepT T.L g n a.tmps e) (h : stepOp T.L q e H K KP) : Good T.L g K KP ((execOp a.eval o).run T.L.P w) := by
  simp only [cOp, hop] at hq
  cases htt : T.ty t <;> cases h1 : cX T x <;> simp only [htt, h1] at hq <;> cases hq
  rename_i tt ax
  simp only [execOp, hop]
  have hrep := rep_cells (cX_rep h1 hr) h.1
  obtain ⟨g', k1, k2, k3⟩ := hs.box (a.eval x).cells tt _ hrep
  rw [Tab.ty_eq htt] at k2
  refine good_run (w' := w.alloc (.cells (a.eval x).cells t)) (v := .pointer (some ⟨w.heap.size, 0, none⟩)) ?_ ⟨_, _, g', h.2, k1, k2, k3⟩
  unfold Instr.box
  simp [newVar, newRow]

theorem s_build {o : Oper} {q : AOp} {t : _} {ps : _} (hop : o.op = .build t ps) (hq : cOp T o = some q) (hs : St T.L g w H) (hr : RepT T.L g n a.tmps e) (h : stepOp T.L q e H K KP) : Good T.L g K KP ((execOp a.eval o).run T.L.P w) := by
  simp only [cOp, hop] at hq; simp only [execOp, hop]
  cases hu : T.L.P.underlying t with
  | none => simp only [hu] at hq; cases hq
  | some d =>
    cases d <;> simp only [hu] at hq <;> try (cases hq; done)
    rename_i fs
    cases hi : T.L.P.info? t with
    | none => simp only [hi] at hq; cases hq
    | some i =>
      simp only [hi] at hq
      cases hz : i.zero with
      | none => simp only [hz] at hq; cases hq
      | some z =>
        simp only [hz] at hq
        cases hzs : cScals z.cells.toList with
        | none => simp only [hzs] at hq; cases hq
        | some zs =>
          cases hpl : T.places fs.toList with
          | none => simp only [hzs, hpl] at hq; cases hq
          | some places =>
            simp only [hzs, hpl] at hq
            obtain ⟨as, hps, rfl⟩ := map_some hq
            obtain ⟨l1, l2⟩ := cParts_sound hr ps.toList as hps
            obtain ⟨c1, c2⟩ := h
            obtain ⟨cur', f1, f2⟩ := fill_sound (L := T.L) (g := g) (place := fun i => places.toArray[i]?) (ps.toList.map fun p => (p.1, a.eval p.2)) (as.map fun x => (x.1, x.2.1, ev e x.2.2)) z.cells zs (cScals_rep hzs) (by simpa using l1)
              (fun j p x hj hj' => by
                simp only [List.getElem?_map, Option.map_eq_some_iff] at hj hj'
                obtain ⟨p0, hp0, rfl⟩ := hj
                obtain ⟨x0, hx0, rfl⟩ := hj'
                obtain ⟨k1, k2⟩ := l2 j p0 x0 hp0 hx0
                obtain ⟨k3, k4⟩ := c1 x0 (List.mem_of_getElem? hx0)
                exact ⟨by simpa using k1, k2, k3, k4⟩)
            refine good_run (w' := w) (v := .agg cur') ?_ (good_value hs ?_ c2)
            · have hpr := run_places (P := T.L.P) w fs.toList places hpl
              have hf : Instr.fill (fun x => places[x]?) z.cells (List.map (fun p => (p.1, a.eval p.2)) ps.toList) = some cur' := by simpa using f1
              unfold Instr.build
              simp [run_underlying hu, typeInfo, zeroValue, hi, hz, Array.mapM_eq_mapM_toList, hpr, hf]
            · have := Rep.agg cur'.toList _ f2
              simpa [List.map_map, Function.comp_def] using this

theorem s_buildSlice {o : Oper} {q : AOp} {t : _} {len : _} {ps : _} (hop : o.op = .buildSlice t len ps) (hq : cOp T o = some q) (hs : St T.L g w H) (hr : RepT T.L g n a.tmps e) (h : stepOp T.L q e H K KP) : Good T.L g K KP ((execOp a.eval o).run T.L.P w) := by
  simp only [cOp, hop] at hq; simp only [execOp, hop]
  cases hu : T.L.P.underlying t with
  | none => simp only [hu] at hq; cases hq
  | some d =>
    cases d <;> simp only [hu] at hq <;> try (cases hq; done)
    rename_i el
    cases hi : T.L.P.info? el with
    | none => simp only [hi] at hq; cases hq
    | some i =>
      simp only [hi] at hq
      cases hz : i.zero with
      | none => simp only [hz] at hq; cases hq
      | some z =>
        cases has : cElems T 0 ps.toList with
        | none => simp only [hz, has] at hq; cases hq
        | some as =>
          simp only [hz, has] at hq
          split at hq
          · rename_i hc
            obtain ⟨c1, c2, c3, c4⟩ := hc
            cases hq
            obtain ⟨l1, l2⟩ := cElems_sound hr ps.toList 0 as has
            obtain ⟨h1, h2⟩ := h
            let zc := (Array.range (len * i.size)).map (z.cells[· % z.cells.size]!)
            have hzl : zc.toList.length = len * i.size := by simp [zc]
            obtain ⟨cur', f1, f2⟩ := fill_sound (L := T.L) (g := g) (place := fun j => some (j * i.size, i.size)) (ps.toList.map fun p => (p.1, a.eval p.2)) (as.map fun x => (x.1 * i.size, i.size, ev e x.2)) zc (List.replicate zc.toList.length .undef) (undefs _) (by simpa using l1)
              (fun j p x hj hj' => by
                simp only [List.getElem?_map, Option.map_eq_some_iff] at hj hj'
                obtain ⟨p0, hp0, rfl⟩ := hj
                obtain ⟨x0, hx0, rfl⟩ := hj'
                obtain ⟨k1, k1', k2⟩ := l2 j p0 x0 hp0 hx0
                have hok := h1 x0 (List.mem_of_getElem? hx0)
                have hx1 : x0.1 = p0.1 := by omega
                have hjl : j < as.length := by
                  rcases Nat.lt_or_ge j as.length with h' | h'
                  · exact h'
                  · rw [List.getElem?_eq_none h'] at hx0; cases hx0
                refine ⟨by rw [hx1], k2, hok, ?_⟩
                rw [List.length_replicate, hzl, hx1, k1, Nat.zero_add, ← c1]
                have : (j + 1) * i.size ≤ as.length * i.size := Nat.mul_le_mul_right _ hjl
                rwa [Nat.succ_mul] at this)
            have hfa := fillA_all i.size (as.map fun x => (x.1 * i.size, ev e x.2)) 0 [] (List.replicate zc.toList.length .undef) (by simp) (by rw [List.length_replicate, hzl, List.length_map, c1])
              (fun j p hj => by
                simp only [List.getElem?_map, Option.map_eq_some_iff] at hj
                obtain ⟨x0, hx0, rfl⟩ := hj
                have hjl : j < ps.toList.length := by
                  rcases Nat.lt_or_ge j as.length with h' | h'
                  · omega
                  · rw [List.getElem?_eq_none h'] at hx0; cases hx0
                obtain ⟨k1, k1', k2⟩ := l2 j ps.toList[j] x0 (List.getElem?_eq_getElem hjl) hx0
                exact ⟨by rw [k1'], (h1 x0 (List.mem_of_getElem? hx0)).1⟩)
            simp only [List.nil_append, List.map_map, Function.comp_def] at hfa f2
            rw [hfa] at f2
            have hxs : (as.map fun p => ev e p.2).length = len := by rw [List.length_map, c1]
            obtain ⟨g', k1, k2, k3⟩ := hs.literal cur' el (as.map fun p => ev e p.2) i.size (fun x hx => by
              simp only [List.mem_map] at hx
              obtain ⟨p, hp, rfl⟩ := hx
              exact (h1 p hp).1) f2
            refine good_run (w' := w.alloc (.cells cur' el)) (v := .slice (some ⟨w.heap.size, 0, none⟩) len len) ?_ ⟨_, _, g', h2, k1, k2, by rw [hxs] at k3; exact k3⟩
            by_cases hpos : len * i.size = 0
            · have hl0 : len = 0 := by
                rcases Nat.eq_zero_or_pos len with h' | h'
                · exact h'
                · exact absurd hpos (Nat.ne_of_gt (Nat.mul_pos h' c4))
              have hp0 : ps = #[] := by
                apply Array.ext'
                exact List.eq_nil_of_length_eq_zero (by rw [l1, c1, hl0])
              have hc0 : cur' = #[] := by
                have hzc : zc = #[] := by simp [zc, hpos]
                rw [hp0, hzc] at f1
                simpa [Instr.fill] using f1.symm
              subst hp0
              rw [hc0]
              have hsm : ¬ (len * i.size > 2 ^ 24) := by omega
              unfold Instr.buildSlice
              simp [run_underlying hu, sizeOf, typeInfo, hi, hpos, Instr.fill, newRow]
              simp only [Array.range_zero', Array.map_empty]
            · have hlist : (ps.map fun (i, x) => (i, a.eval x)).toList = ps.toList.map fun p => (p.1, a.eval p.2) := by simp
              have hfill : Instr.fill (fun j => some (j * i.size, i.size)) ((Array.range (len * i.size)).map (z.cells[· % z.cells.size]!)) (ps.map fun (i, x) => (i, a.eval x)).toList = some cur' := by
                rw [hlist]; exact f1
              have hsm : ¬ len * i.size > 16777216 := by omega
              clear hfa f1 f2 k1 k2 k3 l1 l2 hlist hxs
              clear_value zc
              have hsm2 : ¬ 16777216 < len * i.size := by omega
              unfold Instr.buildSlice
              simp [run_underlying hu, sizeOf, typeInfo, zeroValue, hi, hz, hsm2, hpos]
              simp at hfill
              simp [hfill, newRow]
          · cases hq

theorem s_load {o : Oper} {q : AOp} {t : _} {x : _} (hop : o.op = .load t x) (hq : cOp T o = some q) (hs : St T.L g w H) (hr : RepT T.L g n a.tmps e) (h : stepOp T.L q e H K KP) : Good T.L g K KP ((execOp a.eval o).run T.L.P w) := by
  simp only [cOp, hop] at hq; simp only [execOp, hop]
  cases hk : T.agg t with
  | none => simp only [hk] at hq; cases hq
  | some k =>
    cases hx : cX T x with
    | none => simp only [hk, hx] at hq; cases hq
    | some ax =>
      simp only [hk, hx] at hq; cases hq
      simp only [stepOp] at h
      cases hl : loadAt H k (ev e ax) with
      | none => simp only [hl] at h
      | some y =>
        simp only [hl] at h
        obtain ⟨z, h1, h2⟩ := load_sound hs hk hl (cX_rep hx hr)
        exact good_run h1 (good_value hs h2 h)

theorem s_store {o : Oper} {q : AOp} {t : _} {x : _} {y : _} (hop : o.op = .store t x y) (hq : cOp T o = some q) (hs : St T.L g w H) (hr : RepT T.L g n a.tmps e) (h : stepOp T.L q e H K KP) : Good T.L g K KP ((execOp a.eval o).run T.L.P w) := by
  simp only [cOp, hop] at hq; simp only [execOp, hop]
  cases hi : T.L.P.info? t with
  | none => simp only [hi] at hq; cases hq
  | some i =>
    cases hx : cX T x <;> cases hy : cX T y <;> simp only [hi, hx, hy] at hq <;> cases hq
    rename_i ax ay
    simp only [stepOp] at h
    obtain ⟨hok, h⟩ := h
    cases hl : storeAt H i.size (ev e ax) (ev e ay) with
    | none => simp only [hl] at h
    | some H' =>
      simp only [hl] at h
      obtain ⟨w', h1, h2⟩ := store_sound hs hi hok hl (cX_rep hx hr) (cX_rep hy hr)
      exact good_unit h1 ⟨H', g, h, Ghost.le.refl g, h2⟩

theorem s_nilCheck {o : Oper} {q : AOp} {x : _} (hop : o.op = .nilCheck x) (hq : cOp T o = some q) (hs : St T.L g w H) (hr : RepT T.L g n a.tmps e) (h : stepOp T.L q e H K KP) : Good T.L g K KP ((execOp a.eval o).run T.L.P w) := by
  simp only [cOp, hop] at hq; obtain ⟨ax, h1, rfl⟩ := map_some hq; simp only [execOp, hop]
  have hx := cX_rep h1 hr
  simp only [stepOp] at h
  generalize a.eval x = v at hx ⊢
  generalize ev e ax = y at hx h
  cases y <;> try exact h.elim
  · cases hx with
    | ptr id off s h1 h2 => exact good_value hs (.ptr _ _ _ h1 h2) h
  · cases hx with
    | lptr b o vs cs hf hr' => exact good_value hs (.lptr b o vs _ hf hr') h

theorem run_eqs {op : BinOp} (hop : op = .eql ∨ op = .neq) {t : Nat} {x y : Operand} {v u : Value} {b : Bool} (h1 : (Op.equal t v u).run T.L.P w = .ok b w) (h2 : (eqGuard op t x y v u).run T.L.P w = .ok () w)
    (h3 : Go.binOp .eql t v u = (do pure (.bool (← Op.equal t v u)))) (h4 : Go.binOp .neq t v u = (do pure (.bool (!(← Op.equal t v u))))) :
    (do eqGuard op t x y v u; Go.binOp op t v u : Sem Value).run T.L.P w = .ok (.bool (b != isNeq op)) w := by
  rw [Sem.run_bind, h2]
  rcases hop with rfl | rfl
  · rw [Result.andThen_ok, h3, Sem.run_bind, h1]; simp [isNeq]
  · rw [Result.andThen_ok, h4, Sem.run_bind, h1]; simp [isNeq]

theorem isNil_eql {g : Ghost} {t k : Nat} {y : Operand} (hy : nilOf T t y = some k) {v : Value} {x : AVal} {b : Bool} (hx : Rep T.L g v x) (hb : isNil k x = some b) (xo : Operand) (op : BinOp) (hop : op = .eql ∨ op = .neq) :
    (do eqGuard op t xo y v (a.eval y); Go.binOp op t v (a.eval y) : Sem Value).run T.L.P w = .ok (.bool (b != isNeq op)) w := by
  unfold nilOf at hy
  split at hy <;> try (cases hy; done)
  all_goals
    split at hy <;> try (cases hy; done)
    rename_i hu
    cases hy
    unfold isNil at hb
    split at hb <;> try (cases hb; done)
    all_goals first | contradiction | skip
    all_goals cases hb
    all_goals cases hx
    all_goals first
      | (rename TokOK g _ _ _ _ Tok.nil => hT
         obtain ⟨h1, h2⟩ := hT
         subst h1)
      | (rename (_ ≠ [] → _) => hT
         have hT := hT (by simp)
         subst hT)
      | skip
    all_goals refine run_eqs hop ?_ ?_ rfl rfl
    all_goals first
      | (show (Op.equalIn (9999 + 1) t _ _).run T.L.P w = _
         generalize 9999 = dd
         simp [Op.equalIn, run_underlying hu, Act.eval])
      | (rcases hop with rfl | rfl <;> simp [eqGuard, Act.eval])
      | skip

theorem beq_strs (a b : List UInt8) : ((⟨a.toArray⟩ : ByteArray).toList == (⟨b.toArray⟩ : ByteArray).toList) = (a == b) := by
  rw [ByteArray.toList_eq, ByteArray.toList_eq]

theorem eqCells_int {ks : List Nat} {xs ys : List AVal} {b : Bool} (h : eqCells (0 :: ks) xs ys = some b) : ∃ k a1 b1 xs' ys' r, xs = .int k a1 :: xs' ∧ ys = .int k b1 :: ys' ∧ eqCells ks xs' ys' = some r ∧ b = (a1 == b1 && r) := by
  match xs, ys with
  | .int k a :: xs', .int k' b' :: ys' =>
    simp only [eqCells] at h
    split at h
    · rename_i hk
      subst hk
      obtain ⟨r, h1, h2⟩ := map_some h
      exact ⟨k, a, b', xs', ys', r, rfl, rfl, h1, h2⟩
    · cases h
  | [], _ => simp [eqCells] at h
  | x :: _, [] => cases x <;> simp [eqCells] at h
  | x :: _, y :: _ => cases x <;> cases y <;> first | contradiction | (simp [eqCells] at h; done) | skip
                      rename_i k a k' b'
                      simp only [eqCells] at h
                      split at h
                      · rename_i hk
                        subst hk
                        obtain ⟨r, h1, h2⟩ := map_some h
                        exact ⟨k, a, b', _, _, r, rfl, rfl, h1, h2⟩
                      · cases h
theorem eqCells_str {ks : List Nat} {xs ys : List AVal} {b : Bool} (h : eqCells (1 :: ks) xs ys = some b) : ∃ a1 b1 xs' ys' r, xs = .str a1 :: xs' ∧ ys = .str b1 :: ys' ∧ eqCells ks xs' ys' = some r ∧ b = (a1 == b1 && r) := by
  match xs, ys with
  | .str a :: xs', .str b' :: ys' =>
    simp only [eqCells] at h
    obtain ⟨r, h1, h2⟩ := map_some h
    exact ⟨a, b', xs', ys', r, rfl, rfl, h1, h2⟩
  | [], _ => simp [eqCells] at h
  | x :: _, [] => cases x <;> simp [eqCells] at h
  | x :: _, y :: _ => cases x <;> cases y <;> first | contradiction | (simp [eqCells] at h; done) | skip
                      rename_i a b'
                      simp only [eqCells] at h
                      obtain ⟨r, h1, h2⟩ := map_some h
                      exact ⟨a, b', _, _, r, rfl, rfl, h1, h2⟩
theorem eqCells_bool {ks : List Nat} {xs ys : List AVal} {b : Bool} (h : eqCells (2 :: ks) xs ys = some b) : ∃ a1 b1 xs' ys' r, xs = .bool a1 :: xs' ∧ ys = .bool b1 :: ys' ∧ eqCells ks xs' ys' = some r ∧ b = (a1 == b1 && r) := by
  match xs, ys with
  | .bool a :: xs', .bool b' :: ys' =>
    simp only [eqCells] at h
    obtain ⟨r, h1, h2⟩ := map_some h
    exact ⟨a, b', xs', ys', r, rfl, rfl, h1, h2⟩
  | [], _ => simp [eqCells] at h
  | x :: _, [] => cases x <;> simp [eqCells] at h
  | x :: _, y :: _ => cases x <;> cases y <;> first | contradiction | (simp [eqCells] at h; done) | skip
                      rename_i a b'
                      simp only [eqCells] at h
                      obtain ⟨r, h1, h2⟩ := map_some h
                      exact ⟨a, b', _, _, r, rfl, rfl, h1, h2⟩

theorem eqFields_sound {g : Ghost} {d : Nat} : ∀ (fs : List Field) (n : Nat) (ks : List Nat), plainFields T n fs = some ks → ∀ (vs us : List Value) (xs ys : List AVal) (b : Bool), RepL T.L g vs xs → RepL T.L g us ys →
    eqCells ks (xs.drop n) (ys.drop n) = some b → (Op.eqFields (d + 1) vs.toArray us.toArray fs).run T.L.P w = .ok b w
  | [], n, ks, hp, vs, us, xs, ys, b, hv, hu, h => by
    cases hp
    unfold eqCells at h
    split at h <;> simp_all [Op.eqFields]
  | f :: fs, n, ks, hp, vs, us, xs, ys, b, hv, hu, h => by
    simp only [plainFields] at hp
    split at hp <;> try (cases hp; done)
    rename_i hcond
    obtain ⟨hn, hnm⟩ := hcond
    cases hd : T.L.P.underlying f.type with
    | none => simp only [hd] at hp; cases hp
    | some dd =>
      cases hpf : plainFields T (n + 1) fs with
      | none => simp only [hd, hpf] at hp; cases dd <;> cases hp
      | some ks' =>
        have hagg : ((∃ k, dd = .int k) ∨ dd = .string ∨ dd = .bool) → (isAgg f.type).run T.L.P w = .ok false w := by
          intro hd2
          unfold isAgg
          rw [Sem.run_bind, run_underlying hd]
          rcases hd2 with ⟨k, rfl⟩ | rfl | rfl <;> rfl
        have step : ∀ (x y : AVal) (xs' ys' : List AVal) (r b' : Bool), ((∃ k, dd = .int k) ∨ dd = .string ∨ dd = .bool) → xs.drop n = x :: xs' → ys.drop n = y :: ys' → (∀ v u, Rep T.L g v x → Rep T.L g u y → (Op.equalIn (d + 1) f.type v u).run T.L.P w = .ok r w) →
            eqCells ks' xs' ys' = some b' → b = (r && b') → (Op.eqFields (d + 1) vs.toArray us.toArray (f :: fs)).run T.L.P w = .ok b w := by
          intro x y xs' ys' r b' hdd hx hy hr hb' hbb
          have hxn : xs[n]? = some x := by
            have : (xs.drop n)[0]? = some x := by rw [hx]; rfl
            simpa using this
          have hyn : ys[n]? = some y := by
            have : (ys.drop n)[0]? = some y := by rw [hy]; rfl
            simpa using this
          have hx' : xs' = xs.drop (n + 1) := by
            have := congrArg (List.drop 1) hx
            rw [List.drop_drop] at this
            simpa using this.symm
          have hy' : ys' = ys.drop (n + 1) := by
            have := congrArg (List.drop 1) hy
            rw [List.drop_drop] at this
            simpa using this.symm
          obtain ⟨v, hv1, hv2⟩ := hv.at n x hxn
          obtain ⟨u, hu1, hu2⟩ := hu.at n y hyn
          have hpv : (part f.type vs.toArray f.offset).run T.L.P w = .ok v w := by simp [part, hagg hdd, hn, hv1]
          have hpu : (part f.type us.toArray f.offset).run T.L.P w = .ok u w := by simp [part, hagg hdd, hn, hu1]
          have ih := eqFields_sound (d := d) fs (n + 1) ks' hpf vs us xs ys b' hv hu (by rw [← hx', ← hy']; exact hb')
          simp only [Op.eqFields, if_pos hnm, Sem.run_bind, hpv, hpu, hr v u hv2 hu2, Result.andThen_ok]
          cases r
          · simp [hbb]
          · simpa [hbb] using ih
        generalize hx : xs.drop n = xs0 at h
        generalize hy : ys.drop n = ys0 at h
        cases dd <;> simp only [hd, hpf] at hp <;> cases hp
        · obtain ⟨a1, b1, xs', ys', r, rfl, rfl, h1, h2⟩ := eqCells_bool h
          refine step _ _ xs' ys' (a1 == b1) r (by simp) hx hy (fun v u q1 q2 => ?_) h1 h2
          rw [rep_bool q1, rep_bool q2]
          exact run_equalIn_bool' w d f.type a1 b1 hd
        · obtain ⟨k, a1, b1, xs', ys', r, rfl, rfl, h1, h2⟩ := eqCells_int h
          refine step _ _ xs' ys' (a1 == b1) r (by simp) hx hy (fun v u q1 q2 => ?_) h1 h2
          rw [rep_int q1, rep_int q2]
          exact run_equalIn_int w d f.type k _ a1 b1 hd
        · obtain ⟨a1, b1, xs', ys', r, rfl, rfl, h1, h2⟩ := eqCells_str h
          refine step _ _ xs' ys' (a1 == b1) r (by simp) hx hy (fun v u q1 q2 => ?_) h1 h2
          rw [rep_str q1, rep_str q2, run_equalIn_string w d f.type _ _ hd, beq_strs]

theorem s_binOp {o : Oper} {q : AOp} {op : _} {t : _} {x : _} {y : _} {ty : _} (hop : o.op = .binOp op t x y ty) (hq : cOp T o = some q) (hs : St T.L g w H) (hr : RepT T.L g n a.tmps e) (h : stepOp T.L q e H K KP) : Good T.L g K KP ((execOp a.eval o).run T.L.P w) := by
  simp only [cOp, hop] at hq
  simp only [execOp, hop]
  cases hce : cEq T op t x y with
  | none =>
    simp only [hce] at hq
    cases hx : cX T x <;> cases hy : cX T y <;> simp only [hx, hy] at hq <;> cases hq
    rename_i ax ay
    simp only [stepOp] at h
    cases hb : evBin op (ev e ax) (ev e ay) with
    | none => simp only [hb] at h
    | some r =>
      simp only [hb] at h
      obtain ⟨z, k1, k2⟩ := evBin_sound (P := T.L.P) (w := w) t x y hb (cX_rep hx hr) (cX_rep hy hr)
      exact good_run k1 (good_value hs k2 h)
  | some q' =>
    simp only [hce] at hq
    cases hq
    unfold cEq at hce
    split at hce
    · rename_i hop'
      cases hn : nilOf T t y with
      | some k =>
        simp only [hn] at hce
        obtain ⟨ax, h1, rfl⟩ := map_some hce
        simp only [stepOp] at h
        cases hb : isNil k (ev e ax) <;> simp only [hb] at h
        exact good_run (isNil_eql hn (cX_rep h1 hr) hb x op hop') (good_value hs (.bool _) h)
      | none =>
        simp only [hn] at hce
        cases hx : cX T x with
        | none => simp only [hx] at hce; cases hce
        | some ax =>
          cases hy : cX T y with
          | none => simp only [hx, hy] at hce; cases hce
          | some ay =>
            simp only [hx, hy] at hce
            have hrx := cX_rep hx hr
            have hry := cX_rep hy hr
            cases hu : T.L.P.underlying t with
            | none => simp only [hu] at hce; cases hce
            | some d =>
              cases d <;> simp only [hu] at hce <;> try (cases hce; done)
              · cases hce
                simp only [stepOp] at h
                cases hb1 : ev e ax <;> cases hb2 : ev e ay <;> simp only [hb1, hb2] at h
                rename_i b1 b2
                rw [hb1] at hrx
                rw [hb2] at hry
                rw [rep_bool hrx, rep_bool hry]
                refine good_run (run_eqs hop' (run_equalIn_bool' w 9999 t b1 b2 hu) ?_ rfl rfl) (good_value hs (.bool _) h)
                rw [eqGuard_at_bool]; rfl
              · rename_i fs
                split at hce
                · rename_i hc
                  obtain ⟨ks, hks, rfl⟩ := map_some hce
                  simp only [stepOp] at h
                  cases hb1 : ev e ax <;> cases hb2 : ev e ay <;> simp only [hb1, hb2] at h
                  rename_i xs ys
                  cases hb : eqCells ks xs ys <;> simp only [hb] at h
                  rw [hb1] at hrx
                  rw [hb2] at hry
                  generalize a.eval x = v at hrx ⊢
                  generalize a.eval y = u at hry ⊢
                  cases hrx with
                  | agg vs _ hv =>
                    cases hry with
                    | agg us _ hu' =>
                      have hfo : T.L.P.fieldsOf t = fs := by simp [Program.fieldsOf, hu]
                      refine good_run (run_eqs hop' ?_ (run_eqGuard_agg w op t x y _ _ hc.2) rfl rfl) (good_value hs (.bool _) h)
                      unfold Op.equal
                      rw [show Op.maxDepth = 9998 + 1 + 1 from rfl, run_equalIn_struct w 9999 t _ _ (by rw [hfo]; exact hu) hc.1, hfo]
                      exact eqFields_sound fs.toList 0 ks hks vs us xs ys _ hv hu' (by simpa using hb)
                · cases hce
    · cases hce

theorem s_unOp {o : Oper} {q : AOp} {op : _} {t : _} {x : _} (hop : o.op = .unOp op t x) (hq : cOp T o = some q) (hs : St T.L g w H) (hr : RepT T.L g n a.tmps e) (h : stepOp T.L q e H K KP) : Good T.L g K KP ((execOp a.eval o).run T.L.P w) := by
  simp only [cOp, hop] at hq; obtain ⟨ax, h1, rfl⟩ := map_some hq; simp only [execOp, hop]
  simp only [stepOp] at h
  cases hb : evUn op (ev e ax) with
  | none => simp only [hb] at h
  | some r =>
    simp only [hb] at h
    obtain ⟨z, k1, k2⟩ := evUn_sound (P := T.L.P) (w := w) hb (cX_rep h1 hr)
    exact good_run k1 (good_value hs k2 h)

theorem bytes_rep {g : Ghost} {src : TypeId} {el : TypeId} (hsu : T.L.P.underlying src = some (.slice el)) (hel : T.L.P.underlying el = some (.int .u8)) {dst : TypeId} (hdu : T.L.P.underlying dst = some .string) (hs : St T.L g w H) {v : Value} {xs : List AVal} {tk : Tok} {s : List UInt8} (hr : Rep T.L g v (.lst xs tk)) (hb : bytesA xs = some s) :
    (convert src dst v).run T.L.P w = .ok (.string ⟨s.toArray⟩) w := by
  obtain ⟨ad, c, k, b, off, vs, rfl, ha, hf, hk, hc, ht, hrep⟩ := lst_inv hr
  have hxs := bytesA_eq xs s hb
  subst hxs
  have hvs := byteL_inv hrep
  have hln : (byteL s).length = s.length := by simp [byteL]
  cases s with
  | nil =>
    cases ad with
    | none => exact run_convert_bytes_nil w src el hsu hel _ _ dst hdu
    | some ad =>
      rw [run_convert_bytes_string w src dst el _ _ _ hsu hel hdu]
      have := run_bytesToString (P := T.L.P) w ad 0 c [] (by simp [loadCells, loadCellsFrom])
      exact this
  | cons x s =>
    have had := ha (by simp [byteL])
    subst had
    have := run_convert_bytes_arg (P := T.L.P) w src el hsu hel b off (byteL (x :: s)).length c ((x :: s).map fun b => (b.toNat : Int)) (by rw [List.length_map, hln]) (fun i hi => ?_) dst hdu
    · have e2 : strOfNums ((x :: s).map fun b : UInt8 => (b.toNat : Int)) = ⟨(x :: s).toArray⟩ := by
        have e3 : ∀ l : List UInt8, (l.map fun b : UInt8 => (b.toNat : Int)).map (fun n => UInt8.ofNat n.toNat) = l := by
          intro l
          induction l with
          | nil => rfl
          | cons b l ih => simp only [List.map_cons, ih]; simp
        unfold strOfNums
        rw [e3]
      rw [this, e2]
    · rw [hln] at hi
      refine hs.fz _ _ _ (hf i _ ?_)
      rw [hvs]
      simp only [List.getElem?_map, List.getElem?_eq_getElem hi, Option.map_some, List.getD_eq_getElem?_getD, Option.getD_some]

theorem bytes_arr {g : Ghost} {src : TypeId} {el : TypeId} (hsu : T.L.P.underlying src = some (.slice el)) (hel : T.L.P.underlying el = some (.int .u8)) {dst : TypeId} (hdu : T.L.P.underlying dst = some .string) (hs : St T.L g w H) {v : Value} {id k off len : Nat} {cs : List AVal} {tt : Nat} {s : List UInt8}
    (hr : Rep T.L g v (.arr id k off len)) (hH : H[id]? = some (.cells cs tt)) (hle : off + len ≤ cs.length) (hb : bytesA ((cs.drop off).take len) = some s) :
    (convert src dst v).run T.L.P w = .ok (.string ⟨s.toArray⟩) w := by
  cases hr with
  | arr _ _ _ _ c sp h h0 hc =>
    obtain ⟨s0, row, e1, e2, e3, e4, _⟩ := hs.obj id _ hH
    rw [h] at e1
    cases e1
    have hxs := bytesA_eq _ s hb
    have hrep := (e4.drop off).take len
    rw [hxs, ← byteL_flat] at hrep
    have hvs := byteL_inv hrep
    have hln : s.length = len := by
      have : (byteL s).length = s.length := by simp [byteL]
      rw [← this, ← hxs]; simp; omega
    have hcell : ∀ i, i < len → w.cell? ⟨sp.b, off + i, none⟩ = some (.int .u8 ((s.map fun b => (b.toNat : Int)).getD i 0)) := fun i hi => by
      have h1 : ((row.toList.drop off).take len)[i]? = some (.int .u8 ((s.map fun b => (b.toNat : Int)).getD i 0)) := by
        rw [hvs]
        simp only [List.getElem?_map, List.getElem?_eq_getElem (show i < s.length by omega), Option.map_some, List.getD_eq_getElem?_getD, Option.getD_some]
      rw [List.getElem?_take, if_pos hi, List.getElem?_drop] at h1
      simp only [World.cell?, e3]
      simpa using h1
    have := run_convert_bytes_arg (P := T.L.P) w src el hsu hel sp.b off len c (s.map fun b => (b.toNat : Int)) (by rw [List.length_map, hln]) hcell dst hdu
    have e2 : strOfNums (s.map fun b : UInt8 => (b.toNat : Int)) = ⟨s.toArray⟩ := by
      have e3 : ∀ l : List UInt8, (l.map fun b : UInt8 => (b.toNat : Int)).map (fun n => UInt8.ofNat n.toNat) = l := by
        intro l
        induction l with
        | nil => rfl
        | cons b l ih => simp only [List.map_cons, ih]; simp
      unfold strOfNums
      rw [e3]
    rw [this, e2]

theorem reps {L : Lnk} {v : Value} {x : AVal} (h : Rep L g v x) : ∀ n, RepL L g (List.replicate n v) (List.replicate n x)
  | 0 => .nil
  | n + 1 => .cons _ _ _ _ h (reps h n)
theorem madeCells_one (v : Value) (n : Nat) : (madeCells #[v] n).toList = List.replicate n v := by
  simp only [madeCells, Array.toList_map, Array.toList_range]
  apply List.ext_getElem
  · simp
  · intro i h1 h2
    simp [Nat.mod_one]

theorem s_makeSlice {o : Oper} {q : AOp} {t : _} {x y : _} (hop : o.op = .makeSlice t x y) (hq : cOp T o = some q) (hs : St T.L g w H) (hr : RepT T.L g n a.tmps e) (h : stepOp T.L q e H K KP) : Good T.L g K KP ((execOp a.eval o).run T.L.P w) := by
  simp only [cOp, hop] at hq
  simp only [execOp, hop]
  cases x <;> cases y <;> simp only at hq <;> try (cases hq; done)
  rename_i i j
  split at hq
  · rename_i hij
    subst hij
    cases hu : T.L.P.underlying t with
    | none => simp only [hu] at hq; cases hq
    | some d =>
      cases d <;> simp only [hu] at hq <;> try (cases hq; done)
      rename_i el
      cases hi : T.L.P.info? el with
      | none => simp only [hi] at hq; cases hq
      | some inf =>
        cases htt : T.ty el with
        | none => simp only [hi, htt] at hq; cases hq
        | some te =>
          simp only [hi, htt] at hq
          cases hz : inf.zero with
          | none => simp only [hz] at hq; cases hq
          | some z =>
            simp only [hz] at hq
            split at hq
            · rename_i hc
              obtain ⟨c1, c2, c3⟩ := hc
              cases hzs : cScals z.cells.toList with
              | none => simp only [hzs] at hq; cases hq
              | some zs =>
                match zs, hzs with
                | [], hzs => simp only [hzs] at hq; cases hq
                | _ :: _ :: _, hzs => simp only [hzs] at hq; cases hq
                | [av], hzs =>
                  simp only [hzs] at hq
                  cases hq
                  have hrep : RepL T.L g z.cells.toList [av] := cScals_rep hzs
                  obtain ⟨v0, hv0⟩ : ∃ v0, z.cells.toList = [v0] := by
                    have hl := hrep.length
                    match hzl : z.cells.toList, hl with
                    | [v0], _ => exact ⟨v0, rfl⟩
                  have hzc : z.cells = #[v0] := by
                    apply Array.ext'
                    rw [hv0]
                  rw [hv0] at hrep
                  have hr0 : Rep T.L g v0 av := by cases hrep with | cons _ _ _ _ h _ => exact h
                  simp only [stepOp] at h
                  have hri := hr.rep i
                  have hev : ev e (.tmp i) = e i := rfl
                  rw [hev] at h
                  cases hei : e i <;> simp only [hei] at h
                  rename_i kk m
                  rw [hei] at hri
                  have hval := rep_int hri
                  obtain ⟨⟨h0, h40⟩, h⟩ := h
                  have hrun := run_make (P := T.L.P) w t el inf z hu hi hz kk kk m m h0 (Int.le_refl _) (by
                    have : (inf.bytes : Int) * m ≤ 256 * 2 ^ 40 := Int.mul_le_mul (by omega) h40 h0 (by decide)
                    omega) (by omega)
                  obtain ⟨g', k1, k2, k3⟩ := hs.box (madeCells z.cells (m.toNat * inf.size)) te (List.replicate m.toNat av) (by
                    rw [hzc, c1, Nat.mul_one, madeCells_one]
                    exact reps hr0 _)
                  rw [Tab.ty_eq htt] at k2
                  have hsp : ∃ sp : Spot, g'.ob H.length 0 = some sp ∧ sp.s = 0 ∧ sp.b = w.heap.size := by
                    generalize hvp : Value.pointer (some ⟨w.heap.size, 0, none⟩) = vp at k3
                    cases k3 with
                    | ptr _ _ sp q1 q2 =>
                      injection hvp with hvp
                      injection hvp with hvp
                      injection hvp with hvp
                      exact ⟨sp, q1, q2, hvp.symm⟩
                  obtain ⟨sp, q1, q2, q3⟩ := hsp
                  refine good_run (w' := w.alloc (.cells (madeCells z.cells (m.toNat * inf.size)) el)) (v := .slice (some ⟨w.heap.size, 0, none⟩) m.toNat m.toNat) ?_ ⟨_, _, g', h, k1, k2, ?_⟩
                  · show (Instr.makeSlice t (a.eval (.tmp i)) (a.eval (.tmp i))).run T.L.P w = _
                    rw [show a.eval (.tmp i) = a.tmps.getD i undef from rfl, hval]
                    exact hrun
                  · rw [← q3]
                    exact .arr H.length 1 0 m.toNat m.toNat sp q1 q2 (Nat.le_refl _)
            · cases hq
  · cases hq

theorem s_convert {o : Oper} {q : AOp} {s : _} {d : _} {x : _} (hop : o.op = .convert s d x) (hq : cOp T o = some q) (hs : St T.L g w H) (hr : RepT T.L g n a.tmps e) (h : stepOp T.L q e H K KP) : Good T.L g K KP ((execOp a.eval o).run T.L.P w) := by
  simp only [cOp, hop] at hq; simp only [execOp, hop]
  cases hsu : T.L.P.underlying s with
  | none => simp only [hsu] at hq; cases hq
  | some ds =>
    cases hdu : T.L.P.underlying d with
    | none => simp only [hsu, hdu] at hq; cases ds <;> cases hq
    | some dd =>
      cases hx : cX T x with
      | none => simp only [hsu, hdu, hx] at hq; cases ds <;> cases dd <;> cases hq
      | some ax =>
        have hrx := cX_rep hx hr
        have hint : ∀ k, dd = .int k → q = .convInt k ax → Good T.L g K KP ((do pure (Next.value (← Go.convert s d (a.eval x))) : Sem Next).run T.L.P w) := by
          rintro k rfl rfl
          simp only [stepOp] at h
          cases hb : ev e ax <;> simp only [hb] at h
          rw [hb] at hrx
          refine good_run (w' := w) ?_ (good_value hs (.int _ _) h)
          rw [rep_int hrx]
          unfold Go.convert
          simp [run_underlying hsu, run_underlying hdu, Conv.intToInt]
        have hstr : dd = .string → q = .convStr ax → Good T.L g K KP ((do pure (Next.value (← Go.convert s d (a.eval x))) : Sem Next).run T.L.P w) := by
          rintro rfl rfl
          simp only [stepOp] at h
          cases hb : ev e ax <;> simp only [hb] at h
          rw [hb] at hrx
          refine good_run (w' := w) ?_ (good_value hs (.str _) h)
          rw [rep_str hrx]
          unfold Go.convert
          simp [run_underlying hsu, run_underlying hdu]
        cases dd with
        | int k => cases ds <;> simp only [hsu, hdu, hx] at hq <;> cases hq <;> exact hint k rfl rfl
        | string =>
          cases ds with
          | slice el =>
            simp only [hsu, hdu, hx] at hq
            cases hel : T.L.P.underlying el with
            | none => simp only [hel] at hq; cases hq
            | some de =>
              cases de with
              | int ki =>
                cases ki <;> simp only [hel] at hq <;> try (cases hq; done)
                split at hq
                · cases hq
                  simp only [stepOp] at h
                  cases hb : ev e ax <;> simp only [hb] at h
                  rename_i id k off len
                  cases hH : H[id]? with
                  | none => rw [hH] at h; exact h.elim
                  | some ob =>
                    cases ob <;> simp only [hH] at h
                    rename_i cs tt
                    obtain ⟨hle, h⟩ := h
                    cases hb2 : bytesA ((cs.drop off).take len) <;> simp only [hb2] at h
                    rw [hb] at hrx
                    exact good_run (bytes_arr hsu hel hdu hs hrx hH hle hb2) (good_value hs (.str _) h)
                · cases hq
                  simp only [stepOp] at h
                  cases hb : ev e ax <;> simp only [hb] at h
                  rename_i xs tk
                  cases hb2 : bytesA xs <;> simp only [hb2] at h
                  rw [hb] at hrx
                  exact good_run (bytes_rep hsu hel hdu hs hrx hb2) (good_value hs (.str _) h)
              | _ => simp only [hel] at hq; cases hq
          | _ => simp only [hsu, hdu, hx] at hq <;> cases hq <;> exact hstr rfl rfl
        | _ => cases ds <;> simp only [hsu, hdu, hx] at hq <;> cases hq

theorem s_makeInterface {o : Oper} {q : AOp} {t : _} {x : _} (hop : o.op = .makeInterface t x) (hq : cOp T o = some q) (hs : St T.L g w H) (hr : RepT T.L g n a.tmps e) (h : stepOp T.L q e H K KP) : Good T.L g K KP ((execOp a.eval o).run T.L.P w) := by
  simp only [cOp, hop] at hq; simp only [execOp, hop]
  cases hu : T.L.P.underlying t with
  | none => simp only [hu] at hq; cases hq
  | some d =>
    cases ht : T.ty t with
    | none => cases d <;> simp only [hu, ht] at hq <;> cases hq
    | some tt =>
      cases hx : cX T x with
      | none => cases d <;> simp only [hu, ht, hx] at hq <;> cases hq
      | some ax =>
        have htt : t = T.L.ty tt := by
          unfold Tab.ty at ht
          split at ht
          · rename_i hh; cases ht; exact hh.symm
          · cases ht
        have hg : Good T.L g K KP (.ok (.value (.iface t (a.eval x))) w) → Good T.L g K KP ((do pure (Next.value (← Instr.makeInterface t (a.eval x))) : Sem Next).run T.L.P w) := by
          refine fun hh => good_run ?_ hh
          unfold Instr.makeInterface
          rw [Sem.run_bind, run_underlying hu]
          cases d <;> first | rfl | (simp only [hu, ht, hx] at hq; cases hq)
        have hq' : q = .mkI tt ax := by cases d <;> simp only [hu, ht, hx] at hq <;> cases hq <;> rfl
        subst hq'
        refine hg (good_value hs ?_ h)
        rw [htt]
        exact .iface _ _ _ (cX_rep hx hr)

theorem s_makeFunc {o : Oper} {q : AOp} {fn : _} {fi : _} {ca : _} (hop : o.op = .makeFunc fn fi ca) (hq : cOp T o = some q) (hs : St T.L g w H) (hr : RepT T.L g n a.tmps e) (h : stepOp T.L q e H K KP) : Good T.L g K KP ((execOp a.eval o).run T.L.P w) := by
  cases fn <;> simp only [cOp, hop] at hq <;> try (cases hq; done)
  rename_i f
  simp only [execOp, hop]
  cases hf : T.fn f with
  | none => simp only [hf] at hq; cases hq
  | some k =>
    cases h1 : cXs T fi.toList <;> cases h2 : cXs T ca.toList <;> simp only [hf, h1, h2] at hq <;> cases hq
    rename_i afi aca
    refine good_run (w' := w) (v := .func (.func f) (fi.map a.eval) (ca.map a.eval)) rfl (good_value hs ?_ h)
    have := Rep.fn (L := T.L) (g := g) (.func f) (.func k) _ _ _ _ (Tab.fn_callable hf) (cXs_rep h1 hr) (cXs_rep h2 hr)
    rw [← Array.toList_map, ← Array.toList_map] at this
    exact this

theorem s_fieldAddr {o : Oper} {q : AOp} {t : _} {x : _} {f : _} (hop : o.op = .fieldAddr t x f) (hq : cOp T o = some q) (hs : St T.L g w H) (hr : RepT T.L g n a.tmps e) (h : stepOp T.L q e H K KP) : Good T.L g K KP ((execOp a.eval o).run T.L.P w) := by
  simp only [cOp, hop] at hq; simp only [execOp, hop]
  cases hu : T.L.P.underlying t with
  | none => simp only [hu] at hq; cases hq
  | some d =>
    cases hx : cX T x with
    | none => cases d <;> simp only [hu, hx] at hq <;> cases hq
    | some ax =>
      cases d <;> simp only [hu, hx] at hq <;> try (cases hq; done)
      rename_i fs
      cases hfd : fs[f]? with
      | none => simp only [hfd] at hq; cases hq
      | some fd =>
        simp only [hfd] at hq
        cases hi : T.L.P.info? fd.type with
        | none => simp only [hi] at hq; cases hq
        | some i =>
          simp only [hi] at hq
          split at hq
          · cases hq
          · rename_i hsz
            cases hq
            have hrx := cX_rep hx hr
            simp only [stepOp] at h
            have hrun : ∀ b o, a.eval x = .pointer (some ⟨b, o, none⟩) → (Instr.fieldAt t (a.eval x) f).run T.L.P w = .ok (.pointer (some ⟨b, o + fd.offset, none⟩)) w := by
              intro b o hv
              rw [hv]
              unfold Instr.fieldAt
              simp [run_underlying hu, hfd, Instr.sureAddr, fieldPlace, sizeOf, typeInfo, hi, hsz, addr_add]
            cases hb : ev e ax <;> simp only [hb] at h
            · rename_i id off
              rw [hb] at hrx
              generalize hv : a.eval x = v at hrx hrun ⊢
              cases hrx with
              | ptr _ _ s h1 h2 => exact good_run (hrun s.b off rfl) (good_value hs (.ptr _ _ s h1 h2) h)
            · rw [hb] at hrx
              generalize hv : a.eval x = v at hrx hrun ⊢
              cases hrx with
              | lptr b o vs cs hf hr' =>
                refine good_run (hrun b o rfl) (good_value hs (.lptr b (o + fd.offset) (vs.drop fd.offset) _ (fun j u hu => ?_) (hr'.drop fd.offset)) h.2)
                rw [List.getElem?_drop] at hu
                have := hf _ _ hu
                rwa [← Nat.add_assoc] at this

theorem xo_match {lo : Option Operand} {alo : Option AX} (h : cXo T lo = some alo) (hr : RepT T.L g n a.tmps e) {d l : Nat} (hb : boundI (alo.map (ev e)) d = some l) :
    boundV (lo.map a.eval) d l := boundI_sound hb (cXo_rep h hr)

theorem s_slice {o : Oper} {q : AOp} {t : _} {x : _} {lo hi mx : _} (hop : o.op = .slice t x lo hi mx) (hq : cOp T o = some q) (hs : St T.L g w H) (hr : RepT T.L g n a.tmps e) (h : stepOp T.L q e H K KP) : Good T.L g K KP ((execOp a.eval o).run T.L.P w) := by
  cases mx <;> simp only [cOp, hop] at hq <;> try (cases hq; done)
  simp only [execOp, hop]
  cases hu : T.L.P.underlying t with
  | none => simp only [hu] at hq; cases hq
  | some d =>
    cases hx : cX T x with
    | none => cases d <;> simp only [hu, hx] at hq <;> cases hq
    | some ax =>
      cases h1 : cXo T lo with
      | none => cases d <;> simp only [hu, hx, h1] at hq <;> cases hq
      | some alo =>
        cases h2 : cXo T hi with
        | none => cases d <;> simp only [hu, hx, h1, h2] at hq <;> cases hq
        | some ahi =>
          have hrx := cX_rep hx hr
          cases d <;> simp only [hu, hx, h1, h2] at hq <;> try (cases hq; done)
          · cases hq
            simp only [stepOp] at h
            cases hb : ev e ax <;> simp only [hb] at h
            rename_i s
            rw [hb] at hrx
            cases hl : boundI (alo.map (ev e)) 0 <;> simp only [hl] at h
            cases hh : boundI (ahi.map (ev e)) s.length <;> simp only [hh] at h
            obtain ⟨k1, k2, k3⟩ := h
            have hrun := slice_str_run (P := T.L.P) (w := w) hu (xo_match h1 hr hl) (xo_match h2 hr hh) k1 k2
            rw [rep_str hrx]
            exact good_run hrun (good_value hs (.str _) k3)
          · rename_i el
            obtain ⟨i, hi', rfl⟩ := map_some hq
            simp only [stepOp] at h
            cases hb : ev e ax <;> simp only [hb] at h
            rename_i xs tk
            rw [hb] at hrx
            cases hl : boundI (alo.map (ev e)) 0 <;> simp only [hl] at h
            cases hh : boundI (ahi.map (ev e)) xs.length <;> simp only [hh] at h
            rename_i l m
            obtain ⟨k1, k2, k3, k4⟩ := h
            obtain ⟨ad, c, k, b, off, vs, hv, ha, hf, hk, hc, ht, hrep⟩ := lst_inv hrx
            have hrun := slice_lst_run (P := T.L.P) (w := w) (x := ad) hu hi' (xo_match h1 hr hl) (xo_match h2 hr hh) k1 k2 hc
            rw [hv]
            refine good_run hrun (good_value hs ?_ k4)
            by_cases hfull : l = 0 ∧ m = xs.length
            · obtain ⟨rfl, rfl⟩ := hfull
              have e1 : (if c = 0 then ad else ad.map (·.add (0 * i.size))) = ad := by
                split
                · rfl
                · cases ad <;> simp [Addr.add]
              rw [e1, if_pos ⟨rfl, rfl⟩, List.take_length, List.drop_zero]
              exact .lst ad c k b off xs vs tk ha hf hk hc ht hrep
            · rw [if_neg hfull]
              have hlen : ((xs.take m).drop l).length = m - l := by simp; omega
              have hsz : ∀ y ∈ xs, y.cells.length = i.size := k3.len
              have hfl : flat ((xs.take m).drop l) = ((flat xs).take (m * i.size)).drop (l * i.size) := by
                have g1 : ∀ (ys : List AVal), (∀ y ∈ ys, y.cells.length = i.size) → ∀ j, flat (ys.take j) = (flat ys).take (j * i.size) := by
                  intro ys
                  induction ys with
                  | nil => intro _ j; simp [flat]
                  | cons y ys ih =>
                    intro hy j
                    cases j with
                    | zero => simp [flat]
                    | succ j =>
                      rw [List.take_succ_cons, flat_cons, flat_cons, ih (fun z hz => hy z (by simp [hz])) j, Nat.succ_mul, Nat.add_comm]
                      have := hy y (by simp)
                      rw [List.take_append, List.take_of_length_le (l := y.cells) (by omega), this, Nat.add_sub_cancel_left]
                have g2 : ∀ (ys : List AVal), (∀ y ∈ ys, y.cells.length = i.size) → ∀ j, flat (ys.drop j) = (flat ys).drop (j * i.size) := by
                  intro ys
                  induction ys with
                  | nil => intro _ j; simp [flat]
                  | cons y ys ih =>
                    intro hy j
                    cases j with
                    | zero => simp [flat]
                    | succ j =>
                      rw [List.drop_succ_cons, flat_cons, ih (fun z hz => hy z (by simp [hz])) j, Nat.succ_mul, Nat.add_comm, ← List.drop_drop]
                      have := hy y (by simp)
                      rw [← this, List.drop_left]
                rw [g2 _ (fun y hy => hsz y (List.mem_of_mem_take hy)), g1 _ hsz]
              have hrep' : RepL T.L g ((vs.take (m * i.size)).drop (l * i.size)) (flat ((xs.take m).drop l)) := by rw [hfl]; exact (hrep.take _).drop _
              have := Rep.lst (L := T.L) (g := g) (if c = l then ad else ad.map (·.add (l * i.size))) (c - l) i.size b (off + l * i.size) ((xs.take m).drop l) _ .none (fun hne => by
                  have hxn : xs ≠ [] := fun e0 => by subst e0; simp at hne
                  have hlc : c ≠ l := fun e0 => by
                    apply hne
                    apply List.eq_nil_of_length_eq_zero
                    rw [hlen]; omega
                  rw [ha hxn, if_neg hlc]
                  simp [addr_add]) (fun j u hu' => by
                  rw [List.getElem?_drop, List.getElem?_take] at hu'
                  split at hu'
                  · have := hf _ _ hu'
                    rwa [← Nat.add_assoc] at this
                  · cases hu') (fun y hy => hsz y (List.mem_of_mem_take (List.mem_of_mem_drop hy))) (by rw [hlen]; omega) trivial hrep'
              rw [hlen] at this
              exact this

theorem s_field {o : Oper} {q : AOp} {t : _} {x : _} {f : _} (hop : o.op = .field t x f) (hq : cOp T o = some q) (hs : St T.L g w H) (hr : RepT T.L g n a.tmps e) (h : stepOp T.L q e H K KP) : Good T.L g K KP ((execOp a.eval o).run T.L.P w) := by
  simp only [cOp, hop] at hq
  simp only [execOp, hop]
  cases hu : T.L.P.underlying t with
  | none => simp only [hu] at hq; cases hq
  | some d =>
    cases hx : cX T x with
    | none => cases d <;> simp only [hu, hx] at hq <;> cases hq
    | some ax =>
      cases d <;> simp only [hu, hx] at hq <;> try (cases hq; done)
      rename_i fs
      cases hfd : fs[f]? with
      | none => simp only [hfd] at hq; cases hq
      | some fd =>
        simp only [hfd] at hq
        obtain ⟨k, hk, rfl⟩ := map_some hq
        have hrx := cX_rep hx hr
        simp only [stepOp] at h
        cases hb : ev e ax <;> simp only [hb] at h
        rename_i cs
        rw [hb] at hrx
        generalize hv : a.eval x = v at hrx ⊢
        cases hrx with
        | agg vs _ hrep =>
          cases k with
          | none =>
            dsimp only at h
            obtain ⟨dd, e1, e2, e3⟩ := agg_none hk
            cases hc : cs[fd.offset]? with
            | none => simp only [hc] at h
            | some c =>
              simp only [hc] at h
              obtain ⟨u, hu', hru⟩ := hrep.at _ _ hc
              refine good_run (w' := w) (v := u) ?_ (good_value hs hru h)
              have hagg : (isAgg fd.type).run T.L.P w = .ok false w := by
                unfold isAgg
                rw [Sem.run_bind, run_underlying e1]
                cases dd <;> first | rfl | exact absurd rfl (e2 _) | exact absurd rfl (e3 _ _)
              unfold Instr.field
              simp [run_underlying hu, hfd, asAgg, part, hagg, hu']
          | some k =>
            obtain ⟨dd, i, e1, e2, e3, e4⟩ := agg_some hk
            obtain ⟨h1, h2⟩ := h
            have hagg : (isAgg fd.type).run T.L.P w = .ok true w := by
              unfold isAgg
              rw [Sem.run_bind, run_underlying e1]
              rcases e2 with ⟨fs', rfl⟩ | ⟨m, el, rfl⟩ <;> rfl
            refine good_run (w' := w) (v := .agg (vs.toArray.extract fd.offset (fd.offset + k))) ?_ (good_value hs ?_ h2)
            · unfold Instr.field
              simp [run_underlying hu, hfd, asAgg, part, hagg, sizeOf, typeInfo, e3, e4]
            · have := Rep.agg _ _ ((hrep.drop fd.offset).take k)
              have e5 : vs.toArray.extract fd.offset (fd.offset + k) = ((vs.drop fd.offset).take k).toArray := by
                apply Array.ext'
                simp
              rw [e5]; exact this

theorem flat_elem {k : Nat} : ∀ (xs : List AVal) (i : Nat) (y : AVal), (∀ x ∈ xs, x.cells.length = k) → xs[i]? = some y → ((flat xs).drop (i * k)).take k = y.cells
  | [], i, y, _, h => by simp at h
  | x :: xs, 0, y, hk, h => by
    simp at h
    subst h
    rw [flat_cons]
    have := hk x (by simp)
    simp [← this]
  | x :: xs, i + 1, y, hk, h => by
    have hx := hk x (by simp)
    rw [flat_cons, Nat.succ_mul, Nat.add_comm, ← List.drop_drop, ← hx, List.drop_left, hx]
    exact flat_elem xs i y (fun z hz => hk z (by simp [hz])) (by simpa using h)

theorem s_indexAddr {o : Oper} {q : AOp} {t : _} {x i : _} (hop : o.op = .indexAddr t x i) (hq : cOp T o = some q) (hs : St T.L g w H) (hr : RepT T.L g n a.tmps e) (h : stepOp T.L q e H K KP) : Good T.L g K KP ((execOp a.eval o).run T.L.P w) := by
  simp only [cOp, hop] at hq
  simp only [execOp, hop]
  cases hu : T.L.P.underlying t with
  | none => simp only [hu] at hq; cases hq
  | some d =>
    cases hx : cX T x with
    | none => cases d <;> simp only [hu, hx] at hq <;> cases hq
    | some ax =>
      cases hi : cX T i with
      | none => cases d <;> simp only [hu, hx, hi] at hq <;> cases hq
      | some ai =>
        cases d <;> simp only [hu, hx, hi] at hq <;> try (cases hq; done)
        rename_i el
        obtain ⟨inf, hinf, rfl⟩ := map_some hq
        have hrx := cX_rep hx hr
        have hri := cX_rep hi hr
        simp only [stepOp] at h
        cases hb : ev e ax <;> cases hb2 : ev e ai <;> simp only [hb, hb2] at h
        case arr.int id k' off len kk m =>
          obtain ⟨⟨h0, hlt, _, hk1⟩, h⟩ := h
          rw [hb] at hrx
          rw [hb2] at hri
          generalize hvx : a.eval x = vx at hrx
          cases hrx with
          | arr _ _ _ _ c sp q1 q2 q3 =>
            rw [rep_int hri]
            refine good_run (w' := w) (v := .pointer (some ⟨sp.b, off + m.toNat, none⟩)) ?_ (good_value hs (.ptr id (off + m.toNat) sp q1 q2) h)
            unfold Instr.indexAt
            simp [asIntOf, run_underlying hu, h0, hlt, sizeOf, typeInfo, hinf, addr_add, hk1]
        rename_i xs tk kk m
        obtain ⟨h0, h⟩ := h
        cases hy : xs[m.toNat]? with
        | none => simp only [hy] at h
        | some y =>
          simp only [hy] at h
          obtain ⟨hk1, h⟩ := h
          rw [hb] at hrx
          rw [hb2] at hri
          obtain ⟨ad, c, k, b, off, vs, hv, ha, hf, hk, hc, ht, hrep⟩ := lst_inv hrx
          have hm : m.toNat < xs.length := by
            rcases Nat.lt_or_ge m.toNat xs.length with h' | h'
            · exact h'
            · rw [List.getElem?_eq_none h'] at hy; cases hy
          have hkk : k = inf.size := (hk y (List.mem_of_getElem? hy)).symm.trans hk1
          have had := ha (fun e0 => by subst e0; simp at hm)
          rw [hv, rep_int hri, had]
          refine good_run (w' := w) (v := .pointer (some ⟨b, off + m.toNat * inf.size, none⟩)) ?_ (good_value hs ?_ h)
          · have hlt : m < (xs.length : Int) := by omega
            unfold Instr.indexAt
            simp [asIntOf, run_underlying hu, h0, hlt, sizeOf, typeInfo, hinf, addr_add]
          · have hfe := flat_elem xs m.toNat y hk hy
            refine .lptr b (off + m.toNat * inf.size) ((vs.drop (m.toNat * inf.size)).take inf.size) _ (fun j u hu' => ?_) ?_
            · rw [List.getElem?_take] at hu'
              split at hu'
              · rw [List.getElem?_drop] at hu'
                have := hf _ _ hu'
                rwa [← Nat.add_assoc] at this
              · cases hu'
            · rw [← hfe, hkk]
              exact (hrep.drop _).take _

theorem s_index {o : Oper} {q : AOp} {t : _} {x i : _} (hop : o.op = .index t x i) (hq : cOp T o = some q) (hs : St T.L g w H) (hr : RepT T.L g n a.tmps e) (h : stepOp T.L q e H K KP) : Good T.L g K KP ((execOp a.eval o).run T.L.P w) := by
  simp only [cOp, hop] at hq
  simp only [execOp, hop]
  cases hu : T.L.P.underlying t with
  | none => simp only [hu] at hq; cases hq
  | some d =>
    cases hx : cX T x with
    | none => cases d <;> simp only [hu, hx] at hq <;> cases hq
    | some ax =>
      cases hi : cX T i with
      | none => cases d <;> simp only [hu, hx, hi] at hq <;> cases hq
      | some ai =>
        cases d <;> simp only [hu, hx, hi] at hq <;> try (cases hq; done)
        cases hq
        have hrx := cX_rep hx hr
        have hri := cX_rep hi hr
        simp only [stepOp] at h
        cases hb : ev e ax <;> cases hb2 : ev e ai <;> simp only [hb, hb2] at h
        rename_i s kk m
        obtain ⟨h0, h⟩ := h
        cases hy : s[m.toNat]? with
        | none => simp only [hy] at h
        | some y =>
          simp only [hy] at h
          rw [hb] at hrx
          rw [hb2] at hri
          rw [rep_str hrx, rep_int hri]
          refine good_run (w' := w) (v := .int .u8 y.toNat) ?_ (good_value hs (.int _ _) h)
          have hget : (⟨s.toArray⟩ : ByteArray)[m.toNat]? = some y := by
            have hm : m.toNat < s.length := by
              rcases Nat.lt_or_ge m.toNat s.length with h' | h'
              · exact h'
              · rw [List.getElem?_eq_none h'] at hy; cases hy
            rw [Go.ByteArray.getElem?_lt' _ _ (by simpa [ByteArray.size] using hm)]
            rw [List.getElem?_eq_getElem hm] at hy
            rw [← hy]
            congr 1
          unfold Instr.index
          simp [asIntOf, run_underlying hu, h0, hget]

theorem s_extract {o : Oper} {q : AOp} {x : _} {i : _} (hop : o.op = .extract x i) (hq : cOp T o = some q) (hs : St T.L g w H) (hr : RepT T.L g n a.tmps e) (h : stepOp T.L q e H K KP) : Good T.L g K KP ((execOp a.eval o).run T.L.P w) := by
  simp only [cOp, hop] at hq
  obtain ⟨ax, h1, rfl⟩ := map_some hq
  simp only [execOp, hop]
  have hrx := cX_rep h1 hr
  simp only [stepOp] at h
  cases hb : ev e ax <;> simp only [hb] at h
  rename_i vs
  rw [hb] at hrx
  cases hv : vs[i]? with
  | none => simp only [hv] at h
  | some y =>
    simp only [hv] at h
    generalize a.eval x = v at hrx ⊢
    cases hrx with
    | tup us _ hrep =>
      obtain ⟨u, hu, hru⟩ := hrep.at _ _ hv
      refine good_run (w' := w) (v := u) ?_ (good_value hs hru h)
      unfold Instr.extract
      simp [hu]

end Go.Ag
