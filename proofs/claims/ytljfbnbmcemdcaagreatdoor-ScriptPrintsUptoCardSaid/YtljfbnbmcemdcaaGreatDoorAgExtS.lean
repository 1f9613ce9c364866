/- Package script's part of the library: from the machine's contracts to abstract ones. -/
import Derived.Test.YtljfbnbmcemdcaaGreatDoorAgLibS
import Derived.Test.YtljfbnbmcemdcaaGreatDoorAgScript7
import Derived.Test.YtljfbnbmcemdcaaGreatDoorAgExt
import Derived.Lib.AppendIntMem
import Derived.Lib.AtoiErrMem
set_option linter.unusedVariables false
namespace Go.Ag
open Go
open Go.RowKit (Below)

variable {L : Lnk}

/-- The machine's contracts. -/
structure ScriptMach (L : Lnk) where
  gMax : Nat
  gSyn : Nat
  gRng : Nat
  errT : Nat
  splitT : TypeId
  indexByte : ∀ (s : ByteArray) (c : Int) (w : World), Calls L.P (L.num 49) #[.string s, .int .u8 c] w fun e w' => e = .returned (.int .i64 (Lib.indexByte s.data.toList c.toNat.toUInt8)) ∧ w' = w
  index : ∀ (b off n c : Nat) (zs : List ByteArray) (x : ByteArray) (w : World), n ≤ zs.length → n ≤ 9223372036854775807 → (∀ j, j < zs.length → w.cell? ⟨b, off + j, none⟩ = some (.string (zs.getD j ByteArray.empty))) →
    Calls L.P (L.num 28) #[.slice (some ⟨b, off, none⟩) n c, .string x] w fun e w' => e = .returned (.int .i64 (Lib.idxOfS (zs.take n) x)) ∧ w' = w
  itoa : ∀ (n : Int) (w : World), -9223372036854775808 ≤ n → n ≤ 9223372036854775807 → Lib.TabIs L.P w "internal/strconv.uint64pow10" .u64 Lib.pow10Tab →
    Calls L.P (L.num 32) #[.int .i64 n] w fun e w' => e = .returned (.string ⟨(Lib.itoa n).toArray⟩) ∧ Below w.heap.size w w'
  atoiOk : ∀ (s : ByteArray) (v : Int) (w : World), s.size ≤ 9223372036854775806 → Lib.atoiAll s.data.toList = .ok v →
    Calls L.P (L.num 30) #[.string s] w fun e w' => e = .returned (.tuple #[.int .i64 v, .nilIface]) ∧ Below w.heap.size w w'
  atoiSyn : ∀ (s : ByteArray) (ev : Value) (w : World), s.size ≤ 281474976710656 → (∀ v, Lib.atoiAll s.data.toList ≠ .ok v) → Lib.atoiAll s.data.toList ≠ .range → w.cell? ⟨gSyn, 0, none⟩ = some ev → (ev = .nilIface ∨ ∃ te pe, ev = .iface te pe) →
    Calls L.P (L.num 30) #[.string s] w fun e w' => (∃ N, e = .returned (.tuple #[.int .i64 0, .iface (L.ty errT) (.pointer (some ⟨N, 0, none⟩))])) ∧ Below w.heap.size w w'
  atoiRng : ∀ (s : ByteArray) (ev : Value) (w : World), s.size ≤ 281474976710656 → Lib.atoiAll s.data.toList = .range → w.cell? ⟨gRng, 0, none⟩ = some ev → (ev = .nilIface ∨ ∃ te pe, ev = .iface te pe) →
    Calls L.P (L.num 30) #[.string s] w fun e w' => (∃ N, e = .returned (.tuple #[.int .i64 (Lib.atoiSat s.data.toList), .iface (L.ty errT) (.pointer (some ⟨N, 0, none⟩))])) ∧ Below w.heap.size w w'
  cut : ∀ (s sep : ByteArray) (m : Int) (w : World), s.size < 4294967281 → w.cell? ⟨gMax, 0, none⟩ = some (.int .i64 m) →
    Calls L.P (L.num 22) #[.string s, .string sep] w fun e w' => e = .returned (.tuple #[.string ⟨(Lib.cut s.data.toList sep.data.toList).1.toArray⟩, .string ⟨(Lib.cut s.data.toList sep.data.toList).2.1.toArray⟩, .bool (Lib.cut s.data.toList sep.data.toList).2.2]) ∧ ∃ n, w' = w.drewN n
  split : ∀ (s sep : ByteArray) (m : Int) (w : World), s.size < 4294967281 → w.cell? ⟨gMax, 0, none⟩ = some (.int .i64 m) → 1 ≤ sep.size →
    Calls L.P (L.num 23) #[.string s, .string sep] w fun e w' => e = .returned (.slice (some ⟨w.heap.size, 0, none⟩) (Lib.countB s sep + 1) (Lib.countB s sep + 1)) ∧ w' = w.alloc (.cells ((Lib.splitB sep 0 (Lib.countB s sep) s).map Value.string).toArray splitT)
  joinNone : ∀ (a : Option Addr) (c : Nat) (sep : ByteArray) (w : World), Calls L.P (L.num 20) #[.slice a 0 c, .string sep] w fun e w' => e = .returned (.string ⟨[].toArray⟩) ∧ Below w.heap.size w w'
  join : ∀ (bk o c : Nat) (xs : List ByteArray) (sep : ByteArray) (w : World), (∀ (j : Nat) x, xs[j]? = some x → w.cell? ⟨bk, o + j, none⟩ = some (.string x)) → bk < w.heap.size → xs.length ≤ 140737488355328 → xs.length ≤ c →
    (Lib.join (xs.map (·.data.toList)) sep.data.toList).length ≤ 140737488355328 →
    Calls L.P (L.num 20) #[.slice (some ⟨bk, o, none⟩) xs.length c, .string sep] w fun e w' => e = .returned (.string ⟨(Lib.join (xs.map (·.data.toList)) sep.data.toList).toArray⟩) ∧ Below w.heap.size w w'
  any : ∀ (s chars : ByteArray) (w : World), 2 ≤ chars.size → s.size < 4294967281 → chars.size < 4294967281 → (∀ (j : Nat) b, chars.data.toList[j]? = some b → b.toNat < 128) →
    Calls L.P (L.num 14) #[.string s, .string chars] w fun e w' => e = .returned (.bool (Lib.containsAny s.data.toList chars.data.toList)) ∧ Below w.heap.size w w'
  ccUsed : ∀ (b : Nat) (w : World), w.cell? ⟨b, 0, none⟩ = some (.pointer (some ⟨b, 0, none⟩)) → Calls L.P (L.num 35) #[.pointer (some ⟨b, 0, none⟩)] w fun e w' => e = .returned (.tuple #[]) ∧ w' = w
  ccFresh : ∀ (b : Nat) (w : World), w.cell? ⟨b, 0, none⟩ = some (.pointer none) → w.shape? b = some (L.ty 50, 2) → w.frozen? ⟨b, 0, none⟩ = false →
    Calls L.P (L.num 35) #[.pointer (some ⟨b, 0, none⟩)] w fun e w' => e = .returned (.tuple #[]) ∧ w' = w.setCell ⟨b, 0, none⟩ (.pointer (some ⟨b, 0, none⟩))
  st : ∀ w0 base, L.start w0 base → (gMax < base ∧ ∃ m, w0.cell? ⟨gMax, 0, none⟩ = some (.int .i64 m)) ∧ Lib.TabBelow L.P base w0 "internal/strconv.uint64pow10" .u64 Lib.pow10Tab ∧
    (gSyn < base ∧ ∃ ev, w0.cell? ⟨gSyn, 0, none⟩ = some ev ∧ (ev = .nilIface ∨ ∃ te pe, ev = .iface te pe)) ∧ (gRng < base ∧ ∃ ev, w0.cell? ⟨gRng, 0, none⟩ = some ev ∧ (ev = .nilIface ∨ ∃ te pe, ev = .iface te pe))

theorem arr_size (s : List UInt8) : (⟨s.toArray⟩ : ByteArray).size = s.length := by show s.toArray.size = _; simp

theorem repL_strs {g : Ghost} {vs : List Value} : ∀ {l : List (List UInt8)}, RepL L g vs (strs l) → vs = l.map fun s => .string ⟨s.toArray⟩ := fun {l} h => by
  induction l generalizing vs with
  | nil => cases h; rfl
  | cons s l ih =>
    simp only [strs, List.map_cons] at h
    cases h with
    | cons v _ vs _ h hs => rw [rep_str h, ih hs]; rfl
theorem flat_strs (l : List (List UInt8)) : flat (strs l) = strs l := by
  induction l with
  | nil => rfl
  | cons s l ih => simp only [strs, flat, List.map_cons, List.flatMap_cons, AVal.cells] at ih ⊢; rw [ih]; rfl

/-- What a list of texts is in the machine. -/
theorem strs_inv {g : Ghost} {w : World} {H : Heap} (hs : St L g w H) {v : Value} {l : List (List UInt8)} {tk : Tok} (h : Rep L g v (.lst (strs l) tk)) :
    ∃ a c, v = .slice a l.length c ∧ l.length ≤ c ∧ (l ≠ [] → ∃ b o, a = some ⟨b, o, none⟩ ∧ b < w.heap.size ∧ ∀ (j : Nat) s, l[j]? = some s → w.cell? ⟨b, o + j, none⟩ = some (.string ⟨s.toArray⟩)) := by
  obtain ⟨a, c, k, b, o, vs, rfl, h1, h2, _, h4, _, h6⟩ := lst_inv h
  rw [flat_strs] at h6
  have hv := repL_strs h6
  have hl : (strs l).length = l.length := by simp [strs]
  rw [hl] at h4 ⊢
  refine ⟨a, c, rfl, h4, fun hne => ⟨b, o, h1 (by intro e; apply hne; simpa [strs] using e), ?_, fun j s hj => ?_⟩⟩
  · obtain ⟨s, l', rfl⟩ := List.exists_cons_of_ne_nil hne
    have := h2 0 (.string ⟨s.toArray⟩) (by rw [hv]; rfl)
    exact hs.fz_lt this
  · exact hs.fz b (o + j) _ (h2 j _ (by rw [hv]; simp [hj]))

theorem below_cell {g : Ghost} {w : World} {H : Heap} (hs : St L g w H) {b : Nat} (hb : b < g.base) {o : Nat} {v : Value} (h : g.w0.cell? ⟨b, o, none⟩ = some v) : w.cell? ⟨b, o, none⟩ = some v :=
  (hs.below.cell (p := ⟨b, o, none⟩) hb).trans h

theorem cell_of {w : World} {b : Nat} {vs : Array Value} {t : TypeId} {fr : Nat × Nat} (h : w.heap[b]? = some (.cells vs t fr)) (o : Nat) : w.cell? ⟨b, o, none⟩ = vs[o]? := by
  simp only [World.cell?, h, Option.isSome_none, Bool.false_eq_true, if_false]

theorem setCell_heap {w : World} {b : Nat} {vs : Array Value} {t : TypeId} {fr : Nat × Nat} (h : w.heap[b]? = some (.cells vs t fr)) (o : Nat) (v : Value) :
    (w.setCell ⟨b, o, none⟩ v).heap[b]? = some (.cells (vs.setIfInBounds o v) t fr) := by
  have hlt : b < w.heap.size := by
    rcases Nat.lt_or_ge b w.heap.size with h' | h'
    · exact h'
    · rw [Array.getElem?_eq_none h'] at h; cases h
  simp only [World.setCell]
  rw [Array.getElem?_modify, if_pos rfl, h]
  simp

theorem ScriptMach.bld (M : ScriptMach L) : BldLib L where
  used := fun H id b hH => fun g w vs hs hr => by
    obtain ⟨v, rfl, hv⟩ := repL1 hr
    obtain ⟨s, us, h1, h2, h3, h4, h5, h6⟩ := hs.obj id _ hH
    cases hv with
    | ptr _ _ s' h' h0' =>
      rw [h1] at h'
      cases h'
      have hc : w.cell? ⟨s.b, 0, none⟩ = some (.pointer (some ⟨s.b, 0, none⟩)) := by
        rw [cell_of h3]
        obtain ⟨u, e1, e2⟩ := h4.at 0 (.ptr id 0) rfl
        cases e2 with
        | ptr _ _ s' h' _ =>
          rw [h1] at h'
          cases h'
          simpa using e1
      exact (M.ccUsed s.b w hc).mono fun e w' ⟨e1, e2⟩ => by
        subst e1 e2
        exact ⟨.ret (.tup []), H, g, ⟨rfl, rfl⟩, Ghost.le.refl g, hs, _, rfl, .tup [] [] .nil⟩
  fresh := fun H id b hH => fun g w vs hs hr => by
    obtain ⟨v, rfl, hv⟩ := repL1 hr
    obtain ⟨s, us, h1, h2, h3, h4, h5, h6⟩ := hs.obj id _ hH
    cases hv with
    | ptr _ _ s' h' h0' =>
      rw [h1] at h'
      cases h'
      have hlen : us.size = 2 := by have := h4.length; simpa using this
      have hc : w.cell? ⟨s.b, 0, none⟩ = some (.pointer none) := by
        rw [cell_of h3]
        obtain ⟨u, e1, e2⟩ := h4.at 0 .nilptr rfl
        cases e2
        simpa using e1
      have hsh : w.shape? s.b = some (L.ty 50, 2) := by simp [World.shape?, h3, hlen]
      have hfz : w.frozen? ⟨s.b, 0, none⟩ = false := by simp [World.frozen?, h3]
      refine (M.ccFresh s.b w hc hsh hfz).mono fun e w' ⟨e1, e2⟩ => ?_
      subst e1 e2
      have hh := setCell_heap h3 0 (.pointer (some ⟨s.b, 0, none⟩))
      have hr2 : RepL L g (us.setIfInBounds 0 (.pointer (some ⟨s.b, 0, none⟩))).toList [.ptr id 0, b] := by
        obtain ⟨u0, e1, e2⟩ := h4.at 1 b rfl
        have hl : us.toList = [us.toList[0]'(by simp; omega), u0] := by
          apply List.ext_getElem?
          intro i
          rcases i with _ | _ | i
          · simp
          · simpa using e1
          · simp; omega
        rw [Array.toList_setIfInBounds, hl]
        exact .cons _ _ _ _ (.ptr id 0 s h1 h2) (.cons _ _ _ _ e2 .nil)
      refine ⟨.ret (.tup []), _, g, ⟨rfl, rfl⟩, Ghost.le.refl g, hs.store hH h1 _ _ hh (fun k hk => Below.heap_setCell _ _ _ _ hk) (by simp [World.setCell]) rfl rfl rfl [.ptr id 0, b] hr2, _, rfl, .tup [] [] .nil⟩

theorem lib_idxC : (∀ c, -1 ≤ idxC c ∧ idxC c < 16) ∧ ∀ n, n < 16 → idxC (digitA n) = n := by
  constructor
  · intro c
    have key : ∀ k : Fin 256, -1 ≤ idxC (UInt8.ofNat k.val) ∧ idxC (UInt8.ofNat k.val) < 16 := by decide +kernel
    have := key ⟨c.toNat, c.toNat_lt⟩
    simpa using this
  · intro n hn
    have key : ∀ k : Fin 16, idxC (digitA k.val) = k.val := by decide +kernel
    exact key ⟨n, hn⟩

theorem atoiC_range (s : List UInt8) : -9223372036854775808 ≤ (atoiC s).1 ∧ (atoiC s).1 ≤ 9223372036854775807 := by
  unfold atoiC
  cases h : Lib.atoiAll s
  · rename_i v
    dsimp only
    unfold Lib.atoiAll at h
    cases s with
    | nil => cases h
    | cons c r =>
      dsimp only at h
      split at h
      · cases h
      · cases h
      · rename_i u hu
        split at h
        · cases h
        · split at h
          · cases h
          · cases h
            split <;> omega
  · exact ⟨(by decide : (-9223372036854775808 : Int) ≤ 0), (by decide : (0 : Int) ≤ 9223372036854775807)⟩
  · dsimp only
    unfold Lib.atoiSat
    split <;> exact ⟨by decide, by decide⟩

/-- The abstract library. -/
noncomputable def ScriptMach.lib (M : ScriptMach L) : ScriptLib5 L where
  bld := M.bld
  idxD := idxC
  itoaA := Lib.itoa
  atoiA := atoiC
  errT := M.errT
  indexByte := fun c H => ext_pure fun g w vs hs hr => by
    obtain ⟨v, u, rfl, h1, h2⟩ := repL2 hr
    rw [rep_str h1, rep_int h2]
    refine ⟨_, .int _ _, (M.indexByte _ _ w).mono fun e w' ⟨e1, e2⟩ => ⟨?_, e2 ▸ Below.refl _ _⟩⟩
    rw [e1, toArr]
    simp [idxC]
  idxD_range := lib_idxC.1
  idxD_low := lib_idxC.2
  itoa := fun n h0 h1 H => ext_pure fun g w vs hs hr => by
    obtain ⟨v, rfl, h⟩ := repL1 hr
    rw [rep_int h]
    refine ⟨_, .str _, (M.itoa n w h0 h1 ((M.st _ _ hs.fact).2.1 w hs.below)).mono fun e w' h => h⟩
  index := fun x H => ext_pure fun g w vs hs hr => by
    obtain ⟨v, u, rfl, h1, h2⟩ := repL2 hr
    rw [rep_str h2]
    obtain ⟨a, c, rfl, hc, hcell⟩ := strs_inv hs h1
    obtain ⟨b, o, rfl, hb, hcell⟩ := hcell (by decide)
    refine ⟨_, .int _ _, (M.index b o namesA.length c (namesA.map fun s => ⟨s.toArray⟩) ⟨x.toArray⟩ w (by simp) (by decide) fun j hj => ?_).mono fun e w' ⟨e1, e2⟩ => ⟨?_, e2 ▸ Below.refl _ _⟩⟩
    · have hj' : j < namesA.length := by simpa using hj
      rw [hcell j namesA[j] (List.getElem?_eq_getElem hj')]
      simp [List.getD_eq_getElem?_getD, hj']
    · rw [e1, List.take_of_length_le (by simp), lib_idxS]
  atoi := fun s hs0 H => ext_pure2 fun g w vs hs hr => by
    obtain ⟨v, rfl, h⟩ := repL1 hr
    rw [rep_str h]
    obtain ⟨_, _, ⟨q1, ev, q2, q3⟩, ⟨r1, er, r2, r3⟩⟩ := M.st _ _ hs.fact
    unfold atoiC
    cases hA : Lib.atoiAll s
    · rename_i v
      exact (M.atoiOk _ v w (by rw [arr_size]; omega) (by rw [toArr]; exact hA)).mono fun e w' ⟨e1, e2⟩ => ⟨⟨_, e1, .tup [_, _] _ (.cons _ _ _ _ (.int _ _) (.cons _ _ _ _ .niliface .nil))⟩, e2⟩
    · exact (M.atoiSyn _ ev w (by rw [arr_size]; omega) (by rw [toArr, hA]; intro v hv; cases hv) (by rw [toArr, hA]; intro hv; cases hv) (below_cell hs q1 q2) q3).mono fun e w' ⟨⟨N, e1⟩, e2⟩ => ⟨⟨_, e1, .tup [_, _] _ (.cons _ _ _ _ (.int _ _) (.cons _ _ _ _ (.iface _ _ _ (.undef _)) .nil))⟩, e2⟩
    · refine (M.atoiRng _ er w (by rw [arr_size]; omega) (by rw [toArr]; exact hA) (below_cell hs r1 r2) r3).mono fun e w' ⟨⟨N, e1⟩, e2⟩ => ⟨⟨_, e1, ?_⟩, e2⟩
      rw [toArr]
      exact .tup [_, _] _ (.cons _ _ _ _ (.int _ _) (.cons _ _ _ _ (.iface _ _ _ (.undef _)) .nil))
  containsAny := fun s hs0 H => ext_pure fun g w vs hs hr => by
    obtain ⟨v, u, rfl, h1, h2⟩ := repL2 hr
    rw [rep_str h1, rep_str h2]
    refine ⟨_, .bool _, (M.any _ _ w (by rw [arr_size]; decide) (by rw [arr_size]; omega) (by rw [arr_size]; decide) (fun j b hb => ?_)).mono fun e w' ⟨e1, e2⟩ => ⟨?_, e2⟩⟩
    · rw [toArr] at hb
      rcases j with _ | _ | j <;> simp at hb <;> subst hb <;> decide
    · rw [e1, toArr, toArr, lib_any]
  itoa_len := fun n h0 h1 => Lib.itoa_length_le n h0 h1
  cut := fun s hs0 H => ext_pure fun g w vs hs hr => by
    obtain ⟨v, u, rfl, h1, h2⟩ := repL2 hr
    rw [rep_str h1, rep_str h2]
    obtain ⟨⟨q1, m, q2⟩, _⟩ := M.st _ _ hs.fact
    refine ⟨_, .tup [_, _, _] _ (.cons _ _ _ _ (.str _) (.cons _ _ _ _ (.str _) (.cons _ _ _ _ (.bool _) .nil))), (M.cut _ _ m w (by rw [arr_size]; omega) (below_cell hs q1 q2)).mono fun e w' ⟨e1, n, e2⟩ => ⟨?_, e2 ▸ below_drewN w n⟩⟩
    rw [e1, toArr, toArr, lib_cut]
  split := fun s hs0 H => by
    have hlen := (lib_split 32 (s.length + 1) s (by omega)).2
    refine ext_list (k := 1) (fun x hx => by
      simp only [strs, List.mem_map] at hx
      obtain ⟨s, _, rfl⟩ := hx
      rfl) fun g w vs hs hr => ?_
    obtain ⟨v, u, rfl, h1, h2⟩ := repL2 hr
    rw [rep_str h1, rep_str h2]
    obtain ⟨⟨q1, m, q2⟩, _⟩ := M.st _ _ hs.fact
    have hcount : Lib.countB ⟨s.toArray⟩ ⟨([32] : List UInt8).toArray⟩ = Lib.countFrom [32] (s.length + 1) s := by
      show Lib.count _ _ = _
      rw [toArr, toArr]; rfl
    have hcells : (Lib.splitB ⟨([32] : List UInt8).toArray⟩ 0 (Lib.countB ⟨s.toArray⟩ ⟨([32] : List UInt8).toArray⟩) ⟨s.toArray⟩).map (·.data.toList) = splitA 32 s := by
      rw [Lib.splitB_data, toArr, toArr, hcount]
      exact (lib_split 32 (s.length + 1) s (by omega)).1
    generalize hB : Lib.splitB ⟨([32] : List UInt8).toArray⟩ 0 (Lib.countB ⟨s.toArray⟩ ⟨([32] : List UInt8).toArray⟩) ⟨s.toArray⟩ = B at hcells
    have hl2 : (strs (splitA 32 s)).length = Lib.countB ⟨s.toArray⟩ ⟨([32] : List UInt8).toArray⟩ + 1 := by
      rw [hcount, ← hlen]; simp [strs]
    have hBs : B.map Value.string = (splitA 32 s).map fun s => Value.string ⟨s.toArray⟩ := by
      rw [← hcells, List.map_map]
      exact List.map_congr_left fun x _ => by simp
    refine ⟨(B.map Value.string).toArray, M.splitT, Lib.countB ⟨s.toArray⟩ ⟨([32] : List UInt8).toArray⟩ + 1, by omega, ?_, ?_⟩
    · have : ((B.map Value.string).toArray.toList.take ((strs (splitA 32 s)).length * 1)) = (splitA 32 s).map fun s => Value.string ⟨s.toArray⟩ := by
        rw [hBs]
        rw [List.take_of_length_le (by simp [strs])]
      rw [this, flat_strs]
      have key : ∀ l : List (List UInt8), RepL L g (l.map fun s => Value.string ⟨s.toArray⟩) (strs l) := fun l => by
        induction l with
        | nil => exact .nil
        | cons s l ih => exact .cons _ _ _ _ (.str s) ih
      exact key _
    · refine (M.split _ _ m w (by rw [arr_size]; omega) (below_cell hs q1 q2) (by rw [arr_size]; decide)).mono fun e w' ⟨e1, e2⟩ => ?_
      rw [hB] at e2
      exact ⟨w, Below.refl _ _, by rw [e1, hl2], e2 ▸ Below.refl _ _⟩
  join := fun ws h1 h2 H => ext_pure fun g w vs hs hr => by
    obtain ⟨v, u, rfl, r1, r2⟩ := repL2 hr
    rw [rep_str r2]
    obtain ⟨a, c, rfl, hc, hcell⟩ := strs_inv hs r1
    refine ⟨_, .str _, ?_⟩
    cases ws with
    | nil => exact M.joinNone a c _ w
    | cons s ws =>
      obtain ⟨b, o, rfl, hb, hcell⟩ := hcell (by simp)
      have hmm : ((s :: ws).map fun s => (⟨s.toArray⟩ : ByteArray)).map (·.data.toList) = s :: ws := by
        rw [List.map_map]
        exact (List.map_congr_left (g := id) fun x _ => by simp).trans (List.map_id _)
      have := M.join b o c ((s :: ws).map fun s => ⟨s.toArray⟩) ⟨([32] : List UInt8).toArray⟩ w (fun j x hx => by
        rw [List.getElem?_map] at hx
        cases hj : (s :: ws)[j]? with
        | none => rw [hj] at hx; cases hx
        | some y => rw [hj] at hx; cases hx; exact hcell j y hj) hb (by simp at h2 ⊢; omega) (by simpa using hc) (by rw [hmm, toArr, lib_join]; omega)
      rw [hmm, toArr, lib_join] at this
      simpa using this
  atoi_range := atoiC_range

end Go.Ag
