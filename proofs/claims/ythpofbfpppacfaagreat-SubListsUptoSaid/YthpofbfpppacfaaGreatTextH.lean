/- Our texts, joined by a program of ours (join.py): part 8 of 8. -/
import Derived.Test.YthpofbfpppacfaaGreatTextG
import Derived.Lib.IndexMore
import Derived.Lib.Join
import Derived.Lib.Bytealg
import Derived.Laws.AppendOwn
import Derived.Sort.EncStr
import Derived.Sort.Grow
import Derived.Sort.Row
import Derived.Shelf.GgSortFunc.InsertionK
/- The library's contracts of the laws: from the machine's to abstract ones. -/
set_option linter.unusedVariables false
namespace Go.Ag
open Go
open Go.RowKit (Below)

variable {L : Lnk}

theorem ix_at (c : UInt8) : ∀ (a b : Bytes), c ∉ a → Lib.index (a ++ c :: b) [c] = a.length
  | [], b, _ => by simp [Lib.index]
  | x :: a, b, h => by
    simp only [List.mem_cons, not_or] at h
    have ih := ix_at c a b h.2
    simp only [List.cons_append, Lib.index]
    rw [if_neg (by simp [h.1]), ih, if_neg (by simp <;> omega)]
    simp
theorem ix_no (c : UInt8) : ∀ (a : Bytes), c ∉ a → Lib.index a [c] = -1
  | [], _ => rfl
  | x :: a, h => by
    simp only [List.mem_cons, not_or] at h
    simp only [Lib.index]
    rw [if_neg (by simp [h.1]), ix_no c a h.2]
    rfl

theorem cut2_cases (c : UInt8) : ∀ s : Bytes, (∃ a b, s = a ++ c :: b ∧ c ∉ a ∧ cut2 c s = (a, b, true)) ∨ (c ∉ s ∧ cut2 c s = (s, [], false))
  | [] => .inr ⟨by simp, rfl⟩
  | x :: s => by
    by_cases h : x = c
    · subst h
      exact .inl ⟨[], s, rfl, by simp, by simp [cut2]⟩
    · rcases cut2_cases c s with ⟨a, b, rfl, h1, h2⟩ | ⟨h1, h2⟩
      · refine .inl ⟨x :: a, b, rfl, by simp [Ne.symm h, h1], ?_⟩
        simp only [cut2, Prod.mk.injEq] at h2 ⊢
        obtain ⟨e1, e2, e3⟩ := h2
        refine ⟨?_, ?_, by simp⟩
        · rw [List.takeWhile_cons, if_pos (by simpa using h), e1]
        · rw [List.dropWhile_cons, if_pos (by simpa using h), e2]
      · refine .inr ⟨by simp [Ne.symm h, h1], ?_⟩
        simp only [cut2, Prod.mk.injEq] at h2 ⊢
        obtain ⟨e1, e2, e3⟩ := h2
        refine ⟨?_, ?_, ?_⟩
        · rw [List.takeWhile_cons, if_pos (by simpa using h), e1]
        · rw [List.dropWhile_cons, if_pos (by simpa using h), e2]
        · rw [List.any_cons, e3]; simpa using h

theorem cut_lib (c : UInt8) (s : Bytes) : Lib.cut s [c] = cut2 c s := by
  unfold Lib.cut
  rcases cut2_cases c s with ⟨a, b, rfl, h, e⟩ | ⟨h, e⟩
  · rw [ix_at c a b h, e, if_pos (by omega)]
    simp
  · rw [ix_no c s h, e]
    rfl

theorem join_lib (sep : Bytes) : ∀ ws : List Bytes, Lib.join ws sep = joinB sep ws
  | [] => rfl
  | [w] => Lib.join_one w sep
  | w :: u :: r => by
    have ih := join_lib sep (u :: r)
    rw [Lib.join_cons] at ih ⊢
    simp only [joinB]
    rw [← ih]
    simp [Lib.joinTail]

theorem toArrB (s : Bytes) : (⟨s.toArray⟩ : ByteArray).data.toList = s := by simp
theorem sizeB (s : Bytes) : (⟨s.toArray⟩ : ByteArray).size = s.length := by show s.toArray.size = _; simp

theorem repL_strA {g : Ghost} {vs : List Value} : ∀ {l : List Bytes}, RepL L g vs (strA l) → vs = l.map fun s => .string ⟨s.toArray⟩ := fun {l} h => by
  induction l generalizing vs with
  | nil => cases h; rfl
  | cons s l ih =>
    simp only [strA, List.map_cons] at h
    cases h with
    | cons v _ vs _ h hs => rw [rep_str h, ih hs]; rfl
theorem repL_strA' {g : Ghost} : ∀ l : List Bytes, RepL L g (l.map fun s => Value.string ⟨s.toArray⟩) (strA l)
  | [] => .nil
  | s :: l => .cons _ _ _ _ (.str s) (repL_strA' l)

theorem strA_inv {g : Ghost} {w : World} {H : Heap} (hs : St L g w H) {v : Value} {l : List Bytes} {tk : Tok} (h : Rep L g v (.lst (strA l) tk)) :
    ∃ a c, v = .slice a l.length c ∧ l.length ≤ c ∧ (l ≠ [] → ∃ b o, a = some ⟨b, o, none⟩ ∧ b < w.heap.size ∧ ∀ (j : Nat) s, l[j]? = some s → w.cell? ⟨b, o + j, none⟩ = some (.string ⟨s.toArray⟩)) := by
  obtain ⟨a, c, k, b, o, vs, rfl, h1, h2, _, h4, _, h6⟩ := lst_inv h
  rw [flat_strA] at h6
  have hv := repL_strA h6
  have hl : (strA l).length = l.length := by simp [strA]
  rw [hl] at h4 ⊢
  refine ⟨a, c, rfl, h4, fun hne => ⟨b, o, h1 (by intro e; apply hne; simpa [strA] using e), ?_, fun j s hj => ?_⟩⟩
  · obtain ⟨s, l', rfl⟩ := List.exists_cons_of_ne_nil hne
    have := h2 0 (.string ⟨s.toArray⟩) (by rw [hv]; rfl)
    exact hs.fz_lt this
  · exact hs.fz b (o + j) _ (h2 j _ (by rw [hv]; simp [hj]))

structure Lib9Mach (L : Lnk) where
  gMax : Nat
  rowT : TypeId
  indexByte : ∀ (s : ByteArray) (c : Int) (w : World), Calls L.P (L.num 49) #[.string s, .int .u8 c] w fun e w' => e = .returned (.int .i64 (Lib.indexByte s.data.toList c.toNat.toUInt8)) ∧ w' = w
  cut : ∀ (s sep : ByteArray) (m : Int) (w : World), s.size < 4294967281 → w.cell? ⟨gMax, 0, none⟩ = some (.int .i64 m) →
    Calls L.P (L.num 22) #[.string s, .string sep] w fun e w' => e = .returned (.tuple #[.string ⟨(Lib.cut s.data.toList sep.data.toList).1.toArray⟩, .string ⟨(Lib.cut s.data.toList sep.data.toList).2.1.toArray⟩, .bool (Lib.cut s.data.toList sep.data.toList).2.2]) ∧ ∃ n, w' = w.drewN n
  joinNone : ∀ (a : Option Addr) (c : Nat) (sep : ByteArray) (w : World), Calls L.P (L.num 20) #[.slice a 0 c, .string sep] w fun e w' => e = .returned (.string ⟨[].toArray⟩) ∧ Below w.heap.size w w'
  join : ∀ (bk o c : Nat) (xs : List ByteArray) (sep : ByteArray) (w : World), (∀ (j : Nat) x, xs[j]? = some x → w.cell? ⟨bk, o + j, none⟩ = some (.string x)) → bk < w.heap.size → xs.length ≤ 140737488355328 → xs.length ≤ c →
    (Lib.join (xs.map (·.data.toList)) sep.data.toList).length ≤ 140737488355328 →
    Calls L.P (L.num 20) #[.slice (some ⟨bk, o, none⟩) xs.length c, .string sep] w fun e w' => e = .returned (.string ⟨(Lib.join (xs.map (·.data.toList)) sep.data.toList).toArray⟩) ∧ Below w.heap.size w w'
  clone : ∀ (b off n c : Nat) (zs : List ByteArray) (w : World), n ≤ zs.length → n * 16 ≤ 140737488355328 → (∀ j, j < zs.length → w.cell? ⟨b, off + j, none⟩ = some (.string (zs.getD j ByteArray.empty))) →
    Calls L.P (L.num 208) #[.slice (some ⟨b, off, none⟩) n c] w fun e w' => ∃ v', e = .returned v' ∧ w'.ownsRow w.heap.size rowT 1 v' n ((zs.take n).map (Value.string)) ∧ v' ≠ .slice none 0 0 ∧ Below w.heap.size w w'
  cloneNil : ∀ (n c : Nat) (w : World), Calls L.P (L.num 208) #[.slice none n c] w fun e w' => e = .returned (.slice none 0 0) ∧ w' = w
  cloneZero : ∀ (a : Addr) (c : Nat) (w : World), Calls L.P (L.num 208) #[.slice (some a) 0 c] w fun e w' => ∃ v', e = .returned v' ∧ w'.ownsRow w.heap.size rowT 1 v' 0 [] ∧ v' ≠ .slice none 0 0 ∧ Below w.heap.size w w'
  st : ∀ w0 base, L.start w0 base → gMax < base ∧ ∃ m, w0.cell? ⟨gMax, 0, none⟩ = some (.int .i64 m)

theorem Lib9Mach.jlib (M : Lib9Mach L) : JoinLib L where
  join := fun ws sep h1 h2 H => ext_pure fun g w vs hs hr => by
    obtain ⟨v, u, rfl, r1, r2⟩ := repL2 hr
    rw [rep_str r2]
    obtain ⟨a, c, rfl, hc, hcell⟩ := strA_inv hs r1
    refine ⟨_, .str _, ?_⟩
    cases ws with
    | nil => exact M.joinNone a c _ w
    | cons s ws =>
      obtain ⟨b, o, rfl, hb, hcell⟩ := hcell (by simp)
      have hmm : ((s :: ws).map fun s => (⟨s.toArray⟩ : ByteArray)).map (·.data.toList) = s :: ws := by
        rw [List.map_map]
        exact (List.map_congr_left (g := id) fun x _ => by simp).trans (List.map_id _)
      have := M.join b o c ((s :: ws).map fun s => ⟨s.toArray⟩) ⟨sep.toArray⟩ w (fun j x hx => by
        rw [List.getElem?_map] at hx
        cases hj : (s :: ws)[j]? with
        | none => rw [hj] at hx; cases hx
        | some y => rw [hj] at hx; cases hx; exact hcell j y hj) hb (by simp at h2 ⊢; omega) (by simpa using hc) (by rw [hmm, toArrB, join_lib]; omega)
      rw [hmm, toArrB, join_lib] at this
      simpa using this

theorem ext_own {f : Nat} {args : List AVal} {H : Heap} {xs : List AVal} {t : TypeId} (hk : ∀ x ∈ xs, x.cells.length = 1)
    (hc : ∀ g w vs, St L g w H → RepL L g vs args → ∃ us, RepL L g us (flat xs) ∧
      Calls L.P (L.num f) vs.toArray w fun e w' => ∃ v', e = .returned v' ∧ w'.ownsRow w.heap.size t 1 v' xs.length us ∧ Below w.heap.size w w') :
    ACalls L f args H fun r H' => r = .ret (.lst xs .none) ∧ H' = H := fun g w vs hs hr => by
  obtain ⟨us, h1, h2⟩ := hc g w vs hs hr
  refine h2.mono fun e w' ⟨v', e1, hown, hb⟩ => ?_
  have hs1 := hs.wider hb
  rcases hown.2 with ⟨rfl, h0⟩ | ⟨gb, cap, cur, rfl, hge, hblk, hcap, _, _, hcells⟩
  · obtain rfl : xs = [] := List.eq_nil_of_length_eq_zero h0
    exact ⟨.ret (.lst [] .none), H, g, ⟨rfl, rfl⟩, Ghost.le.refl g, hs1, _, e1, .lst none 0 1 0 0 [] [] .none (fun h => absurd rfl h) (fun j v h => by simp at h) (by simp) (Nat.le_refl 0) trivial .nil⟩
  · have hul : us.length = xs.length := by have := hown.1; omega
    have hkp : g.kp gb = none := by
      cases hq : g.kp gb with
      | none => rfl
      | some o => have := hs.kp_lt hq; omega
    have hf : ∀ o, 0 ≤ o → o < 0 + us.length → g.fz gb o = none := fun o _ _ => by
      cases hq : g.fz gb o with
      | none => rfl
      | some v => have := hs.fz_lt hq; omega
    have hle := Ghost.setFz_le hkp hf
    have h8 : St L (g.setFz gb 0 us) w' H := hs1.freezeNew hkp hf (fun j v hv => by
      rw [Nat.zero_add]
      have h3 : cur.toList[j]? = some v := by
        have h4 : (cur.toList.take (xs.length * 1))[j]? = some v := by rw [hcells]; exact hv
        rw [List.getElem?_take] at h4
        split at h4
        · exact h4
        · cases h4
      simp only [World.cell?, hblk, Option.isSome_none, Bool.false_eq_true, if_false]
      simpa using h3) (fun id o s _ _ hq => by have := hs.bnd _ _ _ hq; omega)
    exact ⟨.ret (.lst xs .none), H, _, ⟨rfl, rfl⟩, hle, h8, _, e1, .lst _ _ 1 gb 0 xs us .none (fun _ => rfl) (fun j v hv => Ghost.setFz_at _ _ _ _ j v hv) hk hcap trivial (h1.mono hle)⟩

theorem Lib9Mach.clone_spec (M : Lib9Mach L) (ns : List Bytes) (hn : ns.length ≤ 2 ^ 40) : Pure L 208 [.lst (strA ns) .none] (.lst (strA ns) .none) := fun H => by
  refine ext_own (t := M.rowT) (fun x hx => by
    simp only [strA, List.mem_map] at hx
    obtain ⟨s, _, rfl⟩ := hx
    rfl) fun g w vs hs hr => ?_
  obtain ⟨v, rfl, h⟩ := repL1 hr
  obtain ⟨a, c, rfl, hc, hcell⟩ := strA_inv hs h
  have hl : (strA ns).length = ns.length := by simp [strA]
  rw [flat_strA, hl]
  refine ⟨_, repL_strA' ns, ?_⟩
  cases ns with
  | nil =>
    cases a with
    | none => exact (M.cloneNil 0 c w).mono fun e w' ⟨e1, e2⟩ => ⟨_, e1, ⟨rfl, .inl ⟨rfl, rfl⟩⟩, e2 ▸ Below.refl _ _⟩
    | some a => exact (M.cloneZero a c w).mono fun e w' ⟨v', e1, e2, _, e3⟩ => ⟨v', e1, e2, e3⟩
  | cons s ns =>
    obtain ⟨b, o, rfl, hb, hcell⟩ := hcell (by simp)
    have h3 := M.clone b o (s :: ns).length c ((s :: ns).map fun s => ⟨s.toArray⟩) w (by simp) (by omega) (fun j hj => by
      have hj' : j < (s :: ns).length := by simpa using hj
      rw [hcell j (s :: ns)[j] (List.getElem?_eq_getElem hj')]
      simp only [List.getD_eq_getElem?_getD, List.getElem?_map, List.getElem?_eq_getElem hj', Option.map_some, Option.getD_some])
    refine h3.mono fun e w' ⟨v', e1, e2, _, e3⟩ => ⟨v', e1, ?_, e3⟩
    rw [List.take_of_length_le (by simp), List.map_map] at e2
    exact e2

theorem ixb (c : UInt8) : ∀ l : Bytes, decide (Lib.indexByte l c ≥ 0) = inA c l
  | [] => rfl
  | b :: l => by
    have ih := ixb c l
    have hge := Lib.indexByte_ge l c
    unfold inA at ih ⊢
    rw [List.any_cons, Lib.indexByte, ← ih]
    cases hb : (b == c)
    · simp only [Bool.false_eq_true, if_false, Bool.false_or]
      by_cases h1 : Lib.indexByte l c = -1
      · rw [h1]; rfl
      · rw [if_neg (by simpa using h1)]
        have : Lib.indexByte l c ≥ 0 := by omega
        rw [decide_eq_true this]
        exact decide_eq_true (by omega)
    · simp

theorem Lib9Mach.lex (M : Lib9Mach L) : LexLib L where
  idx := fun c => ⟨Lib.indexByte signsL c, ixb c signsL, fun H => ext_pure fun g w vs hs hr => by
    obtain ⟨v, u, rfl, h1, h2⟩ := repL2 hr
    rw [rep_str h1, rep_int h2]
    refine ⟨_, .int _ _, (M.indexByte _ _ w).mono fun e w' ⟨e1, e2⟩ => ⟨?_, e2 ▸ Below.refl _ _⟩⟩
    rw [e1, toArrB]
    simp⟩
  cut := fun c s hs0 H => ext_pure fun g w vs hs hr => by
    obtain ⟨v, u, rfl, h1, h2⟩ := repL2 hr
    rw [rep_str h1, rep_str h2]
    obtain ⟨q1, m, q2⟩ := M.st _ _ hs.fact
    have hm : w.cell? ⟨M.gMax, 0, none⟩ = some (.int .i64 m) := (hs.below.cell (p := ⟨M.gMax, 0, none⟩) q1).trans q2
    refine ⟨_, .tup [_, _, _] _ (.cons _ _ _ _ (.str _) (.cons _ _ _ _ (.str _) (.cons _ _ _ _ (.bool _) .nil))), (M.cut _ _ m w (by rw [sizeB]; omega) hm).mono fun e w' ⟨e1, n, e2⟩ => ⟨?_, e2 ▸ below_drewN _ _⟩⟩
    rw [e1, toArrB, toArrB, cut_lib]

end Go.Ag
/- The library's sorts: what they do to a row. -/
set_option linter.unusedVariables false
namespace Go.Ag
open Go Go.Sort Go.Proofs
open Go.RowKit (Below)

variable {L : Lnk} {g : Ghost} {w : World} {H : Heap}

theorem row_turn (hs : St L g w H) {id v t k : Nat} {xs ys : List AVal} {s : Spot} {cur cur' : Array Value} {w' : World} (hH : H[id]? = some (.arr v xs t)) (hs' : g.ob id v = some s) (hsk : s.k = k)
    (hcur : w.heap[s.b]? = some (.cells cur (L.ty t) (0, 0))) (hcur' : w'.heap[s.b]? = some (.cells cur' (L.ty t) (0, 0))) (hsize : cur'.size = cur.size) (hy : ∀ y ∈ ys, y.cells.length = k) (hlen : ys.length = xs.length)
    (hother : ∀ b, b ≠ s.b → b < w.heap.size → w'.heap[b]? = w.heap[b]?) (hsz : w.heap.size ≤ w'.heap.size) (hos : w'.os = w.os) (htp : w'.tape = w.tape) (hout : w'.output = w.output)
    (hrep : RepL L g (cur'.toList.take (ys.length * k)) (flat ys)) : St L g w' (H.set id (.arr v ys t)) := by
  obtain ⟨s0, cur0, e1, e0, e2, e3, e4, e5, e6, e7, e8, e9, e10⟩ := hs.obj id _ hH
  rw [hs'] at e1; cases e1
  rw [hcur] at e4; cases e4
  exact hs.upd1 (s1 := s) hH rfl hs' (Ghost.le.refl g) rfl rfl rfl (fun _ _ _ => rfl) (fun _ s2 h2 => .inl h2) (fun _ => hs') (.inl rfl) (Nat.lt_of_lt_of_le (hs.bnd _ _ _ hs') hsz) e9 (by rw [hcur]; simp)
    hother hsz hos htp hout
    ⟨s, cur', hs', e0, e2, e3, hcur', hsize.trans e5, fun x hx => by rw [hsk]; exact hy x hx, by rw [hlen]; exact e7, by rw [hsk]; exact hrep, e9, e10⟩

theorem grown_at {w : World} {blk n : Nat} {f : Array Value → Array Value} {os : Array Obj} {cur : Array Value} {t : TypeId} (h : w.heap[blk]? = some (.cells cur t (0, 0))) :
    (grow (mapBlock (Sort.ahead w n) blk f) os).heap[blk]? = some (.cells (f cur) t (0, 0)) := by
  have hlt : blk < w.heap.size := (Array.getElem?_eq_some_iff.1 h).1
  show (w.heap.modify blk (onCells f) ++ os)[blk]? = _
  rw [Array.getElem?_append_left (by simpa using hlt), Array.getElem?_modify, if_pos rfl, h]
  rfl
theorem grown_old {w : World} {blk n b : Nat} {f : Array Value → Array Value} {os : Array Obj} (hb : b ≠ blk) (hlt : b < w.heap.size) :
    (grow (mapBlock (Sort.ahead w n) blk f) os).heap[b]? = w.heap[b]? := by
  show (w.heap.modify blk (onCells f) ++ os)[b]? = _
  rw [Array.getElem?_append_left (by simpa using hlt), Array.getElem?_modify, if_neg (Ne.symm hb)]
theorem grown_size {w : World} {blk n : Nat} {f : Array Value → Array Value} {os : Array Obj} : w.heap.size ≤ (grow (mapBlock (Sort.ahead w n) blk f) os).heap.size := by
  show w.heap.size ≤ (w.heap.modify blk (onCells f) ++ os).size
  rw [Array.size_append, Array.size_modify]; omega

theorem putCells_size {α : Type} [Inhabited α] (enc : α → Value) (d : Array α) (c : Array Value) (off : Nat) : (putCells enc off d c).size = c.size := by simp [putCells]
theorem putCells_take {α : Type} [Inhabited α] (enc : α → Value) (d : Array α) (c : Array Value) (h : d.size ≤ c.size) : (putCells enc 0 d c).toList.take d.size = d.toList.map enc := by
  apply List.ext_getElem?
  intro j
  rw [List.getElem?_take]
  split
  · rename_i hj
    simp only [putCells, Array.getElem?_toList, List.getElem?_map, Array.getElem?_mapIdx]
    rw [Array.getElem?_eq_getElem (by omega), Array.getElem?_eq_getElem hj]
    simp [hj]
  · rename_i hj
    rw [List.getElem?_eq_none (by simp; omega)]

structure Sort9Mach (L : Lnk) : Prop where
  sort : ∀ (blk off cap : Nat) (ss : List Bytes) (w : World), Holds encStr w blk off ss.toArray → blk < w.heap.size → ss.length < 4611686018427387904 →
    Calls L.P (L.num 200) #[.slice (some ⟨blk, off, none⟩) ss.length cap] w fun e w' =>
      e = .returned (.tuple #[]) ∧ ∃ n os, w' = grow (putRow encStr (Sort.ahead w n) blk off (ss.mergeSort fun x y => decide (x ≤ y)).toArray) os
  none : ∀ (p : Option Addr) (cap : Nat) (w : World), Calls L.P (L.num 200) #[.slice p 0 cap] w fun e w' => e = .returned (.tuple #[]) ∧ w' = w

theorem Sort9Mach.par (M : Sort9Mach L) : ParLib L where
  sort0 := fun H => ext_pure fun g w vs hs hr => by
    obtain ⟨v, rfl, h⟩ := repL1 hr
    obtain ⟨a, c, k, b, o, vs, rfl, _⟩ := lst_inv h
    exact ⟨_, .tup [] [] .nil, (M.none a c w).mono fun e w' ⟨e1, e2⟩ => ⟨e1, e2 ▸ Below.refl _ _⟩⟩
  sort := fun l n id t H hH hn hne hl g w vs hs hr => by
    obtain ⟨v, rfl, h⟩ := repL1 hr
    cases h with
    | vec _ _ _ _ _ c s hs' hsk hc hz =>
      obtain ⟨s0, cur, e1, e0, e2, e3, e4, e5, e6, e7, e8, e9, e10⟩ := hs.obj id _ hH
      rw [hs'] at e1; cases e1
      have hll : (strA l).length = l.length := by simp [strA]
      rw [hsk, Nat.mul_one, hll] at e7 e8
      rw [flat_strA] at e8
      have hcells := repL_strA e8
      have hhold : Holds encStr w s.b 0 l.toArray := fun j hj => by
        have hj' : j < l.length := by simpa using hj
        have h3 : cur.toList[j]? = some (.string ⟨l[j].toArray⟩) := by
          have : (cur.toList.take l.length)[j]? = some (.string ⟨l[j].toArray⟩) := by rw [hcells]; simp [hj']
          rw [List.getElem?_take, if_pos hj'] at this
          exact this
        rw [Nat.zero_add]
        refine ⟨?_, by simp [World.frozen?, e4]⟩
        simp only [World.cell?, e4, Option.isSome_none, Bool.false_eq_true, if_false]
        rw [← Array.getElem?_toList, h3]
        simp [encStr, hj']
      have hcall := M.sort s.b 0 c l w hhold (hs.bnd _ _ _ hs') (by omega)
      rw [hn]
      refine hcall.mono fun e w' ⟨he, m, os, hw⟩ => ?_
      have hpl : (sortB l).length = l.length := (sortB_perm l).length_eq
      have hst : St L g w' (H.set id (.arr n (strA (sortB l)) t)) := by
        rw [hw]
        refine row_turn hs hH hs' hsk e4 (grown_at e4) (putCells_size _ _ _ _) (fun y hy => ?_) (by simp [strA, hpl]) (fun b hb hlt => grown_old hb hlt) grown_size rfl rfl rfl ?_
        · simp only [strA, List.mem_map] at hy
          obtain ⟨s, _, rfl⟩ := hy
          rfl
        · rw [flat_strA, Nat.mul_one]
          have h5 := putCells_take encStr (sortB l).toArray cur (by simp [hpl]; omega)
          have h6 : (sortB l).toArray.size = (strA (sortB l)).length := by simp [strA]
          rw [h6] at h5
          show RepL L g ((putCells encStr 0 (sortB l).toArray cur).toList.take _) _
          rw [h5]
          exact repL_strA' _
      exact ⟨.ret (.tup []), H.set id (.arr l.length (strA (sortB l)) t), g, ⟨rfl, rfl⟩, Ghost.le.refl g, hn ▸ hst, _, he, .tup [] [] .nil⟩

end Go.Ag
/- The library's sort of keyed types by a comparing function: what it does to a row. -/
set_option linter.unusedVariables false
namespace Go.Ag
open Go Go.Sort Go.Proofs
open Go.RowKit (Below)

variable {L : Lnk} {g : Ghost} {w : World} {H : Heap}

def KV : Type := { q : List Value × Bytes // q.1.length = 4 ∧ ∀ v ∈ q.1, v.oneCell' = true }
instance : Inhabited KV := ⟨⟨([.bool false, .bool false, .bool false, .bool false], []), rfl, fun v hv => by simp at hv; subst hv; rfl⟩⟩
def encK (x : KV) : List Value := x.1.1 ++ [.string ⟨x.1.2.toArray⟩]
theorem encK_len (x : KV) : (encK x).length = 5 := by simp [encK, x.2.1]
theorem encK_one (x : KV) : ∀ v ∈ encK x, v.oneCell' = true := fun v hv => by
  rcases List.mem_append.1 hv with hv | hv
  · exact x.2.2 v hv
  · simp only [List.mem_singleton] at hv; subst hv; rfl

theorem flatMap_at {α : Type} [Inhabited α] {enc : α → List Value} {k : Nat} (hk : ∀ x, (enc x).length = k) : ∀ (l : List α) (j : Nat), j < l.length * k → (l.flatMap enc)[j]? = some ((enc (l[j / k]!))[j % k]!)
  | [], j, h => by simp at h
  | x :: l, j, h => by
    have h0 : 0 < k := by
      rcases Nat.eq_zero_or_pos k with h' | h'
      · subst h'; simp at h
      · exact h'
    rw [List.flatMap_cons]
    rcases Nat.lt_or_ge j k with hj | hj
    · rw [List.getElem?_append_left (by rw [hk]; exact hj), Nat.div_eq_of_lt hj, Nat.mod_eq_of_lt hj, List.getElem?_eq_getElem (by rw [hk]; exact hj)]
      simp [hk, hj]
    · rw [List.getElem?_append_right (by rw [hk]; exact hj), hk]
      have h1 : j - k < l.length * k := by rw [List.length_cons, Nat.add_mul] at h; omega
      rw [flatMap_at hk l (j - k) h1]
      have h2 : j / k = (j - k) / k + 1 := by rw [← Nat.sub_add_cancel hj, Nat.add_div_right _ h0]; simp
      have h3 : j % k = (j - k) % k := by rw [Nat.mod_eq_sub_mod hj]
      rw [h2, h3]
      rfl

theorem flatK_list {α : Type} [Inhabited α] {enc : α → List Value} {k : Nat} (hk : ∀ x, (enc x).length = k) (d : Array α) : (flatK enc k d).toList = d.toList.flatMap enc := by
  have hl : (d.toList.flatMap enc).length = d.size * k := by
    rw [List.length_flatMap, show d.toList.map (fun x => (enc x).length) = d.toList.map fun _ => k from List.map_congr_left fun x _ => hk x, List.map_const', List.sum_replicate_nat, Array.length_toList]
  apply List.ext_getElem?
  intro j
  rcases Nat.lt_or_ge j (d.size * k) with hj | hj
  · rw [flatMap_at hk d.toList j (by simpa using hj)]
    rw [Array.getElem?_toList, Array.getElem?_eq_getElem (by simpa using hj)]
    have := get_flatK enc k d j hj
    rw [getElem!_pos _ j (by simpa using hj)] at this
    rw [this]
    simp
    congr 2
    rw [getElem!_def]; cases d[j / k]? <;> rfl
  · rw [List.getElem?_eq_none (by simpa using hj), List.getElem?_eq_none (by rw [hl]; exact hj)]

theorem perm_lift {α β : Type} {f : α → β} : ∀ {l : List β} {zs : List α}, (zs.map f).Perm l → ∃ zs', zs.Perm zs' ∧ zs'.map f = l
  | [], zs, h => by
    have : zs = [] := by simpa using h.eq_nil
    subst this
    exact ⟨[], .refl _, rfl⟩
  | y :: l, zs, h => by
    have hy : y ∈ zs.map f := h.symm.subset List.mem_cons_self
    obtain ⟨z, hz, rfl⟩ := List.mem_map.1 hy
    obtain ⟨s, t, rfl⟩ := List.append_of_mem hz
    have h1 : ((s ++ z :: t).map f).Perm (f z :: (s ++ t).map f) := by
      simp only [List.map_append, List.map_cons]
      exact List.perm_middle
    have h2 : ((s ++ t).map f).Perm l := List.Perm.cons_inv (h1.symm.trans h)
    obtain ⟨zs', e1, e2⟩ := perm_lift h2
    exact ⟨z :: zs', List.perm_middle.trans (e1.cons z), by rw [List.map_cons, e2]⟩

theorem kvs_split {us : List Value} : ∀ {xs : List (TA × Bytes)}, RepL L g us (flat (kvs xs)) → ∃ zs : List (KV × (TA × Bytes)), zs.map (·.2) = xs ∧ us = (zs.map (·.1)).flatMap encK ∧ ∀ z ∈ zs, RepL L g (encK z.1) (kcell z.2) ∧ z.1.1.2 = z.2.2 := fun {xs} h => by
  induction xs generalizing us with
  | nil => cases h; exact ⟨[], rfl, rfl, fun z hz => by cases hz⟩
  | cons p xs ih =>
    obtain ⟨⟨k, nm, ns, l⟩, s⟩ := p
    rw [show flat (kvs ((TA.mk k nm ns l, s) :: xs)) = .int .i64 k :: .str nm :: .lst (strA ns) .none :: .lst (TA.avs l) .none :: .str s :: flat (kvs xs) from rfl] at h
    cases h with | cons v0 _ _ _ h0 h =>
    cases h with | cons v1 _ _ _ h1 h =>
    cases h with | cons v2 _ _ _ h2 h =>
    cases h with | cons v3 _ _ _ h3 h =>
    cases h with | cons v4 _ vs _ h4 h =>
    obtain ⟨zs, e1, e2, e3⟩ := ih h
    have hs := rep_str h4
    subst hs
    refine ⟨(⟨([v0, v1, v2, v3], s), rfl, fun v hv => ?_⟩, (.mk k nm ns l, s)) :: zs, by rw [List.map_cons, e1], ?_, fun z hz => ?_⟩
    · simp only [List.mem_cons, List.not_mem_nil, or_false] at hv
      rcases hv with rfl | rfl | rfl | rfl
      · exact oneA_rep h0 rfl
      · exact oneA_rep h1 rfl
      · exact oneA_rep h2 rfl
      · exact oneA_rep h3 rfl
    · rw [List.map_cons, List.flatMap_cons, ← e2]; rfl
    · rcases List.mem_cons.1 hz with rfl | hz
      · exact ⟨.cons _ _ _ _ h0 (.cons _ _ _ _ h1 (.cons _ _ _ _ h2 (.cons _ _ _ _ h3 (.cons _ _ _ _ h4 .nil)))), rfl⟩
      · exact e3 z hz

theorem kvs_join : ∀ {zs : List (KV × (TA × Bytes))}, (∀ z ∈ zs, RepL L g (encK z.1) (kcell z.2) ∧ z.1.1.2 = z.2.2) → RepL L g ((zs.map (·.1)).flatMap encK) (flat (kvs (zs.map (·.2))))
  | [], _ => .nil
  | z :: zs, h => by
    rw [List.map_cons, List.map_cons, List.flatMap_cons]
    exact ((h z List.mem_cons_self).1).append (kvs_join fun y hy => h y (List.mem_cons_of_mem _ hy))

structure SortFMach (L : Lnk) where
  cf : Bytes → Bytes → Int
  lt : ∀ s t : Bytes, cf s t < 0 ↔ s < t
  sort : ∀ (blk off cap : Nat) (d : Array KV) (w : World), HoldsK encK 5 w blk off d → blk < w.heap.size → d.size < 4611686018427387904 →
    Calls L.P (L.num 252) #[.slice (some ⟨blk, off, none⟩) d.size cap, .func (.func (L.num 253)) #[] #[]] w fun e w' =>
      e = .returned (.tuple #[]) ∧ ∃ d' n os, PermIn 0 d.size d d' ∧ SortedIn (fun x y => decide (cf x.1.2 y.1.2 < 0)) 0 d.size d' ∧ w' = sortWorldK encK 5 w blk off n d' os
  none : ∀ (p : Option Addr) (cap : Nat) (fv : Value) (w : World), Calls L.P (L.num 252) #[.slice p 0 cap, fv] w fun e w' => e = .returned (.tuple #[]) ∧ w' = w

theorem SortFMach.sort0 (M : SortFMach L) (H : Heap) : ACalls L 252 [.lst [] .nil, .fn (.func 253) [] []] H fun r H' => r = .ret (.tup []) ∧ H' = H := ext_pure fun g w vs hs hr => by
  obtain ⟨v, u, rfl, h, _⟩ := repL2 hr
  obtain ⟨a, c, k, b, o, vs, rfl, _⟩ := lst_inv h
  exact ⟨_, .tup [] [] .nil, (M.none a c u w).mono fun e w' ⟨e1, e2⟩ => ⟨e1, e2 ▸ Below.refl _ _⟩⟩

theorem SortFMach.sort_spec (M : SortFMach L) (xs : List (TA × Bytes)) (n id t : Nat) (H : Heap) (hH : H[id]? = some (.arr n (kvs xs) t)) (hn : n = xs.length) (hne : xs ≠ []) (hl : n ≤ 2 ^ 40) :
    ACalls L 252 [.vec id n 5 0 n, .fn (.func 253) [] []] H fun r H' => r = .ret (.tup []) ∧ ∃ ys : List (TA × Bytes), ys.Perm xs ∧ ys.Pairwise (fun a b => a.2 ≤ b.2) ∧ H' = H.set id (.arr n (kvs ys) t) := fun g w vs hs hr => by
  obtain ⟨v, u, rfl, h, hu⟩ := repL2 hr
  cases hu with | fn f _ fi ca _ _ hf h1 h2 =>
  cases h1
  cases h2
  cases f with
  | func f =>
    obtain ⟨rfl, _⟩ := hf
    cases h with
    | vec _ _ _ _ _ c s hs' hsk hc hz =>
      obtain ⟨s0, cur, e1, e0, e2, e3, e4, e5, e6, e7, e8, e9, e10⟩ := hs.obj id _ hH
      rw [hs'] at e1; cases e1
      rw [hsk, kvs_length] at e7 e8
      obtain ⟨zs, f1, f2, f3⟩ := kvs_split e8
      have hzl : zs.length = n := by rw [hn, ← f1]; simp
      have hds : (zs.map (·.1)).toArray.size = n := by simp [hzl]
      have hfl : (flatK encK 5 (zs.map (·.1)).toArray).toList = cur.toList.take (xs.length * 5) := by rw [flatK_list encK_len, f2]
      have hfs : (flatK encK 5 (zs.map (·.1)).toArray).size = xs.length * 5 := by simp [hzl, hn]
      have hhold : HoldsK encK 5 w s.b 0 (zs.map (·.1)).toArray := fun j hj => by
        rw [hfs] at hj
        have h3 : cur.toList[j]? = some ((flatK encK 5 (zs.map (·.1)).toArray)[j]!) := by
          have h4 : (flatK encK 5 (zs.map (·.1)).toArray).toList[j]? = cur.toList[j]? := by rw [hfl, List.getElem?_take, if_pos hj]
          rw [← h4, Array.getElem?_toList, Array.getElem?_eq_getElem (by rw [hfs]; exact hj), getElem!_pos _ j (by rw [hfs]; exact hj)]
        rw [Nat.zero_add]
        refine ⟨?_, by simp [World.frozen?, e4]⟩
        simp only [World.cell?, e4, Option.isSome_none, Bool.false_eq_true, if_false]
        rw [← Array.getElem?_toList, h3]
        rfl
      have hcall := M.sort s.b 0 c _ w hhold (hs.bnd _ _ _ hs') (by rw [hds]; omega)
      rw [hds] at hcall
      refine hcall.mono fun e w' ⟨he, d', m, os, hp, hso, hw⟩ => ?_
      obtain ⟨p1, _, p3⟩ := hp
      rw [hds] at p1
      have hperm : (zs.map (·.1)).Perm d'.toList := by
        have e1 : (d'.extract 0 n) = d' := by rw [← p1, Array.extract_size]
        have e2 : ((zs.map (·.1)).toArray.extract 0 n) = (zs.map (·.1)).toArray := by
          conv => lhs; rw [← hds]
          rw [Array.extract_size]
        rw [e1, e2] at p3
        exact p3.symm
      obtain ⟨zs', g1, g2⟩ := perm_lift hperm
      have f3' : ∀ z ∈ zs', RepL L g (encK z.1) (kcell z.2) ∧ z.1.1.2 = z.2.2 := fun z hz => f3 z (g1.symm.subset hz)
      have hzl' : zs'.length = n := by rw [← g1.length_eq, hzl]
      have hys : (zs'.map (·.2)).Perm xs := by rw [← f1]; exact (g1.symm.map _)
      have hd' : d' = (zs'.map (·.1)).toArray := by rw [g2]
      refine ⟨.ret (.tup []), H.set id (.arr n (kvs (zs'.map (·.2))) t), g, ⟨rfl, _, hys, ?_, rfl⟩, Ghost.le.refl g, ?_, _, he, .tup [] [] .nil⟩
      · rw [List.pairwise_iff_getElem]
        intro i j hi hj hij
        have hi' : i < zs'.length := by simpa using hi
        have hj' : j < zs'.length := by simpa using hj
        have h5 := hso i j (Nat.zero_le _) hij (by omega)
        rw [hd'] at h5
        have q1 : (zs'.map (·.1)).toArray[i]! = zs'[i].1 := by rw [getElem!_pos _ i (by simpa using hi')]; simp
        have q2 : (zs'.map (·.1)).toArray[j]! = zs'[j].1 := by rw [getElem!_pos _ j (by simpa using hj')]; simp
        rw [q1, q2] at h5
        dsimp only at h5
        rw [(f3' _ (List.getElem_mem hi')).2, (f3' _ (List.getElem_mem hj')).2] at h5
        have h6 := of_decide_eq_false h5
        have h7 : ¬ zs'[j].2.2 < zs'[i].2.2 := fun hh => h6 ((M.lt _ _).2 hh)
        simpa using List.not_lt.1 h7
      · rw [hw]
        have h7 : sortWorldK encK 5 w s.b 0 m d' os = grow (mapBlock (Sort.ahead w m) s.b (putCells (_root_.id : Value → Value) 0 (flatK encK 5 d'))) os := rfl
        rw [h7]
        have hfs' : (flatK encK 5 d').size = n * 5 := by simp [p1]
        refine row_turn hs hH hs' hsk e4 (grown_at e4) (putCells_size _ _ _ _) (fun y hy => kvs_len5 _ y hy) (by rw [kvs_length, kvs_length, List.length_map, hzl', hn]) (fun b hb hlt => grown_old hb hlt) grown_size rfl rfl rfl ?_
        rw [kvs_length, List.length_map, hzl']
        have h8 := putCells_take (_root_.id : Value → Value) (flatK encK 5 d') cur (by rw [hfs']; omega)
        rw [hfs', List.map_id, flatK_list encK_len] at h8
        rw [h8, hd']
        exact kvs_join f3'
  | _ => exact absurd hf (by simp [FnRep])

end Go.Ag
/- Package types: the library's CompactFunc of keyed types, walked. -/
set_option linter.unusedVariables false
namespace Go.Ag
open Go

variable {T : Tab} {L : Lnk}

def zkv : AVal := .agg [.int .i64 0, .str [], .lst [] .nil, .lst [] .nil, .str []]

structure DStep (xs A : List (TA × Bytes)) (p m : Nat) : Prop where
  len : A.length = xs.length
  front : A.take m = dedK (xs.take p)
  m_eq : m = (dedK (xs.take p)).length
  pos : 1 ≤ p
  lt : m < p
  back : A.drop (p - 1) = xs.drop (p - 1)

theorem DStep.at {xs A : List (TA × Bytes)} {p m : Nat} (h : DStep xs A p m) {j : Nat} (h1 : p - 1 ≤ j) : A[j]? = xs[j]? := by
  have e1 : A[j]? = (A.drop (p - 1))[j - (p - 1)]? := by rw [List.getElem?_drop]; congr 1; omega
  have e2 : xs[j]? = (xs.drop (p - 1))[j - (p - 1)]? := by rw [List.getElem?_drop]; congr 1; omega
  rw [e1, e2, h.back]

theorem DStep.skip {xs A : List (TA × Bytes)} {p m : Nat} (h : DStep xs A p m) (hp : p < xs.length) (he : (xs[p].2 == (xs[p - 1]'(by omega)).2) = true) : DStep xs A (p + 1) m := by
  have h1 := dedK_snoc xs p h.pos hp
  rw [if_pos he, List.append_nil] at h1
  refine ⟨h.len, by rw [h1]; exact h.front, by rw [h1]; exact h.m_eq, by omega, by have := h.lt; omega, ?_⟩
  have e1 : A.drop p = (A.drop (p - 1)).drop 1 := by rw [List.drop_drop]; congr 1; have := h.pos; omega
  have e2 : xs.drop p = (xs.drop (p - 1)).drop 1 := by rw [List.drop_drop]; congr 1; have := h.pos; omega
  show A.drop p = xs.drop p
  rw [e1, e2, h.back]

theorem DStep.take {xs A : List (TA × Bytes)} {p m : Nat} (h : DStep xs A p m) (hp : p < xs.length) (he : (xs[p].2 == (xs[p - 1]'(by omega)).2) = false) : DStep xs (A.take m ++ [xs[p]] ++ A.drop (m + 1)) (p + 1) (m + 1) := by
  have h1 := dedK_snoc xs p h.pos hp
  rw [if_neg (by rw [he]; simp)] at h1
  have hlt := h.lt
  have hlen := h.len
  have hml : (A.take m).length = m := by rw [List.length_take]; omega
  have e0 : (A.take m ++ [xs[p]]).length = m + 1 := by simp [hml]
  refine ⟨by simp; omega, ?_, by rw [h1, List.length_append, ← h.m_eq]; rfl, by omega, by omega, ?_⟩
  · rw [List.take_append_of_le_length (by omega), List.take_of_length_le (by omega), h1, h.front]
  · show List.drop p _ = List.drop p xs
    rw [List.drop_append, List.drop_of_length_le (by omega : (A.take m ++ [xs[p]]).length ≤ p), List.nil_append, e0, List.drop_drop]
    have e1 : A.drop p = (A.drop (p - 1)).drop 1 := by rw [List.drop_drop]; congr 1; have := h.pos; omega
    have e2 : xs.drop p = (xs.drop (p - 1)).drop 1 := by rw [List.drop_drop]; congr 1; have := h.pos; omega
    rw [show m + 1 + (p - (m + 1)) = p from by omega, e1, e2, h.back]

theorem low_zkv (n : Nat) : Low n zkv := .agg _ (LowL.at ⟨.int _ _, .str _, .lst _ _ trivial (by simp), .lst _ _ trivial (by simp), .str _, trivial⟩)
theorem okB_kv (u : TA × Bytes) : okB 5 (AVal.agg (kv u).cells) = true := by
  obtain ⟨⟨k, nm, ns, l⟩, s⟩ := u
  rfl

theorem clr_kv {xs A : List (TA × Bytes)} {n t m r : Nat} (hr : m + (r + 1) = n) (hA : A.length = n) (hf : A.take m = dedK xs) :
    clrM 5 (.agg [.int .i64 0, .str [], .lst [] .nil, .lst [] .nil, .str []]) [.arr n (kvs A) t] (.vec 0 n 5 (0 + m) (r + 1)) = some [.arr n (kvs (dedK xs) ++ List.replicate (r + 1) zkv) t] := by
  rw [Nat.zero_add, clrM]
  simp only [List.getElem?_cons_zero]
  rw [if_pos ⟨trivial, trivial, by rw [kvs_length]; omega, by rw [List.all_eq_true]; exact fun y hy => by simpa using kvs_len5 A y hy⟩]
  have e1 : (kvs A).take m = kvs (dedK xs) := by rw [← hf]; simp [kvs, List.map_take]
  have e2 : (kvs A).drop (m + (r + 1)) = [] := List.drop_of_length_le (by rw [kvs_length]; omega)
  rw [e1, e2, List.append_nil]
  rfl

theorem sub1 {k : Nat} (h1 : 1 ≤ k) (h : k < 9223372036854775808) : IntKind.i64.wrap ((k : Int) - 1) = ((k - 1 : Nat) : Int) := by
  rw [IntWalk.i64_in _ (by omega)]; omega

theorem compact_walk (F : CompFns T) (xs : List (TA × Bytes)) (n t : Nat) (hn : n = xs.length) (hne : xs ≠ []) (hl : n ≤ 2 ^ 40) :
    ACalls T.L 255 [.vec 0 n 5 0 n, .fn (.func 256) [] []] [.arr n (kvs xs) t] fun r H' => r = .ret (.vec 0 n 5 0 (dedK xs).length) ∧ ∃ rest J : List _, (∀ x ∈ rest, Low 0 x ∧ x.cells.length = 5) ∧ (dedK xs).length + rest.length = n ∧ H' = [.arr n (kvs (dedK xs) ++ rest) t] ++ J := by
  have heq := eqk_spec F.h256
  have hpos : 0 < xs.length := List.length_pos_iff.2 hne
  have hk5 := kvs_len5 xs
  refine acallsG F.h255 (by simp [c_255]) ?_
  conv => whnf
  have e2 : ((n : Int) < 2) = (n < 2) := by apply propext; omega
  cases hn2 : decide ((n : Int) < 2)
  · have hn2' : 2 ≤ n := by simp at hn2; omega
    conv => whnf
    intro I hI hG
    have key : ∀ (d i : Nat) (e : Env), n - i = d → 1 ≤ i → i ≤ n → dedK (xs.take i) = xs.take i → I (setL e [(0, .vec 0 n 5 0 n), (1, .fn (.func 256) [] []), (5, .int .i64 i)]) [.arr n (kvs xs) t] := by
      intro d
      induction d with
      | zero =>
        intro i e hd h1 hi hded
        apply hI
        conv => whnf
        rw [lt_false (by omega)]
        conv => whnf
        have : xs.take i = xs := List.take_of_length_le (by omega)
        rw [this] at hded
        refine ⟨?_, [], [], (by simp), ?_, ?_⟩
        · rw [hded, ← hn]; rfl
        · rw [hded, hn]; rfl
        · rw [hded, List.append_nil, List.append_nil]
      | succ d ihd =>
        intro i e hd h1 hi hded
        have hin : i < n := by omega
        have hix : i < xs.length := by omega
        apply hI
        conv => whnf
        rw [lt_true hin]
        conv => whnf
        refine ⟨⟨Int.natCast_nonneg _, by omega, rfl⟩, ?_⟩
        conv => whnf
        rw [sub1 h1 (by omega)]
        refine ⟨⟨Int.natCast_nonneg _, by omega, rfl⟩, ?_⟩
        conv => whnf
        have ha : (0 + ((i : Nat) : Int).toNat) * 5 = i * 5 := by simp
        have hb : (0 + ((i - 1 : Nat) : Int).toNat) * 5 = (i - 1) * 5 := by simp
        rw [ha, hb]
        have hgi : (kvs xs)[i]? = some (kv xs[i]) := by simp [kvs, List.getElem?_map, List.getElem?_eq_getElem hix]
        have hgj : (kvs xs)[i - 1]? = some (kv (xs[i - 1]'(by omega))) := by simp [kvs, List.getElem?_map, List.getElem?_eq_getElem (show i - 1 < xs.length by omega)]
        have hsn : (xs[i].2 == (xs[i - 1]'(by omega)).2) = false → dedK (xs.take (i + 1)) = xs.take (i + 1) := fun he => by
          have h2 := dedK_snoc xs i h1 hix
          rw [if_neg (by rw [he]; simp), hded] at h2
          rw [h2, List.take_succ_eq_append_getElem hix]
        have hq := heq xs[i] (xs[i - 1]'(by omega))
        have hsk : (xs[i].2 == (xs[i - 1]'(by omega)).2) = true → DStep xs xs (i + 1) i := fun he => by
          have h2 := dedK_snoc xs i h1 hix
          rw [if_pos he, List.append_nil, hded] at h2
          exact ⟨rfl, h2.symm, by rw [h2, List.length_take]; omega, by omega, by omega, rfl⟩
        generalize xs[i] = u at hgi hsn hq hsk
        generalize xs[i - 1]'(by omega) = w at hgj hsn hq hsk
        refine step_load (load_kv rfl hk5 hgi) ?_
        conv => whnf
        refine step_load (load_kv rfl hk5 hgj) ?_
        conv => whnf
        refine hq.to ?_
        conv => whnf
        have hi1 : i + 1 < 9223372036854775808 := by omega
        cases huw : (u.2 == w.2)
        · conv => whnf
          exact hG.keep [(0, .vec 0 n 5 0 n), (1, .fn (.func 256) [] []), (5, .int .i64 (i + 1 : Nat))] [.arr n (kvs xs) t] (Nat.le_refl 1) rfl ⟨rfl, rfl, add1 hi1, trivial⟩
            ⟨.vec _ _ _ _ _ (by decide : 0 < 1), .fn _ _ _ low0 low0, .int _ _, trivial⟩ ⟨low_kvs 1 xs, trivial⟩ (ihd (i + 1) _ (by omega) (by omega) (by omega) (hsn huw))
        · have hst := hsk huw
          clear hsk hsn hq ihd hgi hgj ha hb huw
          conv => whnf
          refine ⟨⟨by omega, by omega, by omega, rfl⟩, ?_⟩
          conv => whnf
          rw [Int.toNat_natCast]
          intro J hJ hGJ
          have keyI : ∀ (d k m : Nat) (A : List (TA × Bytes)) (e : Env), n - (i + k) = d → 1 ≤ k → i + k ≤ n → DStep xs A (i + k) m → J (setL e [(0, .vec 0 n 5 0 n), (1, .fn (.func 256) [] []), (5, .int .i64 m), (6, .vec 0 n 5 i (n - i)), (7, .int .i64 k)]) [.arr n (kvs A) t] := by
            intro d
            induction d with
            | zero =>
              intro k m A e hd hk1 hk hst
              apply hJ
              conv => whnf
              rw [lt_false (by omega)]
              conv => whnf
              have hmn : m < n := by have := hst.lt; omega
              obtain ⟨r, hr⟩ : ∃ r, n - m = r + 1 := ⟨n - m - 1, by omega⟩
              refine ⟨⟨by omega, by omega, by omega, rfl⟩, ?_⟩
              conv => whnf
              rw [Int.toNat_natCast, hr]
              conv => whnf
              have hend : i + k = n := by omega
              rw [hend] at hst
              have hxt : xs.take n = xs := List.take_of_length_le (by omega)
              have hfr := hst.front
              have hm := hst.m_eq
              rw [hxt] at hfr hm
              rw [clr_kv (by omega) (by rw [hst.len]; omega) hfr]
              conv => whnf
              refine ⟨⟨by omega, by omega, by omega, rfl⟩, ?_⟩
              conv => whnf
              refine ⟨by rw [← hm]; rfl, List.replicate (r + 1) zkv, [], fun x hx => ?_, by rw [List.length_replicate, ← hm]; omega, by rw [List.append_nil]⟩
              rw [List.eq_of_mem_replicate hx]
              exact ⟨low_zkv 0, rfl⟩
            | succ d ihd =>
              intro k m A e hd hk1 hk hst
              apply hJ
              conv => whnf
              rw [lt_true (by omega)]
              conv => whnf
              have hpx : i + k < xs.length := by omega
              have hA5 := kvs_len5 A
              have hAl := hst.len
              have hlt := hst.lt
              refine ⟨⟨Int.natCast_nonneg _, by omega, rfl⟩, ?_⟩
              conv => whnf
              rw [sub1 hk1 (by omega)]
              refine ⟨⟨Int.natCast_nonneg _, by omega, rfl⟩, ?_⟩
              conv => whnf
              have ha : (i + ((k : Nat) : Int).toNat) * 5 = (i + k) * 5 := by simp
              have hb : (i + ((k - 1 : Nat) : Int).toNat) * 5 = (i + k - 1) * 5 := by rw [Int.toNat_natCast]; congr 1; omega
              rw [ha, hb]
              have hgi : (kvs A)[i + k]? = some (kv xs[i + k]) := by simp [kvs, List.getElem?_map, hst.at (j := i + k) (by omega), List.getElem?_eq_getElem hpx]
              have hgj : (kvs A)[i + k - 1]? = some (kv (xs[i + k - 1]'(by omega))) := by simp [kvs, List.getElem?_map, hst.at (j := i + k - 1) (by omega), List.getElem?_eq_getElem (show i + k - 1 < xs.length by omega)]
              have hq := heq xs[i + k] (xs[i + k - 1]'(by omega))
              have hskip := hst.skip hpx
              have htake := hst.take hpx
              generalize xs[i + k] = u at hgi hq hskip htake
              generalize xs[i + k - 1]'(by omega) = w at hgj hq hskip htake
              refine step_load (load_kv rfl hA5 hgi) ?_
              conv => whnf
              refine step_load (load_kv rfl hA5 hgj) ?_
              conv => whnf
              refine hq.to ?_
              conv => whnf
              have hk1' : k + 1 < 9223372036854775808 := by omega
              have hm1' : m + 1 < 9223372036854775808 := by omega
              cases huw : (u.2 == w.2)
              · have hst' := htake huw
                conv => whnf
                refine ⟨⟨Int.natCast_nonneg _, by omega, rfl⟩, ?_⟩
                conv => whnf
                rw [ha]
                refine step_load (load_kv rfl hA5 hgi) ?_
                conv => whnf
                refine ⟨⟨Int.natCast_nonneg _, by omega, rfl⟩, ?_⟩
                conv => whnf
                rw [okB_kv u, show (0 + ((m : Nat) : Int).toNat) * 5 = m * 5 from by simp, store_kv (H := [.arr n (kvs A) t]) (x := .agg (kv u).cells) (i := m) rfl hA5 (kcell_len u) (by rw [kvs_length]; omega)]
                rw [show (kvs A).take m ++ [AVal.agg (kv u).cells] ++ (kvs A).drop (m + 1) = kvs (A.take m ++ [u] ++ A.drop (m + 1)) from by simp [kvs, List.map_take, List.map_drop]; rfl]
                generalize A.take m ++ [u] ++ A.drop (m + 1) = A' at hst' ⊢
                conv => whnf
                exact hGJ.keep [(0, .vec 0 n 5 0 n), (1, .fn (.func 256) [] []), (5, .int .i64 (m + 1 : Nat)), (6, .vec 0 n 5 i (n - i)), (7, .int .i64 (k + 1 : Nat))] [.arr n (kvs A') t] (Nat.le_refl 1) rfl ⟨rfl, rfl, add1 hm1', rfl, add1 hk1', trivial⟩
                  ⟨.vec _ _ _ _ _ (by decide : 0 < 1), .fn _ _ _ low0 low0, .int _ _, .vec _ _ _ _ _ (by decide : 0 < 1), .int _ _, trivial⟩ ⟨low_kvs 1 A', trivial⟩ (ihd (k + 1) (m + 1) A' _ (by omega) (by omega) (by omega) hst')
              · have hst' := hskip huw
                conv => whnf
                exact hGJ.keep [(0, .vec 0 n 5 0 n), (1, .fn (.func 256) [] []), (5, .int .i64 m), (6, .vec 0 n 5 i (n - i)), (7, .int .i64 (k + 1 : Nat))] [.arr n (kvs A) t] (Nat.le_refl 1) rfl ⟨rfl, rfl, rfl, rfl, add1 hk1', trivial⟩
                  ⟨.vec _ _ _ _ _ (by decide : 0 < 1), .fn _ _ _ low0 low0, .int _ _, .vec _ _ _ _ _ (by decide : 0 < 1), .int _ _, trivial⟩ ⟨low_kvs 1 A, trivial⟩ (ihd (k + 1) m A _ (by omega) (by omega) (by omega) hst')
          exact inv_of [(0, .vec 0 n 5 0 n), (1, .fn (.func 256) [] []), (5, .int .i64 i), (6, .vec 0 n 5 i (n - i)), (7, .int .i64 (1 : Nat))] ⟨rfl, rfl, rfl, by rw [Nat.zero_add] <;> rfl, rfl, trivial⟩ (keyI _ 1 i xs _ rfl (Nat.le_refl 1) (by omega) hst)
    exact inv_of [(0, .vec 0 n 5 0 n), (1, .fn (.func 256) [] []), (5, .int .i64 (1 : Nat))] ⟨rfl, rfl, rfl, trivial⟩ (key _ 1 _ rfl (Nat.le_refl 1) (by omega) (by cases xs with
      | nil => cases hne rfl
      | cons x l => rfl))
  · have hn1 : n = 1 := by simp at hn2; omega
    conv => whnf
    obtain ⟨x, rfl⟩ : ∃ x, xs = [x] := List.length_eq_one_iff.1 (by omega)
    refine ⟨by rw [hn1]; rfl, [], [], by simp, by rw [hn1]; rfl, by rw [List.append_nil, List.append_nil]; rfl⟩

theorem compact_small (F : CompFns T) (xs : List (TA × Bytes)) (n t : Nat) (hn : n = xs.length) (hne : xs ≠ []) (hl : n ≤ 2 ^ 40) :
    ACalls T.L 255 [.vec 0 n 5 0 n, .fn (.func 256) [] []] [.arr n (kvs xs) t] fun r H' => r = .ret (.vec 0 n 5 0 (dedK xs).length) ∧ ∃ rest : List _, (∀ x ∈ rest, Low 0 x ∧ x.cells.length = 5) ∧ (dedK xs).length + rest.length = n ∧ H' = [.arr n (kvs (dedK xs) ++ rest) t] := by
  refine (ACalls.gcR (Q := fun r H' => r = .ret (.vec 0 n 5 0 (dedK xs).length) ∧ ∃ rest : List _, (∀ x ∈ rest, Low 0 x ∧ x.cells.length = 5) ∧ (dedK xs).length + rest.length = n ∧ H' = [.arr n (kvs (dedK xs) ++ rest) t]) ((compact_walk F xs n t hn hne hl).mono fun r' H' ⟨e1, rest, J, hr, hlen, e2⟩ => ⟨.ret (.vec 0 n 5 0 (dedK xs).length), _, [.arr n (kvs (dedK xs) ++ rest) t], J, e2, by rw [e1]; exact Weak.refl _, .vec _ _ _ _ _ (by decide : 0 < 1), rfl, rfl, fun i o o' h1 h2 => by rw [h1] at h2; cases h2; exact WeakO.refl o, LowHs.at ⟨fun x hx => ?_, trivial⟩, rfl, rest, hr, hlen, rfl⟩)).mono fun r H' ⟨_, e1, q⟩ => ⟨e1, q⟩
  rcases List.mem_append.1 hx with hx | hx
  · exact low_kvs 1 _ x hx
  · exact (hr x hx).1.mono (Nat.zero_le 1)

theorem compact_spec (F : CompFns T) (xs : List (TA × Bytes)) (n id t : Nat) (H : Heap) (hH : H[id]? = some (.arr n (kvs xs) t)) (hn : n = xs.length) (hne : xs ≠ []) (hl : n ≤ 2 ^ 40) :
    ACalls T.L 255 [.vec id n 5 0 n, .fn (.func 256) [] []] H fun r H' => r = .ret (.vec id n 5 0 (dedK xs).length) ∧ ∃ rest : List AVal, (∀ x ∈ rest, Low 0 x ∧ x.cells.length = 5) ∧ (dedK xs).length + rest.length = n ∧ H' = H.set id (.arr n (kvs (dedK xs) ++ rest) t) := by
  have q0 : renO (nameOf [id] H.length) (.arr n (kvs xs) t) = .arr n (kvs xs) t := renO_low0 (show LowO 0 (.arr n (kvs xs) t) from low_kvs 0 xs)
  have hp : Part H [id] [.arr n (kvs xs) t] := by
    refine ⟨by simp, rfl, fun k i o hk ho => ?_⟩
    match k, hk, ho with
    | 0, hk, ho => cases hk; cases ho; rw [q0]; exact hH
    | k + 1, hk, ho => cases hk
  have hf := ACalls.frameL (compact_small F xs n t hn hne hl) [id] hp (.inr fun r H' ⟨_, rest, _, _, e⟩ => by rw [e]; exact Nat.le_refl 1)
  refine hf.mono fun r H' ⟨r1, H1', ⟨e1, rest, hr, hlen, e2⟩, _, e3, e4⟩ => ?_
  subst e1 e2
  refine ⟨e3, rest, hr, hlen, ?_⟩
  have q1 : renO (nameOf [id] H.length) (.arr n (kvs (dedK xs) ++ rest) t) = .arr n (kvs (dedK xs) ++ rest) t := renO_low0 (show LowO 0 (.arr n (kvs (dedK xs) ++ rest) t) from fun x hx => by
    rcases List.mem_append.1 hx with hx | hx
    · exact low_kvs 0 _ x hx
    · exact (hr x hx).1)
  rw [e4]
  simp only [List.length_cons, List.length_nil, List.take_succ_cons, List.take_zero, List.drop_succ_cons, List.drop_zero, List.map_cons, List.map_nil, List.append_nil, putL]
  exact congrArg (H.set id) q1

theorem compact0_spec (F : CompFns T) (H : Heap) : ACalls T.L 255 [.lst [] .nil, .fn (.func 256) [] []] H fun r H' => r = .ret (.lst [] .nil) ∧ H' = H := by
  have h0 : Pure T.L 255 [.lst [] .nil, .fn (.func 256) [] []] (.lst [] .nil) := by
    refine Pure.run (LowL.at ⟨.lst _ _ trivial (by simp), .fn _ _ _ low0 low0, trivial⟩) (.lst _ _ trivial (by simp)) (acallsG F.h255 (by simp [c_255]) ?_)
    conv => whnf
    exact ret_weak (Weak.refl _)
  exact h0 H

end Go.Ag
