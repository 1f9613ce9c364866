/- slices.SortFunc of keyed types at this seat: its comparing function walked, the library's contract laid. -/
import Derived.Shelf.SlSortCmp.WholeK
import Derived.Test.YtmjgjmaljdgcpaaGreatDoorSortShelf
import Derived.Ground.SlsfProg
import Derived.Test.YtmjgjmaljdgcpaaGreatDoorMachA
import Derived.Test.YtmjgjmaljdgcpaaGreatDoorTextI
import Derived.Tactics
import Derived.Tactics2
import Derived.KernelRfl
set_option maxRecDepth 100000
namespace Go.Proofs
open Go.Shelf Go.RowKit Go.Lib Go.Sort
theorem Tryz.less_eq (a b : List UInt8) : Op.bytesLess a b = decide (a < b) := by
  induction a generalizing b with
  | nil => cases b <;> simp [Op.bytesLess]
  | cons x a ih =>
    cases b with
    | nil => simp [Op.bytesLess]
    | cons y b =>
      simp only [Op.bytesLess, ih]
      rw [Bool.eq_iff_iff]
      simp [List.cons_lt_cons_iff]
theorem Tryz.cmp41 (s t : List UInt8) (W : World) : Calls Tryz.prog 67 #[.string ⟨s.toArray⟩, .string ⟨t.toArray⟩] W fun e w' => e = .returned (.int .i64 (if s < t then -1 else if t < s then 1 else 0)) ∧ w' = W := by
  have hs : (⟨s.toArray⟩ : ByteArray).toList = s := Ag.zN s
  have ht : (⟨t.toArray⟩ : ByteArray).toList = t := Ag.zN t
  generalize (⟨s.toArray⟩ : ByteArray) = S at hs ⊢
  generalize (⟨t.toArray⟩ : ByteArray) = U at ht ⊢
  have hgt : ∀ W, (binOp .gtr 9 (.string S) (.string U)).run Tryz.prog W = .ok (.bool (Op.bytesLess U.toList S.toList)) W := fun W => by
    simp [binOp, go_sem, Op.stringOp]
    rw [hs, ht, Tryz.less_eq, Tryz.less_eq]
    rw [Bool.eq_iff_iff]
    simp
    constructor
    · rintro ⟨h1, h2⟩
      rcases Nat.lt_trichotomy 0 0 with h | h | h
      all_goals first | omega | exact Classical.byContradiction fun h3 => h2 (List.le_antisymm (List.not_lt.1 h3) h1)
    · intro h
      exact ⟨List.le_of_lt h, fun e => by subst e; exact List.lt_irrefl _ h⟩
  go_enter Tryz.func67, Tryz.ntmps67
  go_wp2
  all_goals go_ret
  all_goals first | exact ⟨rfl, rfl⟩ | (exfalso; simp only [Tryz.less_eq, decide_eq_true_eq, decide_eq_false_iff_not] at *; first | contradiction | exact absurd ‹t < s› (List.not_lt.2 (List.le_of_lt ‹s < t›)))
theorem Tryz.keyed_cmp (a0 a1 a2 a3 b0 b1 b2 b3 : Value) (s t : List UInt8) (W : World) :
    Calls Tryz.prog 66 #[.agg #[a0, a1, a2, a3, .string ⟨s.toArray⟩], .agg #[b0, b1, b2, b3, .string ⟨t.toArray⟩]] W fun e w' => e = .returned (.int .i64 (if s < t then -1 else if t < s then 1 else 0)) ∧ ∃ q os', w' = grow (W.drewN q) os' := by
  have hcon := fun W' => Tryz.cmp41 s t W'
  generalize (if s < t then (-1 : Int) else if t < s then 1 else 0) = r at hcon ⊢
  go_enter Tryz.func66, Tryz.ntmps66
  go_wp2_with (go_at_call 67; refine (hcon _).mono ?_; rintro e w' ⟨rfl, rfl⟩)
  go_ret
  exact ⟨rfl, 0, _, by rw [alloc_eq_grow, alloc_eq_grow, grow_grow]; rfl⟩
open Go.Ag in
theorem Tryz.ltKV (x y : KV) : ltOf (fun x y : KV => if x.1.2 < y.1.2 then (-1 : Int) else if y.1.2 < x.1.2 then 1 else 0) x y = decide (x.1.2 < y.1.2) := by
  unfold ltOf
  by_cases h : x.1.2 < y.1.2
  · simp [h]
  · by_cases h2 : y.1.2 < x.1.2 <;> simp [h, h2]
open Go.Ag in
theorem Tryz.swoKV : SWO (ltOf fun x y : KV => if x.1.2 < y.1.2 then (-1 : Int) else if y.1.2 < x.1.2 then 1 else 0) where
  irrefl x := by rw [Tryz.ltKV]; simp
  trans x y z h1 h2 := by
    rw [Tryz.ltKV] at *
    exact decide_eq_true (List.lt_trans (of_decide_eq_true h1) (of_decide_eq_true h2))
  ntrans x y z h1 h2 := by
    rw [Tryz.ltKV] at *
    exact decide_eq_false (List.not_lt.2 (List.le_trans (List.not_lt.1 (of_decide_eq_false h2)) (List.not_lt.1 (of_decide_eq_false h1))))
open Go.Ag in
theorem Tryz.cmpLaysKV (blk off size : Nat) (w : World) : CmpLays Tryz.prog 66 #[] rP 5 (fun x y : KV => if x.1.2 < y.1.2 then (-1 : Int) else if y.1.2 < x.1.2 then 1 else 0) blk off size w := fun m os dk _ x y => by
  obtain ⟨⟨l, s⟩, h1, _⟩ := x
  obtain ⟨⟨l', t⟩, h2, _⟩ := y
  match l, h1, l', h2 with
  | [a0, a1, a2, a3], _, [b0, b1, b2, b3], _ => exact Tryz.keyed_cmp a0 a1 a2 a3 b0 b1 b2 b3 s t _
theorem Tryz.ins_nil (p : Option Addr) (cap : Nat) (fv : Value) (w : World) : Calls Tryz.prog 120 #[.slice p 0 cap, .int .i64 0, .int .i64 0, fv] w fun e w' => e = .returned (.tuple #[]) ∧ w' = w := by
  go_enter Tryz.func120, Tryz.ntmps120
  go_wp2
  refine wp_loop_rounds 1 ?_
  rw [rounds_succ]
  go_wp2
  go_end0
  exact ⟨rfl, rfl⟩
theorem Tryz.pdq_nil (p : Option Addr) (cap : Nat) (lim : Int) (fv : Value) (w : World) : Calls Tryz.prog 94 #[.slice p 0 cap, .int .i64 0, .int .i64 0, .int .i64 lim, fv] w fun e w' => e = .returned (.tuple #[]) ∧ w' = w := by
  have hi := fun W => Tryz.ins_nil p cap fv W
  go_enter Tryz.func94, Tryz.ntmps94
  go_wp2
  refine wp_loop_rounds 1 ?_
  rw [rounds_succ]
  go_wp2_with (go_at_call 120; refine (hi _).mono ?_; rintro e w' ⟨rfl, rfl⟩)
  (try simp only [Exit.inBlock, Exit.then]); refine bodyPost_ret (results_none rfl _ _ _) rfl ?_
  exact ⟨rfl, rfl⟩
theorem Tryz.sortF_nil (p : Option Addr) (cap : Nat) (fv : Value) (w : World) : Calls Tryz.prog 65 #[.slice p 0 cap, fv] w fun e w' => e = .returned (.tuple #[]) ∧ w' = w := by
  have hp := fun lim W => Tryz.pdq_nil p cap lim fv W
  have hl : ∀ W, Calls Tryz.prog 95 #[.int .u64 0] W fun e w' => e = .returned (.int .i64 (Lib.bitLen 0 : Nat)) ∧ w' = W := fun W => Tryz.bits_Len 0 W (by omega) (by omega)
  go_enter Tryz.func65, Tryz.ntmps65
  go_wp2_with (first | (go_at_call 95; refine (hl _).mono ?_; rintro e w' ⟨rfl, rfl⟩) | (go_at_call 94; refine (hp _ _).mono ?_; rintro e w' ⟨rfl, rfl⟩))
  go_end0
  exact ⟨rfl, rfl⟩
end Go.Proofs
namespace Go.Proofs.YtmjgjmaljdgcpaaGreatDoor
open Go Go.Ag Go.Shelf Go.Sort
noncomputable def sortF : sW (lnk startOK) where
  cf := fun s t => if s < t then -1 else if t < s then 1 else 0
  lt := fun s t => by
    by_cases h : s < t
    · simp [h]
    · by_cases h2 : t < s <;> simp [h, h2]
  sort := fun blk off cap d w hH hblk hsz =>
    AnyQ.slices_SortFunc Tryz.sortKeyed 5 Tryz.isAgg124 Tryz.sizeOf124 rP Ef Uc _ Tryz.swoKV 66 #[] blk off cap d w (enters_of Tryz.func66 (by kernel_rfl) rfl) (Tryz.cmpLaysKV blk off d.size w) hH hblk hsz
  none := fun p cap fv w => Tryz.sortF_nil p cap fv w
end Go.Proofs.YtmjgjmaljdgcpaaGreatDoor
