/- strings.IndexRune at a rune that is no ASCII, in an ASCII text: -1. -/
import Derived.Shelf.Strings.IndexAny
import Derived.Laws.RangeAny
import Derived.Laws.Runes
import Derived.Shelf.Small.Utf8
import Derived.Shelf.RegionOpenPlain
import Derived.Below
import Derived.Lib.OthersKept
import Derived.Shelf.Strings.IndexAnyAll
import Derived.Deep.QuietTactic
import Derived.BigQuiet
set_option linter.unusedVariables false
namespace Go.Proofs
open Go.Shelf Go.RowKit Go.Lib
variable {P : Program} {ρ : Ren}


theorem encode_two (r : Int) (h : 128 ≤ r) : 2 ≤ (Utf8.encode r).size ∧ (Utf8.encode r).size ≤ 4 ∧ ∀ (hi : (Utf8.encode r).size - 1 < (Utf8.encode r).size), 128 ≤ ((Utf8.encode r)[(Utf8.encode r).size - 1]'hi).toNat := by
  have key : ∀ c : Nat, 128 ≤ 0x80 + c % 64 ∧ 0x80 + c % 64 < 256 := fun c => by omega
  have hc : ¬ (if Utf8.valid r then r.toNat else Utf8.runeError) < 128 := by
    split
    · omega
    · decide
  unfold Utf8.encode
  dsimp only
  rw [if_neg hc]
  generalize (if Utf8.valid r then r.toNat else Utf8.runeError) = c at hc
  have hk := key c
  split
  · refine ⟨by show 2 ≤ 2; omega, by show 2 ≤ 4; omega, fun hi => ?_⟩
    show 128 ≤ (UInt8.ofNat (0x80 + c % 64)).toNat
    rw [UInt8.toNat_ofNat']; omega
  · split
    · refine ⟨by show 2 ≤ 3; omega, by show 3 ≤ 4; omega, fun hi => ?_⟩
      show 128 ≤ (UInt8.ofNat (0x80 + c % 64)).toNat
      rw [UInt8.toNat_ofNat']; omega
    · refine ⟨by show 2 ≤ 4; omega, by show 4 ≤ 4; omega, fun hi => ?_⟩
      show 128 ≤ (UInt8.ofNat (0x80 + c % 64)).toNat
      rw [UInt8.toNat_ofNat']; omega

theorem indexByte_high (l : List UInt8) (c : UInt8) (hc : 128 ≤ c.toNat) (hl : ∀ (j : Nat) b, l[j]? = some b → b.toNat < 128) : Lib.indexByte l c = -1 := by
  induction l with
  | nil => rfl
  | cons x l ih =>
    have hx := hl 0 x rfl
    have h2 := ih fun j b h => hl (j + 1) b (by simpa using h)
    unfold Lib.indexByte
    rw [if_neg (fun e => by have e := beq_iff_eq.1 e; subst e; omega), h2]
    rfl

set_option maxHeartbeats 4000000 in
set_option maxRecDepth 1000000 in
theorem Ag.strings_IndexRune_high (L : Lays.n152 P ρ) (s : ByteArray) (r : Int) (w : World) (h0 : 128 ≤ r) (h1 : r ≤ 2147483647) (hs : s.size < 4294967281) (hascii : ∀ (j : Nat) b, s.data.toList[j]? = some b → b.toNat < 128) :
    Calls P (ρ.f 152) #[.string s, .int .i32 r] w fun e w' => e = .returned (.int .i64 (-1)) ∧ Below w.heap.size w w' := by
  have mixed := L.mixed
  have t3 := L.t3; have a3 := L.a3; have z3 := L.z3; have v3 := L.v3
  have t4 := L.t4; have a4 := L.a4; have z4 := L.z4; have v4 := L.v4
  have t5 := L.t5; have a5 := L.a5; have z5 := L.z5; have v5 := L.v5
  have t9 := L.t9; have a9 := L.a9; have z9 := L.z9; have v9 := L.v9
  have t21 := L.t21; have a21 := L.a21; have z21 := L.z21; have v21 := L.v21
  have e137 : ∀ args w, (callFunc (ρ.f 137) args).run P w = .ok (.enter (ρ.f 137) args) w := enters_of L.f137 (by kernel_rfl) rfl
  have e119 : ∀ args w, (callFunc (ρ.f 119) args).run P w = .ok (.enter (ρ.f 119) args) w := enters_of L.f119 (by kernel_rfl) rfl
  obtain ⟨rs, hrs⟩ : ∃ rs, Utf8.encode r = rs := ⟨_, rfl⟩
  obtain ⟨q1, q2, q3⟩ := encode_two r h0
  rw [hrs] at q1 q2 q3
  have hconv : ∀ w, (convert (ρ.t 21) (ρ.t 9) (.int .i32 r)).run P w = .ok (.string rs) w := fun w => by rw [run_convert_int_string w _ _ _ _ (by rw [t21]; rfl) t9, hrs]
  obtain ⟨x, hx⟩ : ∃ x : UInt8, rs[rs.size - 1]'(by omega) = x := ⟨_, rfl⟩
  have hx128 : 128 ≤ x.toNat := by rw [← hx]; exact q3 (by omega)
  have HA : Aside ((∀ (j : Nat) b, s.data.toList[j]? = some b → b.toNat < 128) ∧ Utf8.encode r = rs) := ⟨hascii, hrs⟩
  clear hascii hrs q3
  go_enter L.f152, Body.n152_ntmps ρ
  go_wp2_with (first
    | (go_at_fn (ρ.f 137); refine (Any.strings_IndexByte { L with } _ _ _).mono ?_; rintro e w' ⟨rfl, hw⟩; rw [hw])
    | (go_at_fn (ρ.f 119); refine (Any.utf8_ValidRune { L with } _ _).mono ?_; rintro e w' ⟨rfl, hw⟩; rw [hw]))
  · go_loopg [5, 6] s.size (fun g _ _ wx => ∃ i : Nat, i + g = s.size ∧ wx = w.iter s i)
    case atStart => exact ⟨0, by omega, rfl⟩
    case round =>
      obtain ⟨i, hig, rfl⟩ := hrel
      cases gk with
      | zero =>
        obtain rfl : i = s.size := by omega
        have hnx := run_next_end (P := P) w s s.size
        go_wp2
        go_ret
        exact ⟨rfl, (Below.refl _ _).alloc (Nat.le_refl _) _⟩
      | succ g =>
        have hi : i < s.size := by omega
        have ha : (s[i]'hi).toNat < 128 := HA.out.1 i _ (Lib.data_getElem? s i hi)
        have hnx := fun ty => run_next_ascii (P := P) w s i ty hi ha
        have hne : ((((s[i]'hi).toNat : Int)) == 65533) = false := by simp; omega
        go_wp2
        go_roundg g
        case measure => omega
        case rel => exact ⟨i + 1, by omega, rfl⟩
  · go_ret
    exact ⟨rfl, Below.refl _ _⟩
  · go_step3
    go_wp2_with (go_at_fn (ρ.f 137); refine (Any.strings_IndexByte { L with } _ _ _).mono ?_; rintro e w' ⟨rfl, hw⟩; rw [hw])
    go_loopg [9] 0 (fun _ s9 wx => s9 = .int .i64 ((rs.size : Int) - 1) ∧ wx = w)
    case atStart => exact ⟨rfl, rfl⟩
    case round =>
      obtain ⟨rfl, rfl⟩ := hrel
      by_cases hlt : rs.size - 1 < s.size
      · obtain ⟨y, hy⟩ : ∃ y : UInt8, s[rs.size - 1]'hlt = y := ⟨_, rfl⟩
        have hy128 : y.toNat < 128 := HA.out.1 (rs.size - 1) y (by rw [← hy]; exact Lib.data_getElem? s _ hlt)
        have hi1 : ∀ w, (Instr.index (ρ.t 9) (.string s) (.int .i64 ((rs.size : Int) - 1))).run P w = .ok (.int .u8 (y.toNat : Nat)) w := fun w => by
          rw [run_index_string w _ s _ _ t9, dif_pos ⟨by omega, by omega⟩]
          have e : ((rs.size : Int) - 1).toNat = rs.size - 1 := by omega
          simp only [e, hy]
        have hi2 : ∀ w, (Instr.index (ρ.t 9) (.string rs) (.int .i64 ((rs.size : Int) - 1))).run P w = .ok (.int .u8 (x.toNat : Nat)) w := fun w => by
          rw [run_index_string w _ rs _ _ t9, dif_pos ⟨by omega, by omega⟩]
          have e : ((rs.size : Int) - 1).toNat = rs.size - 1 := by omega
          simp only [e, hx]
        have hne : (((y.toNat : Nat) : Int) == ((x.toNat : Nat) : Int)) = false := by simp; omega
        clear hx hy
        go_wp2
        go_step3
        go_wp2
        go_quiet_o (fail)
        go_wp2
        have hsl : ∀ w, (Instr.slice (ρ.t 9) (.string s) (some (.int .i64 (IntKind.i64.wrap (rs.size : Int)))) none none).run P w = .ok (.string (s.extract rs.size s.size)) w := fun w => by
          have e : IntKind.i64.wrap (rs.size : Int) = rs.size := wrap_small _ (by omega) (by omega)
          rw [e]
          exact run_slice_string_l w (ρ.t 9) s t9 .i64 rs.size (by omega) (by omega)
        have hib : Lib.indexByte (s.extract rs.size s.size).data.toList (((x.toNat : Nat) : Int)).toNat.toUInt8 = -1 := by
          have e : (((x.toNat : Nat) : Int)).toNat.toUInt8 = x := by simp
          rw [e]
          refine indexByte_high _ _ hx128 fun j b hb => ?_
          have hm := mem_extract (List.mem_of_getElem? hb)
          obtain ⟨k, hk⟩ := List.mem_iff_getElem?.1 hm
          exact HA.out.1 k b hk
        have hIB := Any.strings_IndexByte (P := P) (ρ := ρ) { L with } (s.extract rs.size s.size) ((x.toNat : Nat) : Int)
        rw [hib] at hIB
        go_quiet_o (first | (go_at_fn (ρ.f 137); refine (hIB _).mono ?_; rintro e w' ⟨he, hw⟩; exact ⟨he, _, hw⟩))
        go_wp2
        rw [Exit.noGoto_ret]
        go_wp2
        rw [Exit.noGoto_ret]
        go_wp2
        go_ret
        exact ⟨rfl, ⟨rfl, rfl, rfl, Nat.le_refl _, fun _ _ => rfl⟩⟩
      · have hn : ¬ ((rs.size : Int) - 1 < (s.size : Int)) := by omega
        go_wp2
        go_ret
        exact ⟨rfl, Below.refl _ _⟩

/-- What a decoded code point that is no ASCII stands on: bytes that are no ASCII. -/
theorem decode_bytes (s : ByteArray) (pos : Nat) (h : pos < s.size) (ha : 128 ≤ (s[pos]'h).toNat) : pos + (Utf8.decode s pos).2 ≤ s.size ∧ ∀ k, k < (Utf8.decode s pos).2 → ∀ b, s.data.toList[pos + k]? = some b → 128 ≤ b.toNat := by
  have hn : ¬ (s[pos]'h).toNat < 128 := by omega
  have g : ∀ k, pos + k < s.size → ∀ b, s.data.toList[pos + k]? = some b → (s.get! (pos + k)).toNat = b.toNat := fun k hk b hb => by
    have e : s.get! (pos + k) = s[pos + k]'hk := by
      show s.get! (pos + k) = _
      simp [ByteArray.get!, getElem!_pos, hk]
      rfl
    have e2 := Lib.data_getElem? s (pos + k) hk
    rw [e2] at hb
    cases hb
    rw [e]
  have g0 : ∀ b, s.data.toList[pos + 0]? = some b → 128 ≤ b.toNat := fun b hb => by
    have := g 0 (by omega) b hb
    rw [get_at s pos h] at this
    omega
  have one : pos + 1 ≤ s.size ∧ ∀ k, k < 1 → ∀ b, s.data.toList[pos + k]? = some b → 128 ≤ b.toNat := ⟨by omega, fun k hk b hb => by
    obtain rfl : k = 0 := by omega
    exact g0 b hb⟩
  have cont : ∀ k, (decide (pos + k < s.size) && (s.get! (pos + k)).toNat / 64 == 2) = true → pos + k < s.size ∧ ∀ b, s.data.toList[pos + k]? = some b → 128 ≤ b.toNat := fun k hk => by
    simp only [Bool.and_eq_true, decide_eq_true_eq, beq_iff_eq] at hk
    refine ⟨hk.1, fun b hb => ?_⟩
    have := g k hk.1 b hb
    omega
  simp only [Utf8.decode, get_at s pos h, hn, if_false]
  split
  · rename_i h1
    simp only [Bool.and_eq_true] at h1
    obtain ⟨c1, c2⟩ := cont 1 (by simpa using h1.2)
    split
    · refine ⟨by show pos + 2 ≤ _; omega, fun k hk b hb => ?_⟩
      have hk : k < 2 := hk
      rcases (by omega : k = 0 ∨ k = 1) with rfl | rfl
      · exact g0 b hb
      · exact c2 b hb
    · exact one
  · split
    · rename_i h1
      simp only [Bool.and_eq_true] at h1
      obtain ⟨c1, c2⟩ := cont 1 (by simpa using h1.1.2)
      obtain ⟨d1, d2⟩ := cont 2 (by simpa using h1.2)
      split
      · refine ⟨by show pos + 3 ≤ _; omega, fun k hk b hb => ?_⟩
        have hk : k < 3 := hk
        rcases (by omega : k = 0 ∨ k = 1 ∨ k = 2) with rfl | rfl | rfl
        · exact g0 b hb
        · exact c2 b hb
        · exact d2 b hb
      · exact one
    · split
      · rename_i h1
        simp only [Bool.and_eq_true] at h1
        obtain ⟨c1, c2⟩ := cont 1 (by simpa using h1.1.1.2)
        obtain ⟨d1, d2⟩ := cont 2 (by simpa using h1.1.2)
        obtain ⟨e1, e2⟩ := cont 3 (by simpa using h1.2)
        split
        · refine ⟨by show pos + 4 ≤ _; omega, fun k hk b hb => ?_⟩
          have hk : k < 4 := hk
          rcases (by omega : k = 0 ∨ k = 1 ∨ k = 2 ∨ k = 3) with rfl | rfl | rfl | rfl
          · exact g0 b hb
          · exact c2 b hb
          · exact d2 b hb
          · exact e2 b hb
        · exact one
      · exact one

theorem NoAny.more {s chars : List UInt8} {i : Nat} (h : Lib.NoAny s chars i) (hac : ∀ (j : Nat) b, chars[j]? = some b → b.toNat < 128) : ∀ n, (∀ k, k < n → ∀ b, s[i + k]? = some b → 128 ≤ b.toNat) → Lib.NoAny s chars (i + n) := fun n hn j b hj hb => by
  rcases Nat.lt_or_ge j i with hji | hji
  · exact h j b hji hb
  · have := hn (j - i) (by omega) b (by rw [show i + (j - i) = j from by omega]; exact hb)
    cases hc : chars.contains b with
    | false => rfl
    | true =>
      obtain ⟨k, hk⟩ := List.mem_iff_getElem?.1 (List.contains_iff_mem.1 hc)
      have := hac k b hk
      omega

set_option maxHeartbeats 8000000 in
set_option maxRecDepth 1000000 in
theorem Ag.strings_IndexAny_any (L : Lays.n153 P ρ) (s chars : ByteArray) (w : World) (h2 : 2 ≤ chars.size) (h8 : s.size ≤ 8) (hcs : chars.size < 4294967281) (hac : ∀ (j : Nat) b, chars.data.toList[j]? = some b → b.toNat < 128) :
    Calls P (ρ.f 153) #[.string s, .string chars] w fun e w' => e = .returned (.int .i64 (Lib.indexAny s.data.toList chars.data.toList)) ∧ Below w.heap.size w w' := by
  have HA : Aside (∀ (j : Nat) b, chars.data.toList[j]? = some b → b.toNat < 128) := hac
  clear hac
  have hemp : chars.toList.isEmpty = false := by
    rw [Lib.toList_data]
    cases h : chars.data.toList with
    | nil => have := Lib.size_eq chars; rw [h, List.length_nil] at this; omega
    | cons _ _ => rfl
  have hn1 : ((chars.size : Int) == 1) = false := beq_eq_false_iff_ne.2 (by omega)
  have h8z : decide ((8 : Int) < (s.size : Int)) = false := decide_eq_false (by omega)
  have t3 := L.t3; have a3 := L.a3; have z3 := L.z3; have v3 := L.v3
  have t4 := L.t4; have a4 := L.a4; have z4 := L.z4; have v4 := L.v4
  have t5 := L.t5; have a5 := L.a5; have z5 := L.z5; have v5 := L.v5
  have t9 := L.t9; have a9 := L.a9; have z9 := L.z9; have v9 := L.v9
  have t21 := L.t21; have a21 := L.a21; have z21 := L.z21; have v21 := L.v21
  have e152 : ∀ args w, (callFunc (ρ.f 152) args).run P w = .ok (.enter (ρ.f 152) args) w := enters_of L.f152 (by kernel_rfl) rfl
  have e226 : ∀ args w, (callFunc (ρ.f 226) args).run P w = .ok (.enter (ρ.f 226) args) w := enters_of L.f226 (by kernel_rfl) rfl
  go_enter L.f153, Body.n153_ntmps ρ
  go_wp2_with (go_at_fn (ρ.f 226); refine (Any.strings_shouldUseASCIISet { L with } _ _).mono ?_; rintro e w' ⟨rfl, hw⟩; rw [hw, h8z])
  go_loopg [9, 10] s.size (fun g _ _ wx => ∃ i : Nat, i ≤ s.size ∧ s.size ≤ i + g ∧ wx.heap[w.heap.size]? = some (.stringIter s i) ∧ Below w.heap.size w wx ∧ Lib.NoAny s.data.toList chars.data.toList i)
  case atStart => exact ⟨0, by omega, by omega, World.iter_heap w s 0, (Below.refl _ _).alloc (Nat.le_refl _) _, Lib.NoAny.zero _ _⟩
  case round =>
    obtain ⟨i, hi0, hig, hit, hbel, hno⟩ := hrel
    have HN : Aside (Lib.NoAny s.data.toList chars.data.toList i ∧ Below w.heap.size w wr ∧ wr.heap[w.heap.size]? = some (.stringIter s i)) := ⟨hno, hbel, hit⟩
    have hsz : w.heap.size < wr.heap.size := (Array.getElem?_eq_some_iff.1 hit).1
    by_cases hi : i < s.size
    · obtain ⟨x, hx⟩ : ∃ x : UInt8, s[i]'hi = x := ⟨_, rfl⟩
      have hxl : s.data.toList[i]? = some x := by rw [← hx]; exact Lib.data_getElem? s i hi
      by_cases hx128 : x.toNat < 128
      · have hnx := fun ty => run_next_ascii_at (P := P) wr w.heap.size s i ty hit hi (by rw [hx]; exact hx128)
        rw [hx] at hnx
        have Hx : Aside (s.data.toList[i]? = some x) := hxl
        clear hxl hx hno hbel hit
        have hcon := Lib.contains_iff_indexByte chars.data.toList x
        have hback : ((x.toNat : Int)).toNat.toUInt8 = x := by simp
        cases hin : chars.data.toList.contains x
        · rw [hin] at hcon
          have hlt : ¬ ((0 : Int) ≤ Lib.indexByte chars.data.toList x) := of_decide_eq_false hcon.symm
          clear hcon
          go_wp2_with (go_at_fn (ρ.f 152); refine (Any.strings_IndexRune_ascii { L with } _ _ _ (by omega) (by omega)).mono ?_; rintro e w' ⟨rfl, hw⟩; rw [hw, hback])
          go_roundg (gk - 1)
          case measure => omega
          case rel => exact ⟨i + 1, by omega, by omega, Lib.iterAt_heap _ _ _ _ _ HN.out.2.2, Lib.below_iterAt HN.out.2.1 (Nat.le_refl _) _ _, HN.out.1.succ Hx.out hin⟩
        · rw [hin] at hcon
          have hge : (0 : Int) ≤ Lib.indexByte chars.data.toList x := of_decide_eq_true hcon.symm
          clear hcon
          go_wp2_with (go_at_fn (ρ.f 152); refine (Any.strings_IndexRune_ascii { L with } _ _ _ (by omega) (by omega)).mono ?_; rintro e w' ⟨rfl, hw⟩; rw [hw, hback])
          go_ret
          exact ⟨by rw [Lib.indexAny_hit HN.out.1 Hx.out hin]; rfl, Lib.below_iterAt HN.out.2.1 (Nat.le_refl _) _ _⟩
      · have hnx := fun ty => run_next_any_at (P := P) wr w.heap.size s i ty hit hi
        obtain ⟨d1, d2⟩ := decode_high s i hi (by rw [hx]; omega)
        have d3 := decode_le s i
        obtain ⟨d4, d5⟩ := decode_bytes s i hi (by rw [hx]; omega)
        obtain ⟨r, n, hrn⟩ : ∃ r n, Utf8.decode s i = (r, n) := ⟨_, _, rfl⟩
        rw [hrn] at hnx d1 d2 d3 d4 d5
        dsimp only at hnx d1 d2 d3 d4 d5
        have HD : Aside (∀ k, k < n → ∀ b, s.data.toList[i + k]? = some b → 128 ≤ b.toNat) := d5
        clear hxl hx hno hbel hit d5 hrn
        have cR := Ag.strings_IndexRune_high (P := P) (ρ := ρ) { L with } chars (r : Int) (wr.iterAt w.heap.size s (i + n)) (by omega) (by omega) hcs HA.out
        go_wp2_with (go_at_fn (ρ.f 152); refine cR.mono ?_; rintro e w2 ⟨rfl, hb2⟩)
        go_roundg (gk - 1)
        case measure => omega
        case rel =>
          refine ⟨i + n, by omega, by omega, ?_, ?_, NoAny.more HN.out.1 HA.out n HD.out⟩
          · rw [hb2.block _ (by rw [Lib.iterAt_size]; exact hsz)]
            exact Lib.iterAt_heap _ _ _ _ _ HN.out.2.2
          · exact (Lib.below_iterAt HN.out.2.1 (Nat.le_refl _) _ _).trans (hb2.mono (by rw [Lib.iterAt_size]; omega))
    · obtain rfl : i = s.size := by omega
      have hnx := fun ty => run_next_end_at (P := P) wr w.heap.size s s.size ty hit (by omega)
      clear hno hbel hit
      go_wp2
      go_ret
      exact ⟨by rw [Lib.indexAny_none (by rw [← Lib.size_eq]; exact HN.out.1)]; rfl, HN.out.2.1⟩

/-- strings.ContainsAny at an ASCII set of two or more, whatever the text. -/
theorem Ag.strings_ContainsAny (L : Lays.n150 P ρ) (hv116 : ∀ w, (zeroValue (ρ.t 116)).run P w = .ok (.agg (Array.replicate 256 (.bool false))) w) (hi116 : (P.info? (ρ.t 116)).map (·.size) = some 256) (s chars : ByteArray) (w : World) (h2 : 2 ≤ chars.size) (hs : s.size < 4294967281) (hcs : chars.size < 4294967281)
    (hac : ∀ (j : Nat) b, chars.data.toList[j]? = some b → b.toNat < 128) :
    Calls P (ρ.f 150) #[.string s, .string chars] w fun e w' => e = .returned (.bool (Lib.containsAny s.data.toList chars.data.toList)) ∧ Below w.heap.size w w' := by
  have c : Calls P (ρ.f 153) #[.string s, .string chars] w fun e w' => e = .returned (.int .i64 (Lib.indexAny s.data.toList chars.data.toList)) ∧ Below w.heap.size w w' := by
    by_cases h8 : s.size ≤ 8
    · exact Ag.strings_IndexAny_any { L with } s chars w h2 h8 hcs hac
    · refine (Any.strings_IndexAny_long { L with } hv116 hi116 s chars w h2 (by omega) hs hcs hac).mono fun e w' ⟨h1, h2⟩ => ⟨h1, ?_⟩
      rw [h2]
      exact ((Below.refl _ _).alloc (Nat.le_refl _) _).alloc (by simp) _
  have t3 := L.t3; have a3 := L.a3; have z3 := L.z3; have v3 := L.v3
  have t4 := L.t4; have a4 := L.a4; have z4 := L.z4; have v4 := L.v4
  have t9 := L.t9; have a9 := L.a9; have z9 := L.z9; have v9 := L.v9
  have e153 : ∀ args w, (callFunc (ρ.f 153) args).run P w = .ok (.enter (ρ.f 153) args) w := enters_of L.f153 (by kernel_rfl) rfl
  go_enter L.f150, Body.n150_ntmps ρ
  go_wp2_with (go_at_fn (ρ.f 153); refine c.mono ?_; rintro e w' ⟨rfl, hw⟩)
  go_ret
  exact ⟨rfl, hw⟩

end Go.Proofs
